/- What the program's functions do, and that they end, part 6: made by a program of this session. -/
import Derived.Test.YtjbacabjgdfmdaaGreatDoorF1
namespace Go.Proofs
open Go Gm
namespace YtjbacabjgdfmdaaGreatDoor.Gp
/-- gimbal.sweep.Usual -/
def s89 : Sig := { args := [.agg [.int (.i64) (.v 0), .int (.i64) (.v 1), .int (.i64) (.v 2), .slc 0], .c (.int (.i64) (.v 4))], heap := [some (.list (.int (.u64)) 1 (.v 3) false)], npin := 0, np := 5, res := .agg [.int (.u64) (.v 0), .int (.u64) (.v 1)], out := [none], nr := 2 }
def e89 : Ent := ⟨71, s89⟩
def Es89 : List Ent := [e0, e1, e2, e3, e4, e5, e6, e7, e8, e9, e10, e11, e12, e13, e14, e15, e16, e17, e18, e19, e20, e21, e22, e23, e24, e25, e26, e27, e28, e29, e30, e31, e32, e33, e34, e35, e36, e37, e38, e39, e40, e41, e42, e43, e44, e45, e46, e47, e48, e49, e50, e51, e52, e53, e54, e55, e56, e57, e58, e59, e60, e61, e62, e63, e64, e65, e66, e67, e68, e69, e70, e71, e72, e73, e74, e75, e76, e77, e78, e79, e80, e81, e82, e83, e84, e85, e86, e87, e88]
def Tb89 : List PF := [F0, F1, F2, F3, F4, F5, F6, F7, F8, F9, F10, F11, F12, F13, F14, F15, F16, F17, F18, F19, F20, F21, F22, F23, F24, F25, F26, F27, F28, F29, F30, F31, F32, F33, F34, F35, F36, F37, F38, F39, F40, F41, F42, F43, F44, F45, F46, F47, F48, F49, F50, F51, F52, F53, F54, F55, F56, F57, F58, F59, F60, F61, F62, F63, F64, F65, F66, F67, F68, F69, F70, F71, F72, F73, F74, F75, F76, F77, F78, F79, F80, F81, F82, F83, F84, F85, F86, F87, F88]
def S89 : Sums := [x0, x1, x2, x3, x4, x5, x6, x7, x8, x9, x10, x11, x12, x13, x14, x15, x16, x17, x18, x19, x20, x21, x22, x23, x24, x25, x26, x27, x28, x29, x30, x31, x32, x33, x34, x35, x36, x37, x38, x39, x40, x41, x42, x43, x44, x45, x46, x47, x48, x49, x50, x51, x52, x53, x54, x55, x56, x57, x58, x59, x60, x61, x62, x63, x64, x65, x66, x67, x68, x69, x70, x71, x72, x73, x74, x75, x76, x77, x78, x79, x80, x81, x82, x83, x84, x85, x86, x87, x88]
set_option maxRecDepth 100000 in
def t89 : T := .op (.bin .sub .i64) [.v 4, .i 2] 1 (.op (.bin .sub .i64) [.v 4, .i 2] 1 (.op (.call 5) [.v 0, .v 1, .v 2, .v 3, .v 5, .v 6] 1 (.op (.bin .sub .i64) [.v 4, .i 2] 1 (.op (.bin .sub .i64) [.v 4, .i 1] 1 (.op (.call 5) [.v 0, .v 1, .v 2, .v 3, .v 8, .v 9] 1 (.op (.bin .sub .i64) [.v 4, .i 1] 1 (.op (.bin .sub .i64) [.v 4, .i 2] 1 (.op (.call 5) [.v 0, .v 1, .v 2, .v 3, .v 11, .v 12] 1 (.op (.bin .sub .i64) [.v 4, .i 1] 1 (.op (.bin .sub .i64) [.v 4, .i 1] 1 (.op (.call 5) [.v 0, .v 1, .v 2, .v 3, .v 14, .v 15] 1 (.op (.call 46) [.i 0, .v 7, .v 16] 2 (.op (.call 41) [.v 18, .v 7, .v 16] 2 (.op (.call 41) [.v 20, .v 10, .v 13] 2 (.op (.call 56) [.v 22, .v 19, .v 21] 2 (.ret [.v 17, .v 23]))))))))))))))))
noncomputable def c89 : Cfg := ⟨Tryz.prog, gl0, Es89, s89.npin, Tryz.f71, s89, {}⟩
set_option maxRecDepth 100000 in
theorem k89 : compile c89 = .ok t89 := by kernel_rfl
def F89 : PF := t89.fn Tb89
set_option maxRecDepth 100000 in
theorem o89 : Contract Tryz.prog gl0 e89.f e89.sg F89 := compile_ok (c := c89) n89 l89 mo0 Tryz.func71 (by kernel_rfl) k89
theorem w89 : Lawful F89 := T.fn_lawful l89 t89
def x89 : List (AS × List AS) := []
theorem y89 : ∀ x ∈ x89, SumOk F89 x := all_nil
set_option maxRecDepth 100000 in
theorem n90 : Ents Tryz.prog gl0 (Es89 ++ [e89]) (Tb89 ++ [F89]) := Ents.snoc n89 rfl o89 rfl rfl
theorem l90 : ∀ G ∈ Tb89 ++ [F89], Lawful G := lawful_snoc l89 w89 rfl
theorem z90 : SumsOk (Tb89 ++ [F89]) (S89 ++ [x89]) := SumsOk.snoc z89 rfl y89 rfl rfl
/-- gimbal.sweep.Other -/
def s90 : Sig := { args := [.agg [.int (.i64) (.v 0), .int (.i64) (.v 1), .int (.i64) (.v 2), .slc 0], .c (.int (.i64) (.v 4))], heap := [some (.list (.int (.u64)) 1 (.v 3) false)], npin := 0, np := 5, res := .agg [.int (.u64) (.v 0), .int (.u64) (.v 1)], out := [none], nr := 2 }
def e90 : Ent := ⟨72, s90⟩
def Es90 : List Ent := [e0, e1, e2, e3, e4, e5, e6, e7, e8, e9, e10, e11, e12, e13, e14, e15, e16, e17, e18, e19, e20, e21, e22, e23, e24, e25, e26, e27, e28, e29, e30, e31, e32, e33, e34, e35, e36, e37, e38, e39, e40, e41, e42, e43, e44, e45, e46, e47, e48, e49, e50, e51, e52, e53, e54, e55, e56, e57, e58, e59, e60, e61, e62, e63, e64, e65, e66, e67, e68, e69, e70, e71, e72, e73, e74, e75, e76, e77, e78, e79, e80, e81, e82, e83, e84, e85, e86, e87, e88, e89]
def Tb90 : List PF := [F0, F1, F2, F3, F4, F5, F6, F7, F8, F9, F10, F11, F12, F13, F14, F15, F16, F17, F18, F19, F20, F21, F22, F23, F24, F25, F26, F27, F28, F29, F30, F31, F32, F33, F34, F35, F36, F37, F38, F39, F40, F41, F42, F43, F44, F45, F46, F47, F48, F49, F50, F51, F52, F53, F54, F55, F56, F57, F58, F59, F60, F61, F62, F63, F64, F65, F66, F67, F68, F69, F70, F71, F72, F73, F74, F75, F76, F77, F78, F79, F80, F81, F82, F83, F84, F85, F86, F87, F88, F89]
def S90 : Sums := [x0, x1, x2, x3, x4, x5, x6, x7, x8, x9, x10, x11, x12, x13, x14, x15, x16, x17, x18, x19, x20, x21, x22, x23, x24, x25, x26, x27, x28, x29, x30, x31, x32, x33, x34, x35, x36, x37, x38, x39, x40, x41, x42, x43, x44, x45, x46, x47, x48, x49, x50, x51, x52, x53, x54, x55, x56, x57, x58, x59, x60, x61, x62, x63, x64, x65, x66, x67, x68, x69, x70, x71, x72, x73, x74, x75, x76, x77, x78, x79, x80, x81, x82, x83, x84, x85, x86, x87, x88, x89]
set_option maxRecDepth 100000 in
def t90 : T := .op (.bin .sub .i64) [.v 4, .i 1] 1 (.op (.bin .sub .i64) [.v 4, .i 2] 1 (.op (.call 5) [.v 0, .v 1, .v 2, .v 3, .v 5, .v 6] 1 (.op (.call 9) [.v 7] 1 (.op (.bin .sub .i64) [.v 4, .i 2] 1 (.op (.bin .sub .i64) [.v 4, .i 3] 1 (.op (.call 5) [.v 0, .v 1, .v 2, .v 3, .v 9, .v 10] 1 (.op (.call 9) [.v 11] 1 (.op (.call 46) [.i 0, .v 8, .v 12] 2 (.op (.call 41) [.v 14, .i 4604930618986332160, .v 13] 2 (.op (.bin .sub .i64) [.v 4, .i 1] 1 (.op (.bin .sub .i64) [.v 4, .i 1] 1 (.op (.call 5) [.v 0, .v 1, .v 2, .v 3, .v 17, .v 18] 1 (.op (.call 46) [.v 16, .v 15, .v 19] 2 (.op (.call 46) [.v 21, .v 20, .v 20] 2 (.op (.call 41) [.v 23, .v 20, .v 20] 2 (.op (.call 41) [.v 25, .v 13, .v 13] 2 (.op (.call 41) [.v 27, .i 13824924956120580096, .v 26] 2 (.op (.call 56) [.v 29, .v 24, .v 28] 2 (.ret [.v 22, .v 30])))))))))))))))))))
noncomputable def c90 : Cfg := ⟨Tryz.prog, gl0, Es90, s90.npin, Tryz.f72, s90, {}⟩
set_option maxRecDepth 100000 in
theorem k90 : compile c90 = .ok t90 := by kernel_rfl
def F90 : PF := t90.fn Tb90
set_option maxRecDepth 100000 in
theorem o90 : Contract Tryz.prog gl0 e90.f e90.sg F90 := compile_ok (c := c90) n90 l90 mo0 Tryz.func72 (by kernel_rfl) k90
theorem w90 : Lawful F90 := T.fn_lawful l90 t90
def x90 : List (AS × List AS) := []
theorem y90 : ∀ x ∈ x90, SumOk F90 x := all_nil
set_option maxRecDepth 100000 in
theorem n91 : Ents Tryz.prog gl0 (Es90 ++ [e90]) (Tb90 ++ [F90]) := Ents.snoc n90 rfl o90 rfl rfl
theorem l91 : ∀ G ∈ Tb90 ++ [F90], Lawful G := lawful_snoc l90 w90 rfl
theorem z91 : SumsOk (Tb90 ++ [F90]) (S90 ++ [x90]) := SumsOk.snoc z90 rfl y90 rfl rfl
/-- gimbal.hess.Is -/
def s91 : Sig := { args := [.agg [.int (.i64) (.v 0), .int (.i64) (.v 1), .int (.i64) (.v 2), .slc 0]], heap := [some (.list (.int (.u64)) 1 (.v 3) false)], npin := 0, np := 4, res := .c (.bool (.v 0)), out := [none], nr := 1 }
def e91 : Ent := ⟨116, s91⟩
def Es91 : List Ent := [e0, e1, e2, e3, e4, e5, e6, e7, e8, e9, e10, e11, e12, e13, e14, e15, e16, e17, e18, e19, e20, e21, e22, e23, e24, e25, e26, e27, e28, e29, e30, e31, e32, e33, e34, e35, e36, e37, e38, e39, e40, e41, e42, e43, e44, e45, e46, e47, e48, e49, e50, e51, e52, e53, e54, e55, e56, e57, e58, e59, e60, e61, e62, e63, e64, e65, e66, e67, e68, e69, e70, e71, e72, e73, e74, e75, e76, e77, e78, e79, e80, e81, e82, e83, e84, e85, e86, e87, e88, e89, e90]
def Tb91 : List PF := [F0, F1, F2, F3, F4, F5, F6, F7, F8, F9, F10, F11, F12, F13, F14, F15, F16, F17, F18, F19, F20, F21, F22, F23, F24, F25, F26, F27, F28, F29, F30, F31, F32, F33, F34, F35, F36, F37, F38, F39, F40, F41, F42, F43, F44, F45, F46, F47, F48, F49, F50, F51, F52, F53, F54, F55, F56, F57, F58, F59, F60, F61, F62, F63, F64, F65, F66, F67, F68, F69, F70, F71, F72, F73, F74, F75, F76, F77, F78, F79, F80, F81, F82, F83, F84, F85, F86, F87, F88, F89, F90]
def S91 : Sums := [x0, x1, x2, x3, x4, x5, x6, x7, x8, x9, x10, x11, x12, x13, x14, x15, x16, x17, x18, x19, x20, x21, x22, x23, x24, x25, x26, x27, x28, x29, x30, x31, x32, x33, x34, x35, x36, x37, x38, x39, x40, x41, x42, x43, x44, x45, x46, x47, x48, x49, x50, x51, x52, x53, x54, x55, x56, x57, x58, x59, x60, x61, x62, x63, x64, x65, x66, x67, x68, x69, x70, x71, x72, x73, x74, x75, x76, x77, x78, x79, x80, x81, x82, x83, x84, x85, x86, x87, x88, x89, x90]
set_option maxRecDepth 100000 in
def t91 : T := .seq (.loop [.i 2, .v 3, .v 0, .v 1, .v 2] (.op (.cmp .lss) [.v 0, .v 2] 1 (.ite (.v 5) (.seq (.seq (.loop [.v 0, .i 0, .v 1, .v 2, .v 3, .v 4] (.seq (.op (.bin .sub .i64) [.v 0, .i 1] 1 (.op (.cmp .lss) [.v 1, .v 6] 1 (.ite (.v 7) (.op (.cmp .lss) [.v 1, .v 4] 1 (.jump 0 [.v 0, .v 1, .v 8, .v 2, .v 3, .v 4, .v 5])) (.jump 0 [.v 0, .v 1, .b false, .v 2, .v 3, .v 4, .v 5])))) (.ite (.v 2) (.seq (.op (.call 5) [.v 4, .v 5, .v 6, .v 3, .v 0, .v 1] 1 (.op (.call 11) [.v 7] 1 (.op (.cmp .neq) [.v 8, .i 1] 1 (.ite (.v 9) (.ret [.b false]) (.jump 0 [.v 0, .v 1, .v 3, .v 4, .v 5, .v 6]))))) (.op (.bin .add .i64) [.v 1, .i 1] 1 (.jump 0 [.v 0, .v 6, .v 2, .v 3, .v 4, .v 5]))) (.jump 1 [.v 0, .v 3, .v 4, .v 5, .v 6])))) (.jump 0 [.v 0, .v 1, .v 2, .v 3, .v 4])) (.op (.bin .add .i64) [.v 0, .i 1] 1 (.jump 0 [.v 5, .v 1, .v 2, .v 3, .v 4]))) (.jump 1 [])))) (.ret [.b true])
noncomputable def c91 : Cfg := ⟨Tryz.prog, gl0, Es91, s91.npin, Tryz.f116, s91, {}⟩
set_option maxRecDepth 100000 in
theorem k91 : compile c91 = .ok t91 := by kernel_rfl
def F91 : PF := t91.fn Tb91
set_option maxRecDepth 100000 in
theorem o91 : Contract Tryz.prog gl0 e91.f e91.sg F91 := compile_ok (c := c91) n91 l91 mo0 Tryz.func116 (by kernel_rfl) k91
theorem w91 : Lawful F91 := T.fn_lawful l91 t91
def x91 : List (AS × List AS) := []
theorem y91 : ∀ x ∈ x91, SumOk F91 x := all_nil
set_option maxRecDepth 100000 in
theorem n92 : Ents Tryz.prog gl0 (Es91 ++ [e91]) (Tb91 ++ [F91]) := Ents.snoc n91 rfl o91 rfl rfl
theorem l92 : ∀ G ∈ Tb91 ++ [F91], Lawful G := lawful_snoc l91 w91 rfl
theorem z92 : SumsOk (Tb91 ++ [F91]) (S91 ++ [x91]) := SumsOk.snoc z91 rfl y91 rfl rfl
/-- gimbal.sweep.window -/
def s92 : Sig := { args := [.agg [.int (.i64) (.v 0), .int (.i64) (.v 1), .int (.i64) (.v 2), .slc 0], .agg [.int (.i64) (.v 4), .int (.i64) (.v 5), .int (.i64) (.v 6), .slc 1], .c (.int (.i64) (.v 8)), .c (.int (.i64) (.v 9))], heap := [some (.list (.int (.u64)) 1 (.v 3) false), some (.list (.int (.u64)) 1 (.v 7) false)], npin := 0, np := 10, res := .c (.int (.i64) (.v 0)), out := [none, none], nr := 1 }
def e92 : Ent := ⟨128, s92⟩
def Es92 : List Ent := [e0, e1, e2, e3, e4, e5, e6, e7, e8, e9, e10, e11, e12, e13, e14, e15, e16, e17, e18, e19, e20, e21, e22, e23, e24, e25, e26, e27, e28, e29, e30, e31, e32, e33, e34, e35, e36, e37, e38, e39, e40, e41, e42, e43, e44, e45, e46, e47, e48, e49, e50, e51, e52, e53, e54, e55, e56, e57, e58, e59, e60, e61, e62, e63, e64, e65, e66, e67, e68, e69, e70, e71, e72, e73, e74, e75, e76, e77, e78, e79, e80, e81, e82, e83, e84, e85, e86, e87, e88, e89, e90, e91]
def Tb92 : List PF := [F0, F1, F2, F3, F4, F5, F6, F7, F8, F9, F10, F11, F12, F13, F14, F15, F16, F17, F18, F19, F20, F21, F22, F23, F24, F25, F26, F27, F28, F29, F30, F31, F32, F33, F34, F35, F36, F37, F38, F39, F40, F41, F42, F43, F44, F45, F46, F47, F48, F49, F50, F51, F52, F53, F54, F55, F56, F57, F58, F59, F60, F61, F62, F63, F64, F65, F66, F67, F68, F69, F70, F71, F72, F73, F74, F75, F76, F77, F78, F79, F80, F81, F82, F83, F84, F85, F86, F87, F88, F89, F90, F91]
def S92 : Sums := [x0, x1, x2, x3, x4, x5, x6, x7, x8, x9, x10, x11, x12, x13, x14, x15, x16, x17, x18, x19, x20, x21, x22, x23, x24, x25, x26, x27, x28, x29, x30, x31, x32, x33, x34, x35, x36, x37, x38, x39, x40, x41, x42, x43, x44, x45, x46, x47, x48, x49, x50, x51, x52, x53, x54, x55, x56, x57, x58, x59, x60, x61, x62, x63, x64, x65, x66, x67, x68, x69, x70, x71, x72, x73, x74, x75, x76, x77, x78, x79, x80, x81, x82, x83, x84, x85, x86, x87, x88, x89, x90, x91]
set_option maxRecDepth 100000 in
def t92 : T := .seq (.seq (.op (.call 4) [.v 0, .v 1, .v 2, .v 3] 1 (.op (.cmp .neq) [.v 10, .i 0] 1 (.ite (.v 11) (.jump 0 [.v 8, .v 9, .b true, .v 3, .v 7, .v 0, .v 1, .v 2, .v 4, .v 5, .v 6]) (.op (.call 4) [.v 4, .v 5, .v 6, .v 7] 1 (.op (.cmp .neq) [.v 12, .i 0] 1 (.ite (.v 13) (.jump 0 [.v 8, .v 9, .b true, .v 3, .v 7, .v 0, .v 1, .v 2, .v 4, .v 5, .v 6]) (.op (.cmp .neq) [.v 0, .v 1] 1 (.ite (.v 14) (.jump 0 [.v 8, .v 9, .b true, .v 3, .v 7, .v 0, .v 1, .v 2, .v 4, .v 5, .v 6]) (.op (.cmp .neq) [.v 5, .v 0] 1 (.jump 0 [.v 8, .v 9, .v 15, .v 3, .v 7, .v 0, .v 1, .v 2, .v 4, .v 5, .v 6])))))))))) (.ite (.v 2) (.ret [.i 4]) (.seq (.op (.call 8) [.v 5, .v 6, .v 7, .v 3] 1 (.op .bnot [.v 11] 1 (.ite (.v 12) (.jump 0 [.v 0, .v 1, .b true, .v 3, .v 5, .v 6, .v 7]) (.op (.call 8) [.v 8, .v 9, .v 10, .v 4] 1 (.op .bnot [.v 13] 1 (.jump 0 [.v 0, .v 1, .v 14, .v 3, .v 5, .v 6, .v 7])))))) (.ite (.v 2) (.ret [.i 6]) (.seq (.op (.cmp .lss) [.v 0, .i 0] 1 (.ite (.v 7) (.jump 0 [.b true]) (.op (.cmp .lss) [.v 1, .i 3] 1 (.ite (.v 8) (.jump 0 [.b true]) (.op (.cmp .gtr) [.v 1, .v 4] 1 (.ite (.v 9) (.jump 0 [.b true]) (.op (.bin .sub .i64) [.v 1, .i 3] 1 (.op (.cmp .gtr) [.v 0, .v 10] 1 (.ite (.v 11) (.jump 0 [.b true]) (.op (.call 91) [.v 4, .v 5, .v 6, .v 3] 1 (.op .bnot [.v 12] 1 (.jump 0 [.v 13])))))))))))) (.ite (.v 0) (.ret [.i 1]) (.jump 0 []))))))) (.ret [.i 0])
noncomputable def c92 : Cfg := ⟨Tryz.prog, gl0, Es92, s92.npin, Tryz.f128, s92, {}⟩
set_option maxRecDepth 100000 in
theorem k92 : compile c92 = .ok t92 := by kernel_rfl
def F92 : PF := t92.fn Tb92
set_option maxRecDepth 100000 in
theorem o92 : Contract Tryz.prog gl0 e92.f e92.sg F92 := compile_ok (c := c92) n92 l92 mo0 Tryz.func128 (by kernel_rfl) k92
theorem w92 : Lawful F92 := T.fn_lawful l92 t92
def x92 : List (AS × List AS) := []
theorem y92 : ∀ x ∈ x92, SumOk F92 x := all_nil
set_option maxRecDepth 100000 in
theorem n93 : Ents Tryz.prog gl0 (Es92 ++ [e92]) (Tb92 ++ [F92]) := Ents.snoc n92 rfl o92 rfl rfl
theorem l93 : ∀ G ∈ Tb92 ++ [F92], Lawful G := lawful_snoc l92 w92 rfl
theorem z93 : SumsOk (Tb92 ++ [F92]) (S92 ++ [x92]) := SumsOk.snoc z92 rfl y92 rfl rfl
/-- gimbal.sweep.Sweep -/
def s93 : Sig := { args := [.agg [.int (.i64) (.v 0), .int (.i64) (.v 1), .int (.i64) (.v 2), .slc 0], .agg [.int (.i64) (.v 4), .int (.i64) (.v 5), .int (.i64) (.v 6), .slc 1], .c (.int (.i64) (.v 8)), .c (.int (.i64) (.v 9)), .agg [.int (.u64) (.v 10), .int (.u64) (.v 11)]], heap := [some (.list (.int (.u64)) 1 (.v 3) false), some (.list (.int (.u64)) 1 (.v 7) false)], npin := 0, np := 12, res := .tup [{ agg := true, cs := [.int (.i64) (.v 0), .int (.i64) (.v 1), .int (.i64) (.v 2), .slc 2] }, { agg := true, cs := [.int (.i64) (.v 4), .int (.i64) (.v 5), .int (.i64) (.v 6), .slc 3] }, { agg := false, cs := [.int (.i64) (.v 8)] }], out := [none, none, some (.list (.int (.u64)) 1 (.v 3) true), some (.list (.int (.u64)) 1 (.v 7) true)], nr := 9 }
def e93 : Ent := ⟨73, s93⟩
def Es93 : List Ent := [e0, e1, e2, e3, e4, e5, e6, e7, e8, e9, e10, e11, e12, e13, e14, e15, e16, e17, e18, e19, e20, e21, e22, e23, e24, e25, e26, e27, e28, e29, e30, e31, e32, e33, e34, e35, e36, e37, e38, e39, e40, e41, e42, e43, e44, e45, e46, e47, e48, e49, e50, e51, e52, e53, e54, e55, e56, e57, e58, e59, e60, e61, e62, e63, e64, e65, e66, e67, e68, e69, e70, e71, e72, e73, e74, e75, e76, e77, e78, e79, e80, e81, e82, e83, e84, e85, e86, e87, e88, e89, e90, e91, e92]
def Tb93 : List PF := [F0, F1, F2, F3, F4, F5, F6, F7, F8, F9, F10, F11, F12, F13, F14, F15, F16, F17, F18, F19, F20, F21, F22, F23, F24, F25, F26, F27, F28, F29, F30, F31, F32, F33, F34, F35, F36, F37, F38, F39, F40, F41, F42, F43, F44, F45, F46, F47, F48, F49, F50, F51, F52, F53, F54, F55, F56, F57, F58, F59, F60, F61, F62, F63, F64, F65, F66, F67, F68, F69, F70, F71, F72, F73, F74, F75, F76, F77, F78, F79, F80, F81, F82, F83, F84, F85, F86, F87, F88, F89, F90, F91, F92]
def S93 : Sums := [x0, x1, x2, x3, x4, x5, x6, x7, x8, x9, x10, x11, x12, x13, x14, x15, x16, x17, x18, x19, x20, x21, x22, x23, x24, x25, x26, x27, x28, x29, x30, x31, x32, x33, x34, x35, x36, x37, x38, x39, x40, x41, x42, x43, x44, x45, x46, x47, x48, x49, x50, x51, x52, x53, x54, x55, x56, x57, x58, x59, x60, x61, x62, x63, x64, x65, x66, x67, x68, x69, x70, x71, x72, x73, x74, x75, x76, x77, x78, x79, x80, x81, x82, x83, x84, x85, x86, x87, x88, x89, x90, x91, x92]
set_option maxRecDepth 100000 in
def t93 : T := .op (.call 92) [.v 0, .v 1, .v 2, .v 3, .v 4, .v 5, .v 6, .v 7, .v 8, .v 9] 1 (.op (.cmp .neq) [.v 12, .i 0] 1 (.ite (.v 13) (.ret [.i 0, .i 0, .i 0, .nil, .i 0, .i 0, .i 0, .nil, .v 12]) (.op (.call 5) [.v 0, .v 1, .v 2, .v 3, .v 8, .v 8] 1 (.op (.bin .add .i64) [.v 8, .i 1] 1 (.op (.call 5) [.v 0, .v 1, .v 2, .v 3, .v 8, .v 15] 1 (.op (.bin .add .i64) [.v 8, .i 1] 1 (.op (.call 5) [.v 0, .v 1, .v 2, .v 3, .v 17, .v 8] 1 (.op (.call 56) [.i 0, .v 14, .v 10] 2 (.op (.call 41) [.v 20, .v 14, .v 19] 2 (.op (.call 46) [.v 22, .v 21, .v 11] 2 (.op (.call 41) [.v 24, .v 16, .v 18] 2 (.op (.call 46) [.v 26, .v 23, .v 25] 2 (.op (.bin .add .i64) [.v 8, .i 1] 1 (.op (.bin .add .i64) [.v 8, .i 1] 1 (.op (.call 5) [.v 0, .v 1, .v 2, .v 3, .v 29, .v 30] 1 (.op (.call 46) [.v 28, .v 14, .v 31] 2 (.op (.call 56) [.v 33, .v 32, .v 10] 2 (.op (.call 41) [.v 35, .v 18, .v 34] 2 (.op (.bin .add .i64) [.v 8, .i 2] 1 (.op (.bin .add .i64) [.v 8, .i 1] 1 (.op (.call 5) [.v 0, .v 1, .v 2, .v 3, .v 38, .v 39] 1 (.op (.call 41) [.v 37, .v 18, .v 40] 2 (.op .lit [.v 27, .v 36, .v 41] 1 (.op (.call 13) [.v 0, .v 1, .v 2, .v 3] 4 (.op (.call 13) [.v 4, .v 5, .v 6, .v 7] 4 (.seq (.loop [.v 8, .v 9, .v 8, .v 44, .v 45, .v 46, .v 48, .v 49, .v 50, .i 0, .i 0, .i 0, .nil, .i 0, .i 0, .i 0, .nil, .v 43, .v 47, .v 51] (.op (.bin .sub .i64) [.v 1, .i 1] 1 (.op (.cmp .lss) [.v 2, .v 20] 1 (.ite (.v 21) (.seq (.op (.bin .sub .i64) [.v 1, .v 2] 1 (.op .mn [.i 3, .v 22] 1 (.op (.len 1) [.v 17] 1 (.op .rng [.i 0, .v 23, .v 24] 1 (.op (.sl 1) [.v 17, .i 0, .v 25] 1 (.op (.call 63) [.v 26] 5 (.op (.cmp .neq) [.v 31, .i 0] 1 (.ite (.v 32) (.ret [.i 0, .i 0, .i 0, .nil, .i 0, .i 0, .i 0, .nil, .v 31]) (.op (.call 70) [.v 3, .v 4, .v 5, .v 18, .v 6, .v 7, .v 8, .v 19, .v 27, .v 28, .v 2] 8 (.op (.cmp .gtr) [.v 2, .v 0] 1 (.seq (.ite (.v 41) (.op (.bin .sub .i64) [.v 2, .i 1] 1 (.op (.call 2) [.v 33, .v 34, .v 35, .v 36, .v 2, .v 42, .v 29] 1 (.op (.bin .add .i64) [.v 2, .i 1] 1 (.seq (.loop [.v 0, .v 1, .v 2, .v 44, .v 33, .v 34, .v 35, .v 37, .v 38, .v 39, .v 9, .v 10, .v 11, .v 12, .v 13, .v 14, .v 15, .v 16, .v 43, .v 40] (.op (.bin .add .i64) [.v 2, .i 3] 1 (.op .mn [.v 20, .v 1] 1 (.op (.cmp .lss) [.v 3, .v 21] 1 (.ite (.v 22) (.seq (.op (.bin .sub .i64) [.v 2, .i 1] 1 (.op (.call 2) [.v 4, .v 5, .v 6, .v 18, .v 3, .v 23, .i 0] 1 (.jump 0 [.v 0, .v 1, .v 2, .v 3, .v 4, .v 5, .v 6, .v 7, .v 8, .v 9, .v 10, .v 11, .v 12, .v 13, .v 14, .v 15, .v 16, .v 17, .v 24, .v 19]))) (.op (.bin .add .i64) [.v 3, .i 1] 1 (.jump 0 [.v 0, .v 1, .v 2, .v 20, .v 4, .v 5, .v 6, .v 7, .v 8, .v 9, .v 10, .v 11, .v 12, .v 13, .v 14, .v 15, .v 16, .v 17, .v 18, .v 19]))) (.jump 1 [.v 0, .v 1, .v 2, .v 4, .v 5, .v 6, .v 7, .v 8, .v 9, .v 10, .v 11, .v 12, .v 13, .v 14, .v 15, .v 16, .v 17, .v 18, .v 19])))))) (.jump 0 [.v 0, .v 1, .v 2, .v 3, .v 4, .v 5, .v 6, .v 7, .v 8, .v 9, .v 10, .v 11, .v 12, .v 13, .v 14, .v 15, .v 16, .v 17, .v 18]))))) (.jump 0 [.v 0, .v 1, .v 2, .v 33, .v 34, .v 35, .v 37, .v 38, .v 39, .v 9, .v 10, .v 11, .v 12, .v 13, .v 14, .v 15, .v 16, .v 36, .v 40])) (.op (.bin .add .i64) [.v 2, .i 1] 1 (.seq (.loop [.v 0, .v 1, .v 2, .v 19, .v 3, .v 4, .v 5, .v 6, .v 7, .v 8, .v 9, .v 10, .v 11, .v 12, .v 13, .v 14, .v 15, .v 16, .v 17, .v 18, .nil] (.op (.bin .add .i64) [.v 2, .i 4] 1 (.op .mn [.v 21, .v 1] 1 (.op (.cmp .lss) [.v 3, .v 22] 1 (.ite (.v 23) (.seq (.op (.call 5) [.v 4, .v 5, .v 6, .v 18, .v 3, .v 2] 1 (.op .lit [.v 24] 1 (.op .app [.v 20, .v 25] 1 (.jump 0 [.v 0, .v 1, .v 2, .v 3, .v 4, .v 5, .v 6, .v 7, .v 8, .v 9, .v 10, .v 11, .v 12, .v 13, .v 14, .v 15, .v 16, .v 17, .v 18, .v 19, .v 26])))) (.op (.bin .add .i64) [.v 3, .i 1] 1 (.jump 0 [.v 0, .v 1, .v 2, .v 21, .v 4, .v 5, .v 6, .v 7, .v 8, .v 9, .v 10, .v 11, .v 12, .v 13, .v 14, .v 15, .v 16, .v 17, .v 18, .v 19, .v 20]))) (.jump 1 [.v 0, .v 1, .v 2, .v 4, .v 5, .v 6, .v 7, .v 8, .v 9, .v 10, .v 11, .v 12, .v 13, .v 14, .v 15, .v 16, .v 17, .v 18, .v 19, .v 20])))))) (.jump 0 [.v 0, .v 1, .v 2, .v 3, .v 4, .v 5, .v 6, .v 7, .v 8, .v 9, .v 10, .v 11, .v 12, .v 13, .v 14, .v 15, .v 16, .v 19, .v 17, .v 18])))))))))))))) (.op (.bin .add .i64) [.v 2, .i 1] 1 (.jump 0 [.v 0, .v 1, .v 20, .v 3, .v 4, .v 5, .v 6, .v 7, .v 8, .v 9, .v 10, .v 11, .v 12, .v 13, .v 14, .v 15, .v 16, .v 17, .v 18, .v 19]))) (.jump 1 [.v 3, .v 4, .v 5, .v 6, .v 7, .v 8, .v 9, .v 10, .v 11, .v 12, .v 13, .v 14, .v 15, .v 16, .v 18, .v 19]))))) (.ret [.v 0, .v 1, .v 2, .v 14, .v 3, .v 4, .v 5, .v 15, .i 0])))))))))))))))))))))))))))
noncomputable def c93 : Cfg := ⟨Tryz.prog, gl0, Es93, s93.npin, Tryz.f73, s93, {}⟩
set_option maxRecDepth 100000 in
theorem k93 : compile c93 = .ok t93 := by kernel_rfl
def F93 : PF := t93.fn Tb93
set_option maxRecDepth 100000 in
theorem o93 : Contract Tryz.prog gl0 e93.f e93.sg F93 := compile_ok (c := c93) n93 l93 mo0 Tryz.func73 (by kernel_rfl) k93
theorem w93 : Lawful F93 := T.fn_lawful l93 t93
def x93 : List (AS × List AS) := []
theorem y93 : ∀ x ∈ x93, SumOk F93 x := all_nil
set_option maxRecDepth 100000 in
theorem n94 : Ents Tryz.prog gl0 (Es93 ++ [e93]) (Tb93 ++ [F93]) := Ents.snoc n93 rfl o93 rfl rfl
theorem l94 : ∀ G ∈ Tb93 ++ [F93], Lawful G := lawful_snoc l93 w93 rfl
theorem z94 : SumsOk (Tb93 ++ [F93]) (S93 ++ [x93]) := SumsOk.snoc z93 rfl y93 rfl rfl
/-- gimbal.schur.Of -/
def s94 : Sig := { args := [.agg [.int (.i64) (.v 0), .int (.i64) (.v 1), .int (.i64) (.v 2), .slc 0]], heap := [some (.list (.int (.u64)) 1 (.v 3) false)], npin := 0, np := 4, res := .tup [{ agg := true, cs := [.int (.i64) (.v 0), .int (.i64) (.v 1), .int (.i64) (.v 2), .slc 1, .int (.i64) (.v 4), .int (.i64) (.v 5), .int (.i64) (.v 6), .slc 2, .int (.i64) (.v 8), .int (.i64) (.v 9), .int (.i64) (.v 10)] }, { agg := false, cs := [.int (.i64) (.v 11)] }], out := [none, some (.list (.int (.u64)) 1 (.v 3) true), some (.list (.int (.u64)) 1 (.v 7) true)], nr := 12 }
def e94 : Ent := ⟨18, s94⟩
def Es94 : List Ent := [e0, e1, e2, e3, e4, e5, e6, e7, e8, e9, e10, e11, e12, e13, e14, e15, e16, e17, e18, e19, e20, e21, e22, e23, e24, e25, e26, e27, e28, e29, e30, e31, e32, e33, e34, e35, e36, e37, e38, e39, e40, e41, e42, e43, e44, e45, e46, e47, e48, e49, e50, e51, e52, e53, e54, e55, e56, e57, e58, e59, e60, e61, e62, e63, e64, e65, e66, e67, e68, e69, e70, e71, e72, e73, e74, e75, e76, e77, e78, e79, e80, e81, e82, e83, e84, e85, e86, e87, e88, e89, e90, e91, e92, e93]
def Tb94 : List PF := [F0, F1, F2, F3, F4, F5, F6, F7, F8, F9, F10, F11, F12, F13, F14, F15, F16, F17, F18, F19, F20, F21, F22, F23, F24, F25, F26, F27, F28, F29, F30, F31, F32, F33, F34, F35, F36, F37, F38, F39, F40, F41, F42, F43, F44, F45, F46, F47, F48, F49, F50, F51, F52, F53, F54, F55, F56, F57, F58, F59, F60, F61, F62, F63, F64, F65, F66, F67, F68, F69, F70, F71, F72, F73, F74, F75, F76, F77, F78, F79, F80, F81, F82, F83, F84, F85, F86, F87, F88, F89, F90, F91, F92, F93]
def S94 : Sums := [x0, x1, x2, x3, x4, x5, x6, x7, x8, x9, x10, x11, x12, x13, x14, x15, x16, x17, x18, x19, x20, x21, x22, x23, x24, x25, x26, x27, x28, x29, x30, x31, x32, x33, x34, x35, x36, x37, x38, x39, x40, x41, x42, x43, x44, x45, x46, x47, x48, x49, x50, x51, x52, x53, x54, x55, x56, x57, x58, x59, x60, x61, x62, x63, x64, x65, x66, x67, x68, x69, x70, x71, x72, x73, x74, x75, x76, x77, x78, x79, x80, x81, x82, x83, x84, x85, x86, x87, x88, x89, x90, x91, x92, x93]
set_option maxRecDepth 100000 in
def t94 : T := .op (.call 71) [.v 0, .v 1, .v 2, .v 3] 10 (.op (.cmp .neq) [.v 13, .i 0] 1 (.ite (.v 14) (.ret [.i 0, .i 0, .i 0, .nil, .i 0, .i 0, .i 0, .nil, .i 0, .i 0, .i 0, .v 13]) (.seq (.loop [.v 4, .i 0, .i 0, .i 0, .i 0, .i 0, .i 0, .i 0, .i 0, .i 0, .i 0, .nil, .nil, .v 7, .v 11, .v 4, .v 5, .v 6, .v 4, .v 5, .v 6, .v 8, .v 9, .v 10, .v 12, .i 0, .i 0] (.op (.cmp .gtr) [.v 0, .i 0] 1 (.ite (.v 27) (.seq (.op (.bin .sub .i64) [.v 0, .i 1] 1 (.seq (.loop [.v 0, .v 1, .v 28, .v 2, .v 3, .v 4, .v 5, .v 6, .v 7, .v 8, .v 9, .v 10, .v 11, .v 12, .v 13, .v 14, .v 15, .v 16, .v 17, .v 18, .v 19, .v 20, .v 21, .v 22, .v 23, .v 24, .v 25, .v 26] (.op (.cmp .gtr) [.v 2, .i 0] 1 (.ite (.v 28) (.seq (.op (.call 75) [.v 19, .v 20, .v 21, .v 14, .v 2] 1 (.ite (.v 29) (.op (.bin .sub .i64) [.v 2, .i 1] 1 (.op (.call 2) [.v 19, .v 20, .v 21, .v 14, .v 2, .v 30, .i 0] 1 (.jump 2 [.v 0, .v 1, .v 2, .v 3, .v 4, .v 5, .v 6, .v 7, .v 8, .v 9, .v 10, .v 11, .v 12, .v 13, .v 31, .v 15, .v 16, .v 17, .v 18, .v 19, .v 20, .v 21, .v 22, .v 23, .v 24, .v 25, .v 26, .v 27]))) (.jump 0 [.v 0, .v 1, .v 2, .v 3, .v 4, .v 5, .v 6, .v 7, .v 8, .v 9, .v 10, .v 11, .v 12, .v 13, .v 14, .v 15, .v 16, .v 17, .v 18, .v 19, .v 20, .v 21, .v 22, .v 23, .v 24, .v 25, .v 26, .v 27]))) (.op (.bin .sub .i64) [.v 2, .i 1] 1 (.jump 0 [.v 0, .v 1, .v 28, .v 3, .v 4, .v 5, .v 6, .v 7, .v 8, .v 9, .v 10, .v 11, .v 12, .v 13, .v 14, .v 15, .v 16, .v 17, .v 18, .v 19, .v 20, .v 21, .v 22, .v 23, .v 24, .v 25, .v 26, .v 27]))) (.jump 1 [.v 0, .v 1, .v 2, .v 3, .v 4, .v 5, .v 6, .v 7, .v 8, .v 9, .v 10, .v 11, .v 12, .v 13, .v 14, .v 15, .v 16, .v 17, .v 18, .v 19, .v 20, .v 21, .v 22, .v 23, .v 24, .v 25, .v 26, .v 27])))) (.op (.bin .sub .i64) [.v 0, .v 2] 1 (.seq (.op (.cmp .eql) [.v 28, .i 1] 1 (.ite (.v 29) (.jump 1 [.v 2, .i 0, .v 3, .v 4, .v 5, .v 6, .v 7, .v 8, .v 9, .v 10, .v 11, .v 12, .v 13, .v 14, .v 15, .v 16, .v 17, .v 18, .v 19, .v 20, .v 21, .v 22, .v 23, .v 24, .v 25, .v 26, .v 27]) (.op (.cmp .eql) [.v 28, .i 2] 1 (.ite (.v 30) (.op (.call 87) [.v 19, .v 20, .v 21, .v 14, .v 22, .v 23, .v 24, .v 15, .v 25, .v 26, .v 27, .v 2] 11 (.jump 1 [.v 2, .i 0, .v 3, .v 4, .v 5, .v 6, .v 7, .v 8, .v 9, .v 10, .v 11, .v 12, .v 13, .v 40, .v 41, .v 16, .v 17, .v 18, .v 31, .v 32, .v 33, .v 34, .v 35, .v 36, .v 37, .v 38, .v 39])) (.jump 0 [.v 0, .v 1, .v 2, .v 3, .v 4, .v 5, .v 6, .v 7, .v 8, .v 9, .v 10, .v 11, .v 12, .v 13, .v 14, .v 15, .v 16, .v 17, .v 18, .v 19, .v 20, .v 21, .v 22, .v 23, .v 24, .v 25, .v 26, .v 27]))))) (.op (.call 88) [.v 16] 1 (.op (.cmp .eql) [.v 26, .v 28] 1 (.ite (.v 29) (.ret [.v 19, .v 20, .v 21, .v 14, .v 22, .v 23, .v 24, .v 15, .v 25, .v 26, .v 0, .i 8]) (.op (.call 89) [.v 19, .v 20, .v 21, .v 14, .v 0] 2 (.op (.bin .rem .i64) [.v 1, .i 10] 1 (.op (.cmp .eql) [.v 32, .i 9] 1 (.seq (.ite (.v 33) (.op (.call 90) [.v 19, .v 20, .v 21, .v 14, .v 0] 2 (.jump 0 [.v 0, .v 1, .v 2, .v 3, .v 4, .v 5, .v 6, .v 7, .v 8, .v 9, .v 10, .v 11, .v 12, .v 13, .v 14, .v 15, .v 16, .v 17, .v 18, .v 19, .v 20, .v 21, .v 22, .v 23, .v 24, .v 25, .v 26, .v 27, .v 34, .v 35])) (.jump 0 [.v 0, .v 1, .v 2, .v 3, .v 4, .v 5, .v 6, .v 7, .v 8, .v 9, .v 10, .v 11, .v 12, .v 13, .v 14, .v 15, .v 16, .v 17, .v 18, .v 19, .v 20, .v 21, .v 22, .v 23, .v 24, .v 25, .v 26, .v 27, .v 30, .v 31])) (.op (.call 93) [.v 19, .v 20, .v 21, .v 14, .v 22, .v 23, .v 24, .v 15, .v 2, .v 0, .v 28, .v 29] 9 (.op (.cmp .neq) [.v 38, .i 0] 1 (.ite (.v 39) (.ret [.i 0, .i 0, .i 0, .nil, .i 0, .i 0, .i 0, .nil, .i 0, .i 0, .i 0, .v 38]) (.op (.bin .add .i64) [.v 26, .i 1] 1 (.op (.bin .add .i64) [.v 1, .i 1] 1 (.jump 0 [.v 0, .v 41, .v 3, .v 4, .v 5, .v 6, .v 7, .v 8, .v 9, .v 10, .v 11, .v 12, .v 13, .v 33, .v 37, .v 16, .v 17, .v 18, .v 30, .v 31, .v 32, .v 34, .v 35, .v 36, .v 25, .v 40, .v 27]))))))))))))))))) (.jump 0 [.v 0, .v 1, .v 2, .v 3, .v 4, .v 5, .v 6, .v 7, .v 8, .v 9, .v 10, .v 11, .v 12, .v 13, .v 14, .v 15, .v 16, .v 17, .v 18, .v 19, .v 20, .v 21, .v 22, .v 23, .v 24, .v 25, .v 26])) (.jump 1 [.v 2, .v 3, .v 4, .v 5, .v 6, .v 7, .v 8, .v 9, .v 10, .v 11, .v 12, .v 13, .v 14, .v 18, .v 19, .v 20, .v 21, .v 22, .v 23, .v 24, .v 25, .v 26])))) (.ret [.v 13, .v 14, .v 15, .v 11, .v 16, .v 17, .v 18, .v 12, .v 19, .v 20, .v 21, .i 0]))))
noncomputable def c94 : Cfg := ⟨Tryz.prog, gl0, Es94, s94.npin, Tryz.f18, s94, { fg := [(20006, 4, 3), (6, 4, 3)] }⟩
set_option maxRecDepth 100000 in
theorem k94 : compile c94 = .ok t94 := by kernel_rfl
def F94 : PF := t94.fn Tb94
set_option maxRecDepth 100000 in
theorem o94 : Contract Tryz.prog gl0 e94.f e94.sg F94 := compile_ok (c := c94) n94 l94 mo0 Tryz.func18 (by kernel_rfl) k94
theorem w94 : Lawful F94 := T.fn_lawful l94 t94
def x94 : List (AS × List AS) := []
theorem y94 : ∀ x ∈ x94, SumOk F94 x := all_nil
set_option maxRecDepth 100000 in
theorem n95 : Ents Tryz.prog gl0 (Es94 ++ [e94]) (Tb94 ++ [F94]) := Ents.snoc n94 rfl o94 rfl rfl
theorem l95 : ∀ G ∈ Tb94 ++ [F94], Lawful G := lawful_snoc l94 w94 rfl
theorem z95 : SumsOk (Tb94 ++ [F94]) (S94 ++ [x94]) := SumsOk.snoc z94 rfl y94 rfl rfl
/-- gimbal.eig.status -/
def s95 : Sig := { args := [.c (.int (.i64) (.v 0))], heap := [], npin := 0, np := 1, res := .c (.int (.i64) (.v 0)), out := [], nr := 1 }
def e95 : Ent := ⟨75, s95⟩
def Es95 : List Ent := [e0, e1, e2, e3, e4, e5, e6, e7, e8, e9, e10, e11, e12, e13, e14, e15, e16, e17, e18, e19, e20, e21, e22, e23, e24, e25, e26, e27, e28, e29, e30, e31, e32, e33, e34, e35, e36, e37, e38, e39, e40, e41, e42, e43, e44, e45, e46, e47, e48, e49, e50, e51, e52, e53, e54, e55, e56, e57, e58, e59, e60, e61, e62, e63, e64, e65, e66, e67, e68, e69, e70, e71, e72, e73, e74, e75, e76, e77, e78, e79, e80, e81, e82, e83, e84, e85, e86, e87, e88, e89, e90, e91, e92, e93, e94]
def Tb95 : List PF := [F0, F1, F2, F3, F4, F5, F6, F7, F8, F9, F10, F11, F12, F13, F14, F15, F16, F17, F18, F19, F20, F21, F22, F23, F24, F25, F26, F27, F28, F29, F30, F31, F32, F33, F34, F35, F36, F37, F38, F39, F40, F41, F42, F43, F44, F45, F46, F47, F48, F49, F50, F51, F52, F53, F54, F55, F56, F57, F58, F59, F60, F61, F62, F63, F64, F65, F66, F67, F68, F69, F70, F71, F72, F73, F74, F75, F76, F77, F78, F79, F80, F81, F82, F83, F84, F85, F86, F87, F88, F89, F90, F91, F92, F93, F94]
def S95 : Sums := [x0, x1, x2, x3, x4, x5, x6, x7, x8, x9, x10, x11, x12, x13, x14, x15, x16, x17, x18, x19, x20, x21, x22, x23, x24, x25, x26, x27, x28, x29, x30, x31, x32, x33, x34, x35, x36, x37, x38, x39, x40, x41, x42, x43, x44, x45, x46, x47, x48, x49, x50, x51, x52, x53, x54, x55, x56, x57, x58, x59, x60, x61, x62, x63, x64, x65, x66, x67, x68, x69, x70, x71, x72, x73, x74, x75, x76, x77, x78, x79, x80, x81, x82, x83, x84, x85, x86, x87, x88, x89, x90, x91, x92, x93, x94]
set_option maxRecDepth 100000 in
def t95 : T := .seq (.op (.cmp .geq) [.v 0, .i 0] 1 (.ite (.v 1) (.op (.cmp .lss) [.v 0, .i 10] 1 (.ite (.v 2) (.op .chkn [.i 10, .v 0] 0 (.op (.tab [1, 0, 0, 0, 2, 0, 3, 0, 4, 5]) [.v 0] 1 (.op (.cmp .neq) [.v 3, .i 0] 1 (.jump 0 [.v 0, .v 4])))) (.jump 0 [.v 0, .b false]))) (.jump 0 [.v 0, .b false]))) (.ite (.v 1) (.op .chkn [.i 10, .v 0] 0 (.op (.tab [1, 0, 0, 0, 2, 0, 3, 0, 4, 5]) [.v 0] 1 (.ret [.v 2]))) (.ret [.i 6]))
noncomputable def c95 : Cfg := ⟨Tryz.prog, gl0, Es95, s95.npin, Tryz.f75, s95, {}⟩
set_option maxRecDepth 100000 in
theorem k95 : compile c95 = .ok t95 := by kernel_rfl
def F95 : PF := t95.fn Tb95
set_option maxRecDepth 100000 in
theorem o95 : Contract Tryz.prog gl0 e95.f e95.sg F95 := compile_ok (c := c95) n95 l95 mo0 Tryz.func75 (by kernel_rfl) k95
theorem w95 : Lawful F95 := T.fn_lawful l95 t95
def x95 : List (AS × List AS) := []
theorem y95 : ∀ x ∈ x95, SumOk F95 x := all_nil
set_option maxRecDepth 100000 in
theorem n96 : Ents Tryz.prog gl0 (Es95 ++ [e95]) (Tb95 ++ [F95]) := Ents.snoc n95 rfl o95 rfl rfl
theorem l96 : ∀ G ∈ Tb95 ++ [F95], Lawful G := lawful_snoc l95 w95 rfl
theorem z96 : SumsOk (Tb95 ++ [F95]) (S95 ++ [x95]) := SumsOk.snoc z95 rfl y95 rfl rfl
/-- gimbal.schur.Blocks -/
def s96 : Sig := { args := [.agg [.int (.i64) (.v 0), .int (.i64) (.v 1), .int (.i64) (.v 2), .slc 0]], heap := [some (.list (.int (.u64)) 1 (.v 3) false)], npin := 0, np := 4, res := .tup [{ agg := false, cs := [.slc 1] }, { agg := false, cs := [.bool (.v 1)] }], out := [none, some (.list (.int (.i64)) 1 (.v 0) true)], nr := 2 }
def e96 : Ent := ⟨64, s96⟩
def Es96 : List Ent := [e0, e1, e2, e3, e4, e5, e6, e7, e8, e9, e10, e11, e12, e13, e14, e15, e16, e17, e18, e19, e20, e21, e22, e23, e24, e25, e26, e27, e28, e29, e30, e31, e32, e33, e34, e35, e36, e37, e38, e39, e40, e41, e42, e43, e44, e45, e46, e47, e48, e49, e50, e51, e52, e53, e54, e55, e56, e57, e58, e59, e60, e61, e62, e63, e64, e65, e66, e67, e68, e69, e70, e71, e72, e73, e74, e75, e76, e77, e78, e79, e80, e81, e82, e83, e84, e85, e86, e87, e88, e89, e90, e91, e92, e93, e94, e95]
def Tb96 : List PF := [F0, F1, F2, F3, F4, F5, F6, F7, F8, F9, F10, F11, F12, F13, F14, F15, F16, F17, F18, F19, F20, F21, F22, F23, F24, F25, F26, F27, F28, F29, F30, F31, F32, F33, F34, F35, F36, F37, F38, F39, F40, F41, F42, F43, F44, F45, F46, F47, F48, F49, F50, F51, F52, F53, F54, F55, F56, F57, F58, F59, F60, F61, F62, F63, F64, F65, F66, F67, F68, F69, F70, F71, F72, F73, F74, F75, F76, F77, F78, F79, F80, F81, F82, F83, F84, F85, F86, F87, F88, F89, F90, F91, F92, F93, F94, F95]
def S96 : Sums := [x0, x1, x2, x3, x4, x5, x6, x7, x8, x9, x10, x11, x12, x13, x14, x15, x16, x17, x18, x19, x20, x21, x22, x23, x24, x25, x26, x27, x28, x29, x30, x31, x32, x33, x34, x35, x36, x37, x38, x39, x40, x41, x42, x43, x44, x45, x46, x47, x48, x49, x50, x51, x52, x53, x54, x55, x56, x57, x58, x59, x60, x61, x62, x63, x64, x65, x66, x67, x68, x69, x70, x71, x72, x73, x74, x75, x76, x77, x78, x79, x80, x81, x82, x83, x84, x85, x86, x87, x88, x89, x90, x91, x92, x93, x94, x95]
set_option maxRecDepth 100000 in
def t96 : T := .seq (.op (.call 4) [.v 0, .v 1, .v 2, .v 3] 1 (.op (.cmp .neq) [.v 4, .i 0] 1 (.ite (.v 5) (.jump 0 [.b true, .v 3, .v 0, .v 1, .v 2]) (.op (.cmp .neq) [.v 0, .v 1] 1 (.ite (.v 6) (.jump 0 [.b true, .v 3, .v 0, .v 1, .v 2]) (.op (.call 91) [.v 0, .v 1, .v 2, .v 3] 1 (.op .bnot [.v 7] 1 (.jump 0 [.v 8, .v 3, .v 0, .v 1, .v 2])))))))) (.ite (.v 0) (.ret [.nil, .b false]) (.seq (.loop [.i 0, .v 1, .v 2, .v 3, .v 4, .nil] (.op (.cmp .lss) [.v 0, .v 2] 1 (.ite (.v 6) (.seq (.op .lit [.v 0] 1 (.op .app [.v 5, .v 7] 1 (.seq (.op (.bin .add .i64) [.v 0, .i 1] 1 (.op (.cmp .eql) [.v 9, .v 2] 1 (.ite (.v 10) (.jump 0 [.v 0, .b true, .v 1, .v 2, .v 3, .v 4, .v 8]) (.op (.bin .add .i64) [.v 0, .i 1] 1 (.op (.call 5) [.v 2, .v 3, .v 4, .v 1, .v 11, .v 0] 1 (.op (.call 11) [.v 12] 1 (.op (.cmp .eql) [.v 13, .i 1] 1 (.jump 0 [.v 0, .v 14, .v 1, .v 2, .v 3, .v 4, .v 8])))))))) (.ite (.v 1) (.op (.bin .add .i64) [.v 0, .i 1] 1 (.jump 0 [.v 7, .v 2, .v 3, .v 4, .v 5, .v 6])) (.op (.call 5) [.v 3, .v 4, .v 5, .v 2, .v 0, .v 0] 1 (.op (.bin .add .i64) [.v 0, .i 1] 1 (.op (.call 5) [.v 3, .v 4, .v 5, .v 2, .v 0, .v 8] 1 (.op (.bin .add .i64) [.v 0, .i 1] 1 (.op (.call 5) [.v 3, .v 4, .v 5, .v 2, .v 10, .v 0] 1 (.op (.bin .add .i64) [.v 0, .i 1] 1 (.op (.bin .add .i64) [.v 0, .i 1] 1 (.op (.call 5) [.v 3, .v 4, .v 5, .v 2, .v 12, .v 13] 1 (.seq (.op (.call 84) [.v 7, .v 9, .v 11, .v 14] 1 (.op .bnot [.v 15] 1 (.ite (.v 16) (.jump 0 [.v 0, .b true, .v 2, .v 3, .v 4, .v 5, .v 6]) (.op (.bin .add .i64) [.v 0, .i 2] 1 (.op (.cmp .lss) [.v 17, .v 3] 1 (.ite (.v 18) (.op (.bin .add .i64) [.v 0, .i 2] 1 (.op (.bin .add .i64) [.v 0, .i 1] 1 (.op (.call 5) [.v 3, .v 4, .v 5, .v 2, .v 19, .v 20] 1 (.op (.call 11) [.v 21] 1 (.op (.cmp .neq) [.v 22, .i 1] 1 (.jump 0 [.v 0, .v 23, .v 2, .v 3, .v 4, .v 5, .v 6])))))) (.jump 0 [.v 0, .b false, .v 2, .v 3, .v 4, .v 5, .v 6]))))))) (.ite (.v 1) (.ret [.nil, .b false]) (.op (.bin .add .i64) [.v 0, .i 2] 1 (.jump 0 [.v 7, .v 2, .v 3, .v 4, .v 5, .v 6])))))))))))))))) (.jump 0 [.v 0, .v 1, .v 2, .v 3, .v 4, .v 5])) (.jump 1 [.v 5])))) (.ret [.v 0, .b true])))
noncomputable def c96 : Cfg := ⟨Tryz.prog, gl0, Es96, s96.npin, Tryz.f64, s96, {}⟩
set_option maxRecDepth 100000 in
theorem k96 : compile c96 = .ok t96 := by kernel_rfl
def F96 : PF := t96.fn Tb96
set_option maxRecDepth 100000 in
theorem o96 : Contract Tryz.prog gl0 e96.f e96.sg F96 := compile_ok (c := c96) n96 l96 mo0 Tryz.func64 (by kernel_rfl) k96
theorem w96 : Lawful F96 := T.fn_lawful l96 t96
def x96 : List (AS × List AS) := []
theorem y96 : ∀ x ∈ x96, SumOk F96 x := all_nil
set_option maxRecDepth 100000 in
theorem n97 : Ents Tryz.prog gl0 (Es96 ++ [e96]) (Tb96 ++ [F96]) := Ents.snoc n96 rfl o96 rfl rfl
theorem l97 : ∀ G ∈ Tb96 ++ [F96], Lawful G := lawful_snoc l96 w96 rfl
theorem z97 : SumsOk (Tb96 ++ [F96]) (S96 ++ [x96]) := SumsOk.snoc z96 rfl y96 rfl rfl
/-- gimbal.block.Values -/
def s97 : Sig := { args := [.agg [.int (.u64) (.v 0), .int (.u64) (.v 1), .int (.u64) (.v 2), .int (.u64) (.v 3)]], heap := [], npin := 0, np := 4, res := .tup [{ agg := true, cs := [.int (.u64) (.v 0), .int (.u64) (.v 1), .int (.u64) (.v 2), .int (.u64) (.v 3)] }, { agg := false, cs := [.int (.u8) (.v 4)] }], out := [], nr := 5 }
def e97 : Ent := ⟨31, s97⟩
def Es97 : List Ent := [e0, e1, e2, e3, e4, e5, e6, e7, e8, e9, e10, e11, e12, e13, e14, e15, e16, e17, e18, e19, e20, e21, e22, e23, e24, e25, e26, e27, e28, e29, e30, e31, e32, e33, e34, e35, e36, e37, e38, e39, e40, e41, e42, e43, e44, e45, e46, e47, e48, e49, e50, e51, e52, e53, e54, e55, e56, e57, e58, e59, e60, e61, e62, e63, e64, e65, e66, e67, e68, e69, e70, e71, e72, e73, e74, e75, e76, e77, e78, e79, e80, e81, e82, e83, e84, e85, e86, e87, e88, e89, e90, e91, e92, e93, e94, e95, e96]
def Tb97 : List PF := [F0, F1, F2, F3, F4, F5, F6, F7, F8, F9, F10, F11, F12, F13, F14, F15, F16, F17, F18, F19, F20, F21, F22, F23, F24, F25, F26, F27, F28, F29, F30, F31, F32, F33, F34, F35, F36, F37, F38, F39, F40, F41, F42, F43, F44, F45, F46, F47, F48, F49, F50, F51, F52, F53, F54, F55, F56, F57, F58, F59, F60, F61, F62, F63, F64, F65, F66, F67, F68, F69, F70, F71, F72, F73, F74, F75, F76, F77, F78, F79, F80, F81, F82, F83, F84, F85, F86, F87, F88, F89, F90, F91, F92, F93, F94, F95, F96]
def S97 : Sums := [x0, x1, x2, x3, x4, x5, x6, x7, x8, x9, x10, x11, x12, x13, x14, x15, x16, x17, x18, x19, x20, x21, x22, x23, x24, x25, x26, x27, x28, x29, x30, x31, x32, x33, x34, x35, x36, x37, x38, x39, x40, x41, x42, x43, x44, x45, x46, x47, x48, x49, x50, x51, x52, x53, x54, x55, x56, x57, x58, x59, x60, x61, x62, x63, x64, x65, x66, x67, x68, x69, x70, x71, x72, x73, x74, x75, x76, x77, x78, x79, x80, x81, x82, x83, x84, x85, x86, x87, x88, x89, x90, x91, x92, x93, x94, x95, x96]
set_option maxRecDepth 100000 in
def t97 : T := .op (.call 11) [.v 2] 1 (.op (.cmp .eql) [.v 4, .i 1] 1 (.ite (.v 5) (.ret [.v 0, .i 0, .v 3, .i 0, .i 0]) (.op (.call 9) [.v 1] 1 (.op (.call 49) [.v 6] 2 (.op (.call 51) [.i 0, .v 7, .v 8] 2 (.op (.call 9) [.v 2] 1 (.op (.call 49) [.v 11] 2 (.op (.call 51) [.v 10, .v 12, .v 13] 2 (.op (.call 41) [.v 15, .v 9, .v 14] 2 (.op (.call 3) [.v 16] 1 (.ret [.v 0, .v 16, .v 3, .v 18, .v 17])))))))))))
noncomputable def c97 : Cfg := ⟨Tryz.prog, gl0, Es97, s97.npin, Tryz.f31, s97, {}⟩
set_option maxRecDepth 100000 in
theorem k97 : compile c97 = .ok t97 := by kernel_rfl
def F97 : PF := t97.fn Tb97
set_option maxRecDepth 100000 in
theorem o97 : Contract Tryz.prog gl0 e97.f e97.sg F97 := compile_ok (c := c97) n97 l97 mo0 Tryz.func31 (by kernel_rfl) k97
theorem w97 : Lawful F97 := T.fn_lawful l97 t97
def x97 : List (AS × List AS) := []
theorem y97 : ∀ x ∈ x97, SumOk F97 x := all_nil
set_option maxRecDepth 100000 in
theorem n98 : Ents Tryz.prog gl0 (Es97 ++ [e97]) (Tb97 ++ [F97]) := Ents.snoc n97 rfl o97 rfl rfl
theorem l98 : ∀ G ∈ Tb97 ++ [F97], Lawful G := lawful_snoc l97 w97 rfl
theorem z98 : SumsOk (Tb97 ++ [F97]) (S97 ++ [x97]) := SumsOk.snoc z97 rfl y97 rfl rfl
/-- gimbal.schur.Values -/
def s98 : Sig := { args := [.agg [.int (.i64) (.v 0), .int (.i64) (.v 1), .int (.i64) (.v 2), .slc 0]], heap := [some (.list (.int (.u64)) 1 (.v 3) false)], npin := 0, np := 4, res := .tup [{ agg := false, cs := [.slc 1] }, { agg := false, cs := [.int (.u8) (.v 1)] }, { agg := false, cs := [.int (.i64) (.v 2)] }], out := [none, some (.list (.int (.u64)) 2 (.v 0) true)], nr := 3 }
def e98 : Ent := ⟨65, s98⟩
def Es98 : List Ent := [e0, e1, e2, e3, e4, e5, e6, e7, e8, e9, e10, e11, e12, e13, e14, e15, e16, e17, e18, e19, e20, e21, e22, e23, e24, e25, e26, e27, e28, e29, e30, e31, e32, e33, e34, e35, e36, e37, e38, e39, e40, e41, e42, e43, e44, e45, e46, e47, e48, e49, e50, e51, e52, e53, e54, e55, e56, e57, e58, e59, e60, e61, e62, e63, e64, e65, e66, e67, e68, e69, e70, e71, e72, e73, e74, e75, e76, e77, e78, e79, e80, e81, e82, e83, e84, e85, e86, e87, e88, e89, e90, e91, e92, e93, e94, e95, e96, e97]
def Tb98 : List PF := [F0, F1, F2, F3, F4, F5, F6, F7, F8, F9, F10, F11, F12, F13, F14, F15, F16, F17, F18, F19, F20, F21, F22, F23, F24, F25, F26, F27, F28, F29, F30, F31, F32, F33, F34, F35, F36, F37, F38, F39, F40, F41, F42, F43, F44, F45, F46, F47, F48, F49, F50, F51, F52, F53, F54, F55, F56, F57, F58, F59, F60, F61, F62, F63, F64, F65, F66, F67, F68, F69, F70, F71, F72, F73, F74, F75, F76, F77, F78, F79, F80, F81, F82, F83, F84, F85, F86, F87, F88, F89, F90, F91, F92, F93, F94, F95, F96, F97]
def S98 : Sums := [x0, x1, x2, x3, x4, x5, x6, x7, x8, x9, x10, x11, x12, x13, x14, x15, x16, x17, x18, x19, x20, x21, x22, x23, x24, x25, x26, x27, x28, x29, x30, x31, x32, x33, x34, x35, x36, x37, x38, x39, x40, x41, x42, x43, x44, x45, x46, x47, x48, x49, x50, x51, x52, x53, x54, x55, x56, x57, x58, x59, x60, x61, x62, x63, x64, x65, x66, x67, x68, x69, x70, x71, x72, x73, x74, x75, x76, x77, x78, x79, x80, x81, x82, x83, x84, x85, x86, x87, x88, x89, x90, x91, x92, x93, x94, x95, x96, x97]
set_option maxRecDepth 100000 in
def t98 : T := .op (.call 96) [.v 0, .v 1, .v 2, .v 3] 2 (.op .bnot [.v 5] 1 (.ite (.v 6) (.ret [.nil, .i 0, .i 4]) (.op (.len 1) [.v 4] 1 (.seq (.loop [.i 0, .v 7, .i 0, .v 3, .v 0, .v 1, .v 2, .v 4, .nil] (.op (.cmp .lss) [.v 2, .v 1] 1 (.ite (.v 9) (.seq (.op (.chk 1) [.v 7, .v 2] 0 (.op (.get 1 0) [.v 7, .v 2] 1 (.seq (.op (.bin .add .i64) [.v 10, .i 1] 1 (.op (.cmp .eql) [.v 11, .v 4] 1 (.ite (.v 12) (.jump 0 [.v 0, .v 10, .v 1, .v 2, .b true, .v 3, .v 4, .v 5, .v 6, .v 7, .v 8]) (.op (.bin .add .i64) [.v 10, .i 1] 1 (.op (.call 5) [.v 4, .v 5, .v 6, .v 3, .v 13, .v 10] 1 (.op (.call 11) [.v 14] 1 (.op (.cmp .eql) [.v 15, .i 1] 1 (.jump 0 [.v 0, .v 10, .v 1, .v 2, .v 16, .v 3, .v 4, .v 5, .v 6, .v 7, .v 8])))))))) (.ite (.v 4) (.op (.call 5) [.v 6, .v 7, .v 8, .v 5, .v 1, .v 1] 1 (.op .lit [.v 11, .i 0] 1 (.op .app [.v 10, .v 12] 1 (.jump 0 [.v 0, .v 2, .v 3, .v 5, .v 6, .v 7, .v 8, .v 9, .v 13])))) (.op (.call 5) [.v 6, .v 7, .v 8, .v 5, .v 1, .v 1] 1 (.op (.bin .add .i64) [.v 1, .i 1] 1 (.op (.call 5) [.v 6, .v 7, .v 8, .v 5, .v 1, .v 12] 1 (.op (.bin .add .i64) [.v 1, .i 1] 1 (.op (.call 5) [.v 6, .v 7, .v 8, .v 5, .v 14, .v 1] 1 (.op (.bin .add .i64) [.v 1, .i 1] 1 (.op (.bin .add .i64) [.v 1, .i 1] 1 (.op (.call 5) [.v 6, .v 7, .v 8, .v 5, .v 16, .v 17] 1 (.op (.call 97) [.v 11, .v 13, .v 15, .v 18] 5 (.op .lit [.v 19, .v 20, .v 21, .v 22] 1 (.op .app [.v 10, .v 24] 1 (.op (.bin .or .u8) [.v 0, .v 23] 1 (.jump 0 [.v 26, .v 2, .v 3, .v 5, .v 6, .v 7, .v 8, .v 9, .v 25]))))))))))))))))) (.op (.bin .add .i64) [.v 2, .i 1] 1 (.jump 0 [.v 0, .v 1, .v 9, .v 3, .v 4, .v 5, .v 6, .v 7, .v 8]))) (.jump 1 [.v 0, .v 8])))) (.ret [.v 1, .v 0, .i 0])))))
noncomputable def c98 : Cfg := ⟨Tryz.prog, gl0, Es98, s98.npin, Tryz.f65, s98, {}⟩
set_option maxRecDepth 100000 in
theorem k98 : compile c98 = .ok t98 := by kernel_rfl
def F98 : PF := t98.fn Tb98
set_option maxRecDepth 100000 in
theorem o98 : Contract Tryz.prog gl0 e98.f e98.sg F98 := compile_ok (c := c98) n98 l98 mo0 Tryz.func65 (by kernel_rfl) k98
theorem w98 : Lawful F98 := T.fn_lawful l98 t98
def x98 : List (AS × List AS) := []
theorem y98 : ∀ x ∈ x98, SumOk F98 x := all_nil
set_option maxRecDepth 100000 in
theorem n99 : Ents Tryz.prog gl0 (Es98 ++ [e98]) (Tb98 ++ [F98]) := Ents.snoc n98 rfl o98 rfl rfl
theorem l99 : ∀ G ∈ Tb98 ++ [F98], Lawful G := lawful_snoc l98 w98 rfl
theorem z99 : SumsOk (Tb98 ++ [F98]) (S98 ++ [x98]) := SumsOk.snoc z98 rfl y98 rfl rfl
end YtjbacabjgdfmdaaGreatDoor.Gp
end Go.Proofs

/- What the program's functions do, and that they end, part 7: made by a program of this session. -/
namespace Go.Proofs
open Go Gm
namespace YtjbacabjgdfmdaaGreatDoor.Gp
/-- gimbal.eig.scaled -/
def s99 : Sig := { args := [.agg [.int (.u64) (.v 0), .int (.u64) (.v 1)], .c (.int (.i64) (.v 2))], heap := [], npin := 0, np := 3, res := .tup [{ agg := true, cs := [.int (.u64) (.v 0), .int (.u64) (.v 1)] }, { agg := false, cs := [.int (.u8) (.v 2)] }], out := [], nr := 3 }
def e99 : Ent := ⟨76, s99⟩
def Es99 : List Ent := [e0, e1, e2, e3, e4, e5, e6, e7, e8, e9, e10, e11, e12, e13, e14, e15, e16, e17, e18, e19, e20, e21, e22, e23, e24, e25, e26, e27, e28, e29, e30, e31, e32, e33, e34, e35, e36, e37, e38, e39, e40, e41, e42, e43, e44, e45, e46, e47, e48, e49, e50, e51, e52, e53, e54, e55, e56, e57, e58, e59, e60, e61, e62, e63, e64, e65, e66, e67, e68, e69, e70, e71, e72, e73, e74, e75, e76, e77, e78, e79, e80, e81, e82, e83, e84, e85, e86, e87, e88, e89, e90, e91, e92, e93, e94, e95, e96, e97, e98]
def Tb99 : List PF := [F0, F1, F2, F3, F4, F5, F6, F7, F8, F9, F10, F11, F12, F13, F14, F15, F16, F17, F18, F19, F20, F21, F22, F23, F24, F25, F26, F27, F28, F29, F30, F31, F32, F33, F34, F35, F36, F37, F38, F39, F40, F41, F42, F43, F44, F45, F46, F47, F48, F49, F50, F51, F52, F53, F54, F55, F56, F57, F58, F59, F60, F61, F62, F63, F64, F65, F66, F67, F68, F69, F70, F71, F72, F73, F74, F75, F76, F77, F78, F79, F80, F81, F82, F83, F84, F85, F86, F87, F88, F89, F90, F91, F92, F93, F94, F95, F96, F97, F98]
def S99 : Sums := [x0, x1, x2, x3, x4, x5, x6, x7, x8, x9, x10, x11, x12, x13, x14, x15, x16, x17, x18, x19, x20, x21, x22, x23, x24, x25, x26, x27, x28, x29, x30, x31, x32, x33, x34, x35, x36, x37, x38, x39, x40, x41, x42, x43, x44, x45, x46, x47, x48, x49, x50, x51, x52, x53, x54, x55, x56, x57, x58, x59, x60, x61, x62, x63, x64, x65, x66, x67, x68, x69, x70, x71, x72, x73, x74, x75, x76, x77, x78, x79, x80, x81, x82, x83, x84, x85, x86, x87, x88, x89, x90, x91, x92, x93, x94, x95, x96, x97, x98]
set_option maxRecDepth 100000 in
def t99 : T := .op (.call 0) [.i 1, .i 2] 4 (.op (.call 2) [.v 3, .v 4, .v 5, .v 6, .i 0, .i 0, .v 0] 1 (.op (.call 2) [.v 3, .v 4, .v 5, .v 7, .i 0, .i 1, .v 1] 1 (.op (.call 27) [.v 3, .v 4, .v 5, .v 8, .v 2] 5 (.op (.call 5) [.v 9, .v 10, .v 11, .v 12, .i 0, .i 0] 1 (.op (.call 5) [.v 9, .v 10, .v 11, .v 12, .i 0, .i 1] 1 (.ret [.v 14, .v 15, .v 13]))))))
noncomputable def c99 : Cfg := ⟨Tryz.prog, gl0, Es99, s99.npin, Tryz.f76, s99, {}⟩
set_option maxRecDepth 100000 in
theorem k99 : compile c99 = .ok t99 := by kernel_rfl
def F99 : PF := t99.fn Tb99
set_option maxRecDepth 100000 in
theorem o99 : Contract Tryz.prog gl0 e99.f e99.sg F99 := compile_ok (c := c99) n99 l99 mo0 Tryz.func76 (by kernel_rfl) k99
theorem w99 : Lawful F99 := T.fn_lawful l99 t99
def x99 : List (AS × List AS) := []
theorem y99 : ∀ x ∈ x99, SumOk F99 x := all_nil
set_option maxRecDepth 100000 in
theorem n100 : Ents Tryz.prog gl0 (Es99 ++ [e99]) (Tb99 ++ [F99]) := Ents.snoc n99 rfl o99 rfl rfl
theorem l100 : ∀ G ∈ Tb99 ++ [F99], Lawful G := lawful_snoc l99 w99 rfl
theorem z100 : SumsOk (Tb99 ++ [F99]) (S99 ++ [x99]) := SumsOk.snoc z99 rfl y99 rfl rfl
/-- (gimbal.eig.Rule).Wants -/
def s100 : Sig := { args := [.agg [.int (.i64) (.v 0), .int (.u64) (.v 1)], .agg [.int (.u64) (.v 2), .int (.u64) (.v 3)]], heap := [], npin := 0, np := 4, res := .c (.bool (.v 0)), out := [], nr := 1 }
def e100 : Ent := ⟨42, s100⟩
def Es100 : List Ent := [e0, e1, e2, e3, e4, e5, e6, e7, e8, e9, e10, e11, e12, e13, e14, e15, e16, e17, e18, e19, e20, e21, e22, e23, e24, e25, e26, e27, e28, e29, e30, e31, e32, e33, e34, e35, e36, e37, e38, e39, e40, e41, e42, e43, e44, e45, e46, e47, e48, e49, e50, e51, e52, e53, e54, e55, e56, e57, e58, e59, e60, e61, e62, e63, e64, e65, e66, e67, e68, e69, e70, e71, e72, e73, e74, e75, e76, e77, e78, e79, e80, e81, e82, e83, e84, e85, e86, e87, e88, e89, e90, e91, e92, e93, e94, e95, e96, e97, e98, e99]
def Tb100 : List PF := [F0, F1, F2, F3, F4, F5, F6, F7, F8, F9, F10, F11, F12, F13, F14, F15, F16, F17, F18, F19, F20, F21, F22, F23, F24, F25, F26, F27, F28, F29, F30, F31, F32, F33, F34, F35, F36, F37, F38, F39, F40, F41, F42, F43, F44, F45, F46, F47, F48, F49, F50, F51, F52, F53, F54, F55, F56, F57, F58, F59, F60, F61, F62, F63, F64, F65, F66, F67, F68, F69, F70, F71, F72, F73, F74, F75, F76, F77, F78, F79, F80, F81, F82, F83, F84, F85, F86, F87, F88, F89, F90, F91, F92, F93, F94, F95, F96, F97, F98, F99]
def S100 : Sums := [x0, x1, x2, x3, x4, x5, x6, x7, x8, x9, x10, x11, x12, x13, x14, x15, x16, x17, x18, x19, x20, x21, x22, x23, x24, x25, x26, x27, x28, x29, x30, x31, x32, x33, x34, x35, x36, x37, x38, x39, x40, x41, x42, x43, x44, x45, x46, x47, x48, x49, x50, x51, x52, x53, x54, x55, x56, x57, x58, x59, x60, x61, x62, x63, x64, x65, x66, x67, x68, x69, x70, x71, x72, x73, x74, x75, x76, x77, x78, x79, x80, x81, x82, x83, x84, x85, x86, x87, x88, x89, x90, x91, x92, x93, x94, x95, x96, x97, x98, x99]
set_option maxRecDepth 100000 in
def t100 : T := .seq (.op (.cmp .eql) [.v 0, .i 2] 1 (.ite (.v 4) (.op (.call 74) [.v 2, .v 1] 1 (.ret [.v 5])) (.op (.cmp .eql) [.v 0, .i 3] 1 (.ite (.v 5) (.op (.call 78) [.v 2, .v 3] 2 (.op (.call 74) [.v 6, .v 1] 1 (.ret [.v 8]))) (.jump 0 []))))) (.ret [.b false])
noncomputable def c100 : Cfg := ⟨Tryz.prog, gl0, Es100, s100.npin, Tryz.f42, s100, {}⟩
set_option maxRecDepth 100000 in
theorem k100 : compile c100 = .ok t100 := by kernel_rfl
def F100 : PF := t100.fn Tb100
set_option maxRecDepth 100000 in
theorem o100 : Contract Tryz.prog gl0 e100.f e100.sg F100 := compile_ok (c := c100) n100 l100 mo0 Tryz.func42 (by kernel_rfl) k100
theorem w100 : Lawful F100 := T.fn_lawful l100 t100
def x100 : List (AS × List AS) := []
theorem y100 : ∀ x ∈ x100, SumOk F100 x := all_nil
set_option maxRecDepth 100000 in
theorem n101 : Ents Tryz.prog gl0 (Es100 ++ [e100]) (Tb100 ++ [F100]) := Ents.snoc n100 rfl o100 rfl rfl
theorem l101 : ∀ G ∈ Tb100 ++ [F100], Lawful G := lawful_snoc l100 w100 rfl
theorem z101 : SumsOk (Tb100 ++ [F100]) (S100 ++ [x100]) := SumsOk.snoc z100 rfl y100 rfl rfl
/-- gimbal.plane.Givens -/
def s101 : Sig := { args := [.c (.int (.u64) (.v 0)), .c (.int (.u64) (.v 1))], heap := [], npin := 0, np := 2, res := .tup [{ agg := true, cs := [.int (.u64) (.v 0), .int (.u64) (.v 1)] }, { agg := false, cs := [.int (.u64) (.v 2)] }, { agg := false, cs := [.int (.u8) (.v 3)] }, { agg := false, cs := [.int (.i64) (.v 4)] }], out := [], nr := 5 }
def e101 : Ent := ⟨210, s101⟩
def Es101 : List Ent := [e0, e1, e2, e3, e4, e5, e6, e7, e8, e9, e10, e11, e12, e13, e14, e15, e16, e17, e18, e19, e20, e21, e22, e23, e24, e25, e26, e27, e28, e29, e30, e31, e32, e33, e34, e35, e36, e37, e38, e39, e40, e41, e42, e43, e44, e45, e46, e47, e48, e49, e50, e51, e52, e53, e54, e55, e56, e57, e58, e59, e60, e61, e62, e63, e64, e65, e66, e67, e68, e69, e70, e71, e72, e73, e74, e75, e76, e77, e78, e79, e80, e81, e82, e83, e84, e85, e86, e87, e88, e89, e90, e91, e92, e93, e94, e95, e96, e97, e98, e99, e100]
def Tb101 : List PF := [F0, F1, F2, F3, F4, F5, F6, F7, F8, F9, F10, F11, F12, F13, F14, F15, F16, F17, F18, F19, F20, F21, F22, F23, F24, F25, F26, F27, F28, F29, F30, F31, F32, F33, F34, F35, F36, F37, F38, F39, F40, F41, F42, F43, F44, F45, F46, F47, F48, F49, F50, F51, F52, F53, F54, F55, F56, F57, F58, F59, F60, F61, F62, F63, F64, F65, F66, F67, F68, F69, F70, F71, F72, F73, F74, F75, F76, F77, F78, F79, F80, F81, F82, F83, F84, F85, F86, F87, F88, F89, F90, F91, F92, F93, F94, F95, F96, F97, F98, F99, F100]
def S101 : Sums := [x0, x1, x2, x3, x4, x5, x6, x7, x8, x9, x10, x11, x12, x13, x14, x15, x16, x17, x18, x19, x20, x21, x22, x23, x24, x25, x26, x27, x28, x29, x30, x31, x32, x33, x34, x35, x36, x37, x38, x39, x40, x41, x42, x43, x44, x45, x46, x47, x48, x49, x50, x51, x52, x53, x54, x55, x56, x57, x58, x59, x60, x61, x62, x63, x64, x65, x66, x67, x68, x69, x70, x71, x72, x73, x74, x75, x76, x77, x78, x79, x80, x81, x82, x83, x84, x85, x86, x87, x88, x89, x90, x91, x92, x93, x94, x95, x96, x97, x98, x99, x100]
set_option maxRecDepth 100000 in
def t101 : T := .seq (.op (.call 7) [.v 0] 1 (.op .bnot [.v 2] 1 (.ite (.v 3) (.jump 0 [.v 0, .v 1, .b true, .i 0, .i 0]) (.op (.call 7) [.v 1] 1 (.op .bnot [.v 4] 1 (.jump 0 [.v 0, .v 1, .v 5, .i 0, .i 0])))))) (.ite (.v 2) (.ret [.i 0, .i 0, .i 9221120237041090560, .i 0, .i 6]) (.op (.call 11) [.v 1] 1 (.op (.cmp .eql) [.v 5, .i 1] 1 (.ite (.v 6) (.ret [.i 4607182418800017408, .i 0, .v 0, .i 0, .i 0]) (.op .lit [.v 0, .v 1] 1 (.op (.call 31) [.v 7] 2 (.op .lit [.v 0, .v 1] 1 (.op (.call 33) [.v 10, .v 8] 1 (.op (.call 52) [.v 11] 1 (.op (.chk 1) [.v 11, .i 0] 0 (.op (.get 1 0) [.v 11, .i 0] 1 (.op (.call 62) [.i 0, .v 13, .v 12] 2 (.op (.chk 1) [.v 11, .i 1] 0 (.op (.get 1 0) [.v 11, .i 1] 1 (.op (.call 62) [.v 15, .v 16, .v 12] 2 (.op (.call 26) [.v 12, .v 8] 2 (.ret [.v 14, .v 17, .v 19, .v 20, .i 0])))))))))))))))))
noncomputable def c101 : Cfg := ⟨Tryz.prog, gl0, Es101, s101.npin, Tryz.f210, s101, {}⟩
set_option maxRecDepth 100000 in
theorem k101 : compile c101 = .ok t101 := by kernel_rfl
def F101 : PF := t101.fn Tb101
set_option maxRecDepth 100000 in
theorem o101 : Contract Tryz.prog gl0 e101.f e101.sg F101 := compile_ok (c := c101) n101 l101 mo0 Tryz.func210 (by kernel_rfl) k101
theorem w101 : Lawful F101 := T.fn_lawful l101 t101
def x101 : List (AS × List AS) := []
theorem y101 : ∀ x ∈ x101, SumOk F101 x := all_nil
set_option maxRecDepth 100000 in
theorem n102 : Ents Tryz.prog gl0 (Es101 ++ [e101]) (Tb101 ++ [F101]) := Ents.snoc n101 rfl o101 rfl rfl
theorem l102 : ∀ G ∈ Tb101 ++ [F101], Lawful G := lawful_snoc l101 w101 rfl
theorem z102 : SumsOk (Tb101 ++ [F101]) (S101 ++ [x101]) := SumsOk.snoc z101 rfl y101 rfl rfl
/-- (gimbal.mat.Matrix).Cut -/
def s102 : Sig := { args := [.agg [.int (.i64) (.v 0), .int (.i64) (.v 1), .int (.i64) (.v 2), .slc 0], .c (.int (.i64) (.v 4)), .c (.int (.i64) (.v 5)), .c (.int (.i64) (.v 6)), .c (.int (.i64) (.v 7))], heap := [some (.list (.int (.u64)) 1 (.v 3) false)], npin := 0, np := 8, res := .tup [{ agg := true, cs := [.int (.i64) (.v 0), .int (.i64) (.v 1), .int (.i64) (.v 2), .slc 1] }, { agg := false, cs := [.int (.i64) (.v 4)] }], out := [none, some (.list (.int (.u64)) 1 (.v 3) true)], nr := 5 }
def e102 : Ent := ⟨48, s102⟩
def Es102 : List Ent := [e0, e1, e2, e3, e4, e5, e6, e7, e8, e9, e10, e11, e12, e13, e14, e15, e16, e17, e18, e19, e20, e21, e22, e23, e24, e25, e26, e27, e28, e29, e30, e31, e32, e33, e34, e35, e36, e37, e38, e39, e40, e41, e42, e43, e44, e45, e46, e47, e48, e49, e50, e51, e52, e53, e54, e55, e56, e57, e58, e59, e60, e61, e62, e63, e64, e65, e66, e67, e68, e69, e70, e71, e72, e73, e74, e75, e76, e77, e78, e79, e80, e81, e82, e83, e84, e85, e86, e87, e88, e89, e90, e91, e92, e93, e94, e95, e96, e97, e98, e99, e100, e101]
def Tb102 : List PF := [F0, F1, F2, F3, F4, F5, F6, F7, F8, F9, F10, F11, F12, F13, F14, F15, F16, F17, F18, F19, F20, F21, F22, F23, F24, F25, F26, F27, F28, F29, F30, F31, F32, F33, F34, F35, F36, F37, F38, F39, F40, F41, F42, F43, F44, F45, F46, F47, F48, F49, F50, F51, F52, F53, F54, F55, F56, F57, F58, F59, F60, F61, F62, F63, F64, F65, F66, F67, F68, F69, F70, F71, F72, F73, F74, F75, F76, F77, F78, F79, F80, F81, F82, F83, F84, F85, F86, F87, F88, F89, F90, F91, F92, F93, F94, F95, F96, F97, F98, F99, F100, F101]
def S102 : Sums := [x0, x1, x2, x3, x4, x5, x6, x7, x8, x9, x10, x11, x12, x13, x14, x15, x16, x17, x18, x19, x20, x21, x22, x23, x24, x25, x26, x27, x28, x29, x30, x31, x32, x33, x34, x35, x36, x37, x38, x39, x40, x41, x42, x43, x44, x45, x46, x47, x48, x49, x50, x51, x52, x53, x54, x55, x56, x57, x58, x59, x60, x61, x62, x63, x64, x65, x66, x67, x68, x69, x70, x71, x72, x73, x74, x75, x76, x77, x78, x79, x80, x81, x82, x83, x84, x85, x86, x87, x88, x89, x90, x91, x92, x93, x94, x95, x96, x97, x98, x99, x100, x101]
set_option maxRecDepth 100000 in
def t102 : T := .seq (.op (.call 4) [.v 0, .v 1, .v 2, .v 3] 1 (.op (.cmp .neq) [.v 8, .i 0] 1 (.ite (.v 9) (.jump 0 [.v 4, .v 5, .v 6, .v 7, .b true, .v 3, .v 0, .v 1, .v 2, .i 0, .i 0, .i 0, .nil]) (.op (.cmp .lss) [.v 4, .i 0] 1 (.ite (.v 10) (.jump 0 [.v 4, .v 5, .v 6, .v 7, .b true, .v 3, .v 0, .v 1, .v 2, .i 0, .i 0, .i 0, .nil]) (.op (.cmp .lss) [.v 5, .i 0] 1 (.ite (.v 11) (.jump 0 [.v 4, .v 5, .v 6, .v 7, .b true, .v 3, .v 0, .v 1, .v 2, .i 0, .i 0, .i 0, .nil]) (.op (.cmp .lss) [.v 6, .i 0] 1 (.ite (.v 12) (.jump 0 [.v 4, .v 5, .v 6, .v 7, .b true, .v 3, .v 0, .v 1, .v 2, .i 0, .i 0, .i 0, .nil]) (.op (.cmp .lss) [.v 7, .i 0] 1 (.ite (.v 13) (.jump 0 [.v 4, .v 5, .v 6, .v 7, .b true, .v 3, .v 0, .v 1, .v 2, .i 0, .i 0, .i 0, .nil]) (.op (.bin .sub .i64) [.v 0, .v 6] 1 (.op (.cmp .gtr) [.v 4, .v 14] 1 (.ite (.v 15) (.jump 0 [.v 4, .v 5, .v 6, .v 7, .b true, .v 3, .v 0, .v 1, .v 2, .i 0, .i 0, .i 0, .nil]) (.op (.bin .sub .i64) [.v 1, .v 7] 1 (.op (.cmp .gtr) [.v 5, .v 16] 1 (.jump 0 [.v 4, .v 5, .v 6, .v 7, .v 17, .v 3, .v 0, .v 1, .v 2, .i 0, .i 0, .i 0, .nil]))))))))))))))))) (.ite (.v 4) (.ret [.i 0, .i 0, .i 0, .nil, .i 4]) (.op (.call 0) [.v 2, .v 3] 4 (.seq (.loop [.v 0, .v 1, .v 3, .v 2, .i 0, .v 5, .v 6, .v 7, .v 8, .v 9, .v 10, .v 11, .v 12, .v 16, .v 13, .v 14, .v 15] (.op (.cmp .lss) [.v 4, .v 3] 1 (.ite (.v 17) (.seq (.seq (.loop [.v 0, .v 1, .v 2, .v 4, .v 3, .v 4, .v 2, .i 0, .v 5, .v 6, .v 7, .v 8, .v 9, .v 10, .v 11, .v 12, .v 13, .v 14, .v 15, .v 16] (.op (.cmp .lss) [.v 7, .v 6] 1 (.ite (.v 20) (.seq (.op (.bin .add .i64) [.v 0, .v 3] 1 (.op (.bin .add .i64) [.v 1, .v 7] 1 (.op (.call 5) [.v 9, .v 10, .v 11, .v 8, .v 21, .v 22] 1 (.op (.call 2) [.v 17, .v 18, .v 19, .v 16, .v 3, .v 7, .v 23] 1 (.jump 0 [.v 0, .v 1, .v 2, .v 3, .v 4, .v 5, .v 6, .v 7, .v 8, .v 9, .v 10, .v 11, .v 12, .v 13, .v 14, .v 15, .v 24, .v 17, .v 18, .v 19]))))) (.op (.bin .add .i64) [.v 7, .i 1] 1 (.jump 0 [.v 0, .v 1, .v 2, .v 3, .v 4, .v 5, .v 6, .v 20, .v 8, .v 9, .v 10, .v 11, .v 12, .v 13, .v 14, .v 15, .v 16, .v 17, .v 18, .v 19]))) (.jump 1 [.v 0, .v 1, .v 2, .v 4, .v 5, .v 8, .v 9, .v 10, .v 11, .v 12, .v 13, .v 14, .v 15, .v 16, .v 17, .v 18, .v 19])))) (.jump 0 [.v 0, .v 1, .v 2, .v 3, .v 4, .v 5, .v 6, .v 7, .v 8, .v 9, .v 10, .v 11, .v 12, .v 13, .v 14, .v 15, .v 16])) (.op (.bin .add .i64) [.v 4, .i 1] 1 (.jump 0 [.v 0, .v 1, .v 2, .v 3, .v 17, .v 5, .v 6, .v 7, .v 8, .v 9, .v 10, .v 11, .v 12, .v 13, .v 14, .v 15, .v 16]))) (.jump 1 [.v 9, .v 10, .v 11, .v 12, .v 13, .v 14, .v 15, .v 16])))) (.ret [.v 5, .v 6, .v 7, .v 4, .i 0]))))
noncomputable def c102 : Cfg := ⟨Tryz.prog, gl0, Es102, s102.npin, Tryz.f48, s102, {}⟩
set_option maxRecDepth 100000 in
theorem k102 : compile c102 = .ok t102 := by kernel_rfl
def F102 : PF := t102.fn Tb102
set_option maxRecDepth 100000 in
theorem o102 : Contract Tryz.prog gl0 e102.f e102.sg F102 := compile_ok (c := c102) n102 l102 mo0 Tryz.func48 (by kernel_rfl) k102
theorem w102 : Lawful F102 := T.fn_lawful l102 t102
def x102 : List (AS × List AS) := []
theorem y102 : ∀ x ∈ x102, SumOk F102 x := all_nil
set_option maxRecDepth 100000 in
theorem n103 : Ents Tryz.prog gl0 (Es102 ++ [e102]) (Tb102 ++ [F102]) := Ents.snoc n102 rfl o102 rfl rfl
theorem l103 : ∀ G ∈ Tb102 ++ [F102], Lawful G := lawful_snoc l102 w102 rfl
theorem z103 : SumsOk (Tb102 ++ [F102]) (S102 ++ [x102]) := SumsOk.snoc z102 rfl y102 rfl rfl
/-- math.bits.TrailingZeros32 -/
def s103 : Sig := { args := [.c (.int (.u32) (.v 0))], heap := [], npin := 0, np := 1, res := .c (.int (.i64) (.v 0)), out := [], nr := 1 }
def e103 : Ent := ⟨134, s103⟩
def Es103 : List Ent := [e0, e1, e2, e3, e4, e5, e6, e7, e8, e9, e10, e11, e12, e13, e14, e15, e16, e17, e18, e19, e20, e21, e22, e23, e24, e25, e26, e27, e28, e29, e30, e31, e32, e33, e34, e35, e36, e37, e38, e39, e40, e41, e42, e43, e44, e45, e46, e47, e48, e49, e50, e51, e52, e53, e54, e55, e56, e57, e58, e59, e60, e61, e62, e63, e64, e65, e66, e67, e68, e69, e70, e71, e72, e73, e74, e75, e76, e77, e78, e79, e80, e81, e82, e83, e84, e85, e86, e87, e88, e89, e90, e91, e92, e93, e94, e95, e96, e97, e98, e99, e100, e101, e102]
def Tb103 : List PF := [F0, F1, F2, F3, F4, F5, F6, F7, F8, F9, F10, F11, F12, F13, F14, F15, F16, F17, F18, F19, F20, F21, F22, F23, F24, F25, F26, F27, F28, F29, F30, F31, F32, F33, F34, F35, F36, F37, F38, F39, F40, F41, F42, F43, F44, F45, F46, F47, F48, F49, F50, F51, F52, F53, F54, F55, F56, F57, F58, F59, F60, F61, F62, F63, F64, F65, F66, F67, F68, F69, F70, F71, F72, F73, F74, F75, F76, F77, F78, F79, F80, F81, F82, F83, F84, F85, F86, F87, F88, F89, F90, F91, F92, F93, F94, F95, F96, F97, F98, F99, F100, F101, F102]
def S103 : Sums := [x0, x1, x2, x3, x4, x5, x6, x7, x8, x9, x10, x11, x12, x13, x14, x15, x16, x17, x18, x19, x20, x21, x22, x23, x24, x25, x26, x27, x28, x29, x30, x31, x32, x33, x34, x35, x36, x37, x38, x39, x40, x41, x42, x43, x44, x45, x46, x47, x48, x49, x50, x51, x52, x53, x54, x55, x56, x57, x58, x59, x60, x61, x62, x63, x64, x65, x66, x67, x68, x69, x70, x71, x72, x73, x74, x75, x76, x77, x78, x79, x80, x81, x82, x83, x84, x85, x86, x87, x88, x89, x90, x91, x92, x93, x94, x95, x96, x97, x98, x99, x100, x101, x102]
set_option maxRecDepth 100000 in
def t103 : T := .op (.cmp .eql) [.v 0, .i 0] 1 (.ite (.v 1) (.ret [.i 32]) (.op (.neg .u32) [.v 0] 1 (.op (.bin .and .u32) [.v 0, .v 2] 1 (.op (.bin .mul .u32) [.v 3, .i 125613361] 1 (.op (.bin .shr .u32) [.v 4, .i 27] 1 (.op .chkn [.i 32, .v 5] 0 (.op (.tab [0, 1, 28, 2, 29, 14, 24, 3, 30, 22, 20, 15, 25, 17, 4, 8, 31, 27, 13, 23, 21, 19, 16, 7, 26, 12, 18, 6, 11, 5, 10, 9]) [.v 5] 1 (.op (.conv .i64) [.v 6] 1 (.ret [.v 7])))))))))
noncomputable def c103 : Cfg := ⟨Tryz.prog, gl0, Es103, s103.npin, Tryz.f134, s103, {}⟩
set_option maxRecDepth 100000 in
theorem k103 : compile c103 = .ok t103 := by kernel_rfl
def F103 : PF := t103.fn Tb103
set_option maxRecDepth 100000 in
theorem o103 : Contract Tryz.prog gl0 e103.f e103.sg F103 := compile_ok (c := c103) n103 l103 mo0 Tryz.func134 (by kernel_rfl) k103
theorem w103 : Lawful F103 := T.fn_lawful l103 t103
def x103 : List (AS × List AS) := []
theorem y103 : ∀ x ∈ x103, SumOk F103 x := all_nil
set_option maxRecDepth 100000 in
theorem n104 : Ents Tryz.prog gl0 (Es103 ++ [e103]) (Tb103 ++ [F103]) := Ents.snoc n103 rfl o103 rfl rfl
theorem l104 : ∀ G ∈ Tb103 ++ [F103], Lawful G := lawful_snoc l103 w103 rfl
theorem z104 : SumsOk (Tb103 ++ [F103]) (S103 ++ [x103]) := SumsOk.snoc z103 rfl y103 rfl rfl
/-- gimbal.dyad.down -/
def s104 : Sig := { args := [.c (.slc 0), .c (.int (.i64) (.v 1))], heap := [some (.list (.int (.u32)) 1 (.v 0) false)], npin := 0, np := 2, res := .c (.slc 1), out := [none, some (.list (.int (.u32)) 1 (.v 0) false)], nr := 1 }
def e104 : Ent := ⟨135, s104⟩
def Es104 : List Ent := [e0, e1, e2, e3, e4, e5, e6, e7, e8, e9, e10, e11, e12, e13, e14, e15, e16, e17, e18, e19, e20, e21, e22, e23, e24, e25, e26, e27, e28, e29, e30, e31, e32, e33, e34, e35, e36, e37, e38, e39, e40, e41, e42, e43, e44, e45, e46, e47, e48, e49, e50, e51, e52, e53, e54, e55, e56, e57, e58, e59, e60, e61, e62, e63, e64, e65, e66, e67, e68, e69, e70, e71, e72, e73, e74, e75, e76, e77, e78, e79, e80, e81, e82, e83, e84, e85, e86, e87, e88, e89, e90, e91, e92, e93, e94, e95, e96, e97, e98, e99, e100, e101, e102, e103]
def Tb104 : List PF := [F0, F1, F2, F3, F4, F5, F6, F7, F8, F9, F10, F11, F12, F13, F14, F15, F16, F17, F18, F19, F20, F21, F22, F23, F24, F25, F26, F27, F28, F29, F30, F31, F32, F33, F34, F35, F36, F37, F38, F39, F40, F41, F42, F43, F44, F45, F46, F47, F48, F49, F50, F51, F52, F53, F54, F55, F56, F57, F58, F59, F60, F61, F62, F63, F64, F65, F66, F67, F68, F69, F70, F71, F72, F73, F74, F75, F76, F77, F78, F79, F80, F81, F82, F83, F84, F85, F86, F87, F88, F89, F90, F91, F92, F93, F94, F95, F96, F97, F98, F99, F100, F101, F102, F103]
def S104 : Sums := [x0, x1, x2, x3, x4, x5, x6, x7, x8, x9, x10, x11, x12, x13, x14, x15, x16, x17, x18, x19, x20, x21, x22, x23, x24, x25, x26, x27, x28, x29, x30, x31, x32, x33, x34, x35, x36, x37, x38, x39, x40, x41, x42, x43, x44, x45, x46, x47, x48, x49, x50, x51, x52, x53, x54, x55, x56, x57, x58, x59, x60, x61, x62, x63, x64, x65, x66, x67, x68, x69, x70, x71, x72, x73, x74, x75, x76, x77, x78, x79, x80, x81, x82, x83, x84, x85, x86, x87, x88, x89, x90, x91, x92, x93, x94, x95, x96, x97, x98, x99, x100, x101, x102, x103]
set_option maxRecDepth 100000 in
def t104 : T := .op (.len 1) [.v 0] 1 (.op (.mk 1) [.v 2, .v 2] 1 (.op (.len 1) [.v 0] 1 (.seq (.loop [.v 1, .v 4, .i 0, .v 0, .v 3] (.op (.cmp .lss) [.v 2, .v 1] 1 (.ite (.v 5) (.seq (.op (.chk 1) [.v 3, .v 2] 0 (.op (.get 1 0) [.v 3, .v 2] 1 (.op (.bin .shr .u32) [.v 6, .v 0] 1 (.op (.chk 1) [.v 4, .v 2] 0 (.op (.set 1 0) [.v 4, .v 2, .v 7] 1 (.op (.bin .add .i64) [.v 2, .i 1] 1 (.op (.len 1) [.v 3] 1 (.op (.cmp .lss) [.v 9, .v 10] 1 (.seq (.ite (.v 11) (.op (.chk 1) [.v 8, .v 2] 0 (.op (.get 1 0) [.v 8, .v 2] 1 (.op (.bin .add .i64) [.v 2, .i 1] 1 (.op (.chk 1) [.v 3, .v 13] 0 (.op (.get 1 0) [.v 3, .v 13] 1 (.op (.bin .sub .i64) [.i 32, .v 0] 1 (.op (.bin .shl .u32) [.v 14, .v 15] 1 (.op (.bin .or .u32) [.v 12, .v 16] 1 (.op (.chk 1) [.v 8, .v 2] 0 (.op (.set 1 0) [.v 8, .v 2, .v 17] 1 (.jump 0 [.v 0, .v 1, .v 2, .v 3, .v 18]))))))))))) (.jump 0 [.v 0, .v 1, .v 2, .v 3, .v 8])) (.jump 0 [.v 0, .v 1, .v 2, .v 3, .v 4])))))))))) (.op (.bin .add .i64) [.v 2, .i 1] 1 (.jump 0 [.v 0, .v 1, .v 5, .v 3, .v 4]))) (.jump 1 [.v 4])))) (.op (.len 1) [.v 0] 1 (.seq (.op (.cmp .gtr) [.v 1, .i 0] 1 (.ite (.v 2) (.op (.bin .sub .i64) [.v 1, .i 1] 1 (.op (.chk 1) [.v 0, .v 3] 0 (.op (.get 1 0) [.v 0, .v 3] 1 (.op (.cmp .eql) [.v 4, .i 0] 1 (.jump 0 [.v 1, .v 5, .v 0]))))) (.jump 0 [.v 1, .b false, .v 0]))) (.seq (.ite (.v 1) (.op (.bin .sub .i64) [.v 0, .i 1] 1 (.op (.bin .sub .i64) [.v 0, .i 1] 1 (.op (.len 1) [.v 2] 1 (.op .rng [.i 0, .v 3, .v 5] 1 (.op .rng [.v 3, .v 4, .v 5] 1 (.op (.sl 1) [.v 2, .i 0, .v 6] 1 (.jump 0 [.v 8]))))))) (.jump 0 [.v 2])) (.ret [.v 0])))))))
noncomputable def c104 : Cfg := ⟨Tryz.prog, gl0, Es104, s104.npin, Tryz.f135, s104, { dem := [(10010, 32), (10011, 32)] }⟩
set_option maxRecDepth 100000 in
theorem k104 : compile c104 = .ok t104 := by kernel_rfl
def F104 : PF := t104.fn Tb104
set_option maxRecDepth 100000 in
theorem o104 : Contract Tryz.prog gl0 e104.f e104.sg F104 := compile_ok (c := c104) n104 l104 mo0 Tryz.func135 (by kernel_rfl) k104
theorem w104 : Lawful F104 := T.fn_lawful l104 t104
def x104 : List (AS × List AS) := []
theorem y104 : ∀ x ∈ x104, SumOk F104 x := all_nil
set_option maxRecDepth 100000 in
theorem n105 : Ents Tryz.prog gl0 (Es104 ++ [e104]) (Tb104 ++ [F104]) := Ents.snoc n104 rfl o104 rfl rfl
theorem l105 : ∀ G ∈ Tb104 ++ [F104], Lawful G := lawful_snoc l104 w104 rfl
theorem z105 : SumsOk (Tb104 ++ [F104]) (S104 ++ [x104]) := SumsOk.snoc z104 rfl y104 rfl rfl
/-- gimbal.dyad.trim -/
def s105 : Sig := { args := [.c (.bool (.v 0)), .c (.slc 0), .c (.int (.i64) (.v 2))], heap := [some (.list (.int (.u32)) 1 (.v 1) false)], npin := 0, np := 3, res := .agg [.bool (.v 0), .slc 1, .int (.i64) (.v 2)], out := [none, some (.list (.int (.u32)) 1 (.v 1) false)], nr := 3 }
def e105 : Ent := ⟨79, s105⟩
def Es105 : List Ent := [e0, e1, e2, e3, e4, e5, e6, e7, e8, e9, e10, e11, e12, e13, e14, e15, e16, e17, e18, e19, e20, e21, e22, e23, e24, e25, e26, e27, e28, e29, e30, e31, e32, e33, e34, e35, e36, e37, e38, e39, e40, e41, e42, e43, e44, e45, e46, e47, e48, e49, e50, e51, e52, e53, e54, e55, e56, e57, e58, e59, e60, e61, e62, e63, e64, e65, e66, e67, e68, e69, e70, e71, e72, e73, e74, e75, e76, e77, e78, e79, e80, e81, e82, e83, e84, e85, e86, e87, e88, e89, e90, e91, e92, e93, e94, e95, e96, e97, e98, e99, e100, e101, e102, e103, e104]
def Tb105 : List PF := [F0, F1, F2, F3, F4, F5, F6, F7, F8, F9, F10, F11, F12, F13, F14, F15, F16, F17, F18, F19, F20, F21, F22, F23, F24, F25, F26, F27, F28, F29, F30, F31, F32, F33, F34, F35, F36, F37, F38, F39, F40, F41, F42, F43, F44, F45, F46, F47, F48, F49, F50, F51, F52, F53, F54, F55, F56, F57, F58, F59, F60, F61, F62, F63, F64, F65, F66, F67, F68, F69, F70, F71, F72, F73, F74, F75, F76, F77, F78, F79, F80, F81, F82, F83, F84, F85, F86, F87, F88, F89, F90, F91, F92, F93, F94, F95, F96, F97, F98, F99, F100, F101, F102, F103, F104]
def S105 : Sums := [x0, x1, x2, x3, x4, x5, x6, x7, x8, x9, x10, x11, x12, x13, x14, x15, x16, x17, x18, x19, x20, x21, x22, x23, x24, x25, x26, x27, x28, x29, x30, x31, x32, x33, x34, x35, x36, x37, x38, x39, x40, x41, x42, x43, x44, x45, x46, x47, x48, x49, x50, x51, x52, x53, x54, x55, x56, x57, x58, x59, x60, x61, x62, x63, x64, x65, x66, x67, x68, x69, x70, x71, x72, x73, x74, x75, x76, x77, x78, x79, x80, x81, x82, x83, x84, x85, x86, x87, x88, x89, x90, x91, x92, x93, x94, x95, x96, x97, x98, x99, x100, x101, x102, x103, x104]
set_option maxRecDepth 100000 in
def t105 : T := .op (.len 1) [.v 1] 1 (.seq (.loop [.v 0, .v 2, .v 3, .v 1, .b false, .i 0, .nil] (.seq (.op (.cmp .gtr) [.v 2, .i 0] 1 (.ite (.v 7) (.op (.bin .sub .i64) [.v 2, .i 1] 1 (.op (.chk 1) [.v 3, .v 8] 0 (.op (.get 1 0) [.v 3, .v 8] 1 (.op (.cmp .eql) [.v 9, .i 0] 1 (.jump 0 [.v 0, .v 1, .v 2, .v 10, .v 3, .v 4, .v 5, .v 6]))))) (.jump 0 [.v 0, .v 1, .v 2, .b false, .v 3, .v 4, .v 5, .v 6]))) (.ite (.v 3) (.seq (.op (.bin .sub .i64) [.v 2, .i 1] 1 (.jump 0 [.v 0, .v 1, .v 8, .v 4, .v 5, .v 6, .v 7])) (.jump 0 [.v 0, .v 1, .v 2, .v 3, .v 4, .v 5, .v 6])) (.jump 1 [.v 0, .v 1, .v 2, .v 4, .v 5, .v 6, .v 7])))) (.op (.len 1) [.v 3] 1 (.op .rng [.i 0, .v 2, .v 7] 1 (.op (.cmp .eql) [.v 2, .i 0] 1 (.ite (.v 9) (.ret [.b false, .nil, .i 0]) (.seq (.op (.sl 1) [.v 3, .i 0, .v 8] 1 (.loop [.v 0, .v 10, .v 1, .i 0, .v 4, .v 5, .v 6] (.op (.chk 1) [.v 1, .v 3] 0 (.op (.get 1 0) [.v 1, .v 3] 1 (.op (.cmp .eql) [.v 7, .i 0] 1 (.ite (.v 8) (.seq (.op (.bin .add .i64) [.v 3, .i 1] 1 (.jump 0 [.v 0, .v 2, .v 9, .v 4, .v 5, .v 6, .v 1])) (.jump 0 [.v 0, .v 6, .v 1, .v 2, .v 3, .v 4, .v 5])) (.jump 1 [.v 0, .v 1, .v 2, .v 3, .v 4, .v 5, .v 6]))))))) (.op (.len 1) [.v 1] 1 (.op .rng [.v 3, .v 7, .v 7] 1 (.op (.bin .mul .i64) [.i 32, .v 3] 1 (.op (.bin .add .i64) [.v 2, .v 9] 1 (.op .chkn [.v 8, .i 0] 0 (.op .addi [.v 3, .i 0] 1 (.op (.get 1 0) [.v 1, .v 11] 1 (.op (.call 103) [.v 12] 1 (.op (.cmp .gtr) [.v 13, .i 0] 1 (.seq (.ite (.v 14) (.op (.sl 1) [.v 1, .v 3, .v 8] 1 (.op (.call 104) [.v 15, .v 13] 1 (.op (.bin .add .i64) [.v 10, .v 13] 1 (.jump 0 [.v 0, .v 16, .v 17, .v 4, .v 5, .v 6])))) (.op (.sl 1) [.v 1, .v 3, .v 8] 1 (.jump 0 [.v 0, .v 15, .v 10, .v 4, .v 5, .v 6]))) (.ret [.v 0, .v 1, .v 2])))))))))))))))))
noncomputable def c105 : Cfg := ⟨Tryz.prog, gl0, Es105, s105.npin, Tryz.f79, s105, {}⟩
set_option maxRecDepth 100000 in
theorem k105 : compile c105 = .ok t105 := by kernel_rfl
def F105 : PF := t105.fn Tb105
set_option maxRecDepth 100000 in
theorem o105 : Contract Tryz.prog gl0 e105.f e105.sg F105 := compile_ok (c := c105) n105 l105 mo0 Tryz.func79 (by kernel_rfl) k105
theorem w105 : Lawful F105 := T.fn_lawful l105 t105
def x105 : List (AS × List AS) := []
theorem y105 : ∀ x ∈ x105, SumOk F105 x := all_nil
set_option maxRecDepth 100000 in
theorem n106 : Ents Tryz.prog gl0 (Es105 ++ [e105]) (Tb105 ++ [F105]) := Ents.snoc n105 rfl o105 rfl rfl
theorem l106 : ∀ G ∈ Tb105 ++ [F105], Lawful G := lawful_snoc l105 w105 rfl
theorem z106 : SumsOk (Tb105 ++ [F105]) (S105 ++ [x105]) := SumsOk.snoc z105 rfl y105 rfl rfl
/-- gimbal.dyad.Of -/
def s106 : Sig := { args := [.c (.int (.u64) (.v 0))], heap := [], npin := 0, np := 1, res := .tup [{ agg := true, cs := [.bool (.v 0), .slc 0, .int (.i64) (.v 2)] }, { agg := false, cs := [.bool (.v 3)] }], out := [some (.list (.int (.u32)) 1 (.v 1) false)], nr := 4 }
def e106 : Ent := ⟨74, s106⟩
def Es106 : List Ent := [e0, e1, e2, e3, e4, e5, e6, e7, e8, e9, e10, e11, e12, e13, e14, e15, e16, e17, e18, e19, e20, e21, e22, e23, e24, e25, e26, e27, e28, e29, e30, e31, e32, e33, e34, e35, e36, e37, e38, e39, e40, e41, e42, e43, e44, e45, e46, e47, e48, e49, e50, e51, e52, e53, e54, e55, e56, e57, e58, e59, e60, e61, e62, e63, e64, e65, e66, e67, e68, e69, e70, e71, e72, e73, e74, e75, e76, e77, e78, e79, e80, e81, e82, e83, e84, e85, e86, e87, e88, e89, e90, e91, e92, e93, e94, e95, e96, e97, e98, e99, e100, e101, e102, e103, e104, e105]
def Tb106 : List PF := [F0, F1, F2, F3, F4, F5, F6, F7, F8, F9, F10, F11, F12, F13, F14, F15, F16, F17, F18, F19, F20, F21, F22, F23, F24, F25, F26, F27, F28, F29, F30, F31, F32, F33, F34, F35, F36, F37, F38, F39, F40, F41, F42, F43, F44, F45, F46, F47, F48, F49, F50, F51, F52, F53, F54, F55, F56, F57, F58, F59, F60, F61, F62, F63, F64, F65, F66, F67, F68, F69, F70, F71, F72, F73, F74, F75, F76, F77, F78, F79, F80, F81, F82, F83, F84, F85, F86, F87, F88, F89, F90, F91, F92, F93, F94, F95, F96, F97, F98, F99, F100, F101, F102, F103, F104, F105]
def S106 : Sums := [x0, x1, x2, x3, x4, x5, x6, x7, x8, x9, x10, x11, x12, x13, x14, x15, x16, x17, x18, x19, x20, x21, x22, x23, x24, x25, x26, x27, x28, x29, x30, x31, x32, x33, x34, x35, x36, x37, x38, x39, x40, x41, x42, x43, x44, x45, x46, x47, x48, x49, x50, x51, x52, x53, x54, x55, x56, x57, x58, x59, x60, x61, x62, x63, x64, x65, x66, x67, x68, x69, x70, x71, x72, x73, x74, x75, x76, x77, x78, x79, x80, x81, x82, x83, x84, x85, x86, x87, x88, x89, x90, x91, x92, x93, x94, x95, x96, x97, x98, x99, x100, x101, x102, x103, x104, x105]
set_option maxRecDepth 100000 in
def t106 : T := .op (.call 7) [.v 0] 1 (.op .bnot [.v 1] 1 (.ite (.v 2) (.ret [.b false, .nil, .i 0, .b false]) (.op (.call 12) [.v 0] 2 (.op (.call 15) [.v 0] 1 (.op (.conv .u32) [.v 3] 1 (.op (.bin .shr .u64) [.v 3, .i 32] 1 (.op (.conv .u32) [.v 7] 1 (.op .lit [.v 6, .v 8] 1 (.op (.call 105) [.v 5, .v 9, .v 4] 3 (.ret [.v 10, .v 11, .v 12, .b true]))))))))))
noncomputable def c106 : Cfg := ⟨Tryz.prog, gl0, Es106, s106.npin, Tryz.f74, s106, {}⟩
set_option maxRecDepth 100000 in
theorem k106 : compile c106 = .ok t106 := by kernel_rfl
def F106 : PF := t106.fn Tb106
set_option maxRecDepth 100000 in
theorem o106 : Contract Tryz.prog gl0 e106.f e106.sg F106 := compile_ok (c := c106) n106 l106 mo0 Tryz.func74 (by kernel_rfl) k106
theorem w106 : Lawful F106 := T.fn_lawful l106 t106
def x106 : List (AS × List AS) := []
theorem y106 : ∀ x ∈ x106, SumOk F106 x := all_nil
set_option maxRecDepth 100000 in
theorem n107 : Ents Tryz.prog gl0 (Es106 ++ [e106]) (Tb106 ++ [F106]) := Ents.snoc n106 rfl o106 rfl rfl
theorem l107 : ∀ G ∈ Tb106 ++ [F106], Lawful G := lawful_snoc l106 w106 rfl
theorem z107 : SumsOk (Tb106 ++ [F106]) (S106 ++ [x106]) := SumsOk.snoc z106 rfl y106 rfl rfl
/-- (gimbal.dyad.Num).Mul -/
def s107 : Sig := { args := [.agg [.bool (.v 0), .slc 0, .int (.i64) (.v 2)], .agg [.bool (.v 3), .slc 1, .int (.i64) (.v 5)]], heap := [some (.list (.int (.u32)) 1 (.v 1) false), some (.list (.int (.u32)) 1 (.v 4) false)], npin := 0, np := 6, res := .agg [.bool (.v 0), .slc 2, .int (.i64) (.v 2)], out := [none, none, some (.list (.int (.u32)) 1 (.v 1) false)], nr := 3 }
def e107 : Ent := ⟨32, s107⟩
def Es107 : List Ent := [e0, e1, e2, e3, e4, e5, e6, e7, e8, e9, e10, e11, e12, e13, e14, e15, e16, e17, e18, e19, e20, e21, e22, e23, e24, e25, e26, e27, e28, e29, e30, e31, e32, e33, e34, e35, e36, e37, e38, e39, e40, e41, e42, e43, e44, e45, e46, e47, e48, e49, e50, e51, e52, e53, e54, e55, e56, e57, e58, e59, e60, e61, e62, e63, e64, e65, e66, e67, e68, e69, e70, e71, e72, e73, e74, e75, e76, e77, e78, e79, e80, e81, e82, e83, e84, e85, e86, e87, e88, e89, e90, e91, e92, e93, e94, e95, e96, e97, e98, e99, e100, e101, e102, e103, e104, e105, e106]
def Tb107 : List PF := [F0, F1, F2, F3, F4, F5, F6, F7, F8, F9, F10, F11, F12, F13, F14, F15, F16, F17, F18, F19, F20, F21, F22, F23, F24, F25, F26, F27, F28, F29, F30, F31, F32, F33, F34, F35, F36, F37, F38, F39, F40, F41, F42, F43, F44, F45, F46, F47, F48, F49, F50, F51, F52, F53, F54, F55, F56, F57, F58, F59, F60, F61, F62, F63, F64, F65, F66, F67, F68, F69, F70, F71, F72, F73, F74, F75, F76, F77, F78, F79, F80, F81, F82, F83, F84, F85, F86, F87, F88, F89, F90, F91, F92, F93, F94, F95, F96, F97, F98, F99, F100, F101, F102, F103, F104, F105, F106]
def S107 : Sums := [x0, x1, x2, x3, x4, x5, x6, x7, x8, x9, x10, x11, x12, x13, x14, x15, x16, x17, x18, x19, x20, x21, x22, x23, x24, x25, x26, x27, x28, x29, x30, x31, x32, x33, x34, x35, x36, x37, x38, x39, x40, x41, x42, x43, x44, x45, x46, x47, x48, x49, x50, x51, x52, x53, x54, x55, x56, x57, x58, x59, x60, x61, x62, x63, x64, x65, x66, x67, x68, x69, x70, x71, x72, x73, x74, x75, x76, x77, x78, x79, x80, x81, x82, x83, x84, x85, x86, x87, x88, x89, x90, x91, x92, x93, x94, x95, x96, x97, x98, x99, x100, x101, x102, x103, x104, x105, x106]
set_option maxRecDepth 100000 in
def t107 : T := .seq (.op (.len 1) [.v 1] 1 (.op (.cmp .eql) [.v 6, .i 0] 1 (.ite (.v 7) (.jump 0 [.b true, .v 1, .v 4, .v 0, .v 2, .v 3, .v 5, .b false, .i 0, .nil]) (.op (.len 1) [.v 4] 1 (.op (.cmp .eql) [.v 8, .i 0] 1 (.jump 0 [.v 9, .v 1, .v 4, .v 0, .v 2, .v 3, .v 5, .b false, .i 0, .nil])))))) (.ite (.v 0) (.ret [.b false, .nil, .i 0]) (.op (.len 1) [.v 1] 1 (.op (.len 1) [.v 2] 1 (.op (.bin .add .i64) [.v 10, .v 11] 1 (.op (.mk 1) [.v 12, .v 12] 1 (.op (.len 1) [.v 1] 1 (.seq (.loop [.v 14, .i 0, .v 1, .v 2, .v 3, .v 4, .v 5, .v 6, .v 7, .v 8, .v 9, .v 13] (.op (.cmp .lss) [.v 1, .v 0] 1 (.ite (.v 12) (.seq (.op (.chk 1) [.v 2, .v 1] 0 (.op (.get 1 0) [.v 2, .v 1] 1 (.op (.len 1) [.v 3] 1 (.seq (.loop [.v 1, .v 13, .i 0, .v 0, .v 1, .v 14, .i 0, .v 2, .v 3, .v 4, .v 5, .v 6, .v 7, .v 8, .v 9, .v 10, .v 11] (.op (.cmp .lss) [.v 6, .v 5] 1 (.ite (.v 17) (.seq (.op (.chk 1) [.v 8, .v 6] 0 (.op (.get 1 0) [.v 8, .v 6] 1 (.op (.bin .add .i64) [.v 0, .v 6] 1 (.op (.chk 1) [.v 16, .v 19] 0 (.op (.get 1 0) [.v 16, .v 19] 1 (.op (.conv .u64) [.v 20] 1 (.op (.conv .u64) [.v 1] 1 (.op (.conv .u64) [.v 18] 1 (.op (.bin .mul .u64) [.v 22, .v 23] 1 (.op (.bin .add .u64) [.v 21, .v 24] 1 (.op (.bin .add .u64) [.v 2, .v 25] 1 (.op (.bin .add .i64) [.v 0, .v 6] 1 (.op (.conv .u32) [.v 26] 1 (.op (.bin .shr .u64) [.v 26, .i 32] 1 (.op (.chk 1) [.v 16, .v 27] 0 (.op (.set 1 0) [.v 16, .v 27, .v 28] 1 (.jump 0 [.v 0, .v 1, .v 29, .v 3, .v 4, .v 5, .v 6, .v 7, .v 8, .v 9, .v 10, .v 11, .v 12, .v 13, .v 14, .v 15, .v 30]))))))))))))))))) (.op (.bin .add .i64) [.v 6, .i 1] 1 (.jump 0 [.v 0, .v 1, .v 2, .v 3, .v 4, .v 5, .v 17, .v 7, .v 8, .v 9, .v 10, .v 11, .v 12, .v 13, .v 14, .v 15, .v 16]))) (.jump 1 [.v 0, .v 2, .v 3, .v 4, .v 7, .v 8, .v 9, .v 10, .v 11, .v 12, .v 13, .v 14, .v 15, .v 16])))) (.op (.len 1) [.v 5] 1 (.op (.bin .add .i64) [.v 0, .v 14] 1 (.op (.conv .u32) [.v 1] 1 (.op (.chk 1) [.v 13, .v 15] 0 (.op (.set 1 0) [.v 13, .v 15, .v 16] 1 (.jump 0 [.v 2, .v 3, .v 4, .v 5, .v 6, .v 7, .v 8, .v 9, .v 10, .v 11, .v 12, .v 17])))))))))) (.op (.bin .add .i64) [.v 1, .i 1] 1 (.jump 0 [.v 0, .v 12, .v 2, .v 3, .v 4, .v 5, .v 6, .v 7, .v 8, .v 9, .v 10, .v 11]))) (.jump 1 [.v 2, .v 3, .v 4, .v 5, .v 6, .v 7, .v 8, .v 9, .v 10, .v 11])))) (.op .bne [.v 2, .v 4] 1 (.op (.bin .add .i64) [.v 3, .v 5] 1 (.op (.call 105) [.v 10, .v 9, .v 11] 3 (.ret [.v 12, .v 13, .v 14])))))))))))
noncomputable def c107 : Cfg := ⟨Tryz.prog, gl0, Es107, s107.npin, Tryz.f32, s107, {}⟩
set_option maxRecDepth 100000 in
theorem k107 : compile c107 = .ok t107 := by kernel_rfl
def F107 : PF := t107.fn Tb107
set_option maxRecDepth 100000 in
theorem o107 : Contract Tryz.prog gl0 e107.f e107.sg F107 := compile_ok (c := c107) n107 l107 mo0 Tryz.func32 (by kernel_rfl) k107
theorem w107 : Lawful F107 := T.fn_lawful l107 t107
def x107 : List (AS × List AS) := []
theorem y107 : ∀ x ∈ x107, SumOk F107 x := all_nil
set_option maxRecDepth 100000 in
theorem n108 : Ents Tryz.prog gl0 (Es107 ++ [e107]) (Tb107 ++ [F107]) := Ents.snoc n107 rfl o107 rfl rfl
theorem l108 : ∀ G ∈ Tb107 ++ [F107], Lawful G := lawful_snoc l107 w107 rfl
theorem z108 : SumsOk (Tb107 ++ [F107]) (S107 ++ [x107]) := SumsOk.snoc z107 rfl y107 rfl rfl
/-- gimbal.dyad.line$1 -/
def s108 : Sig := { args := [.c (.slc 0)], heap := [some (.list (.int (.u32)) 1 (.v 0) false)], npin := 0, np := 1, res := .c (.slc 1), out := [none, some (.list (.int (.u32)) 1 (.v 0) false)], nr := 1 }
def e108 : Ent := ⟨132, s108⟩
def Es108 : List Ent := [e0, e1, e2, e3, e4, e5, e6, e7, e8, e9, e10, e11, e12, e13, e14, e15, e16, e17, e18, e19, e20, e21, e22, e23, e24, e25, e26, e27, e28, e29, e30, e31, e32, e33, e34, e35, e36, e37, e38, e39, e40, e41, e42, e43, e44, e45, e46, e47, e48, e49, e50, e51, e52, e53, e54, e55, e56, e57, e58, e59, e60, e61, e62, e63, e64, e65, e66, e67, e68, e69, e70, e71, e72, e73, e74, e75, e76, e77, e78, e79, e80, e81, e82, e83, e84, e85, e86, e87, e88, e89, e90, e91, e92, e93, e94, e95, e96, e97, e98, e99, e100, e101, e102, e103, e104, e105, e106, e107]
def Tb108 : List PF := [F0, F1, F2, F3, F4, F5, F6, F7, F8, F9, F10, F11, F12, F13, F14, F15, F16, F17, F18, F19, F20, F21, F22, F23, F24, F25, F26, F27, F28, F29, F30, F31, F32, F33, F34, F35, F36, F37, F38, F39, F40, F41, F42, F43, F44, F45, F46, F47, F48, F49, F50, F51, F52, F53, F54, F55, F56, F57, F58, F59, F60, F61, F62, F63, F64, F65, F66, F67, F68, F69, F70, F71, F72, F73, F74, F75, F76, F77, F78, F79, F80, F81, F82, F83, F84, F85, F86, F87, F88, F89, F90, F91, F92, F93, F94, F95, F96, F97, F98, F99, F100, F101, F102, F103, F104, F105, F106, F107]
def S108 : Sums := [x0, x1, x2, x3, x4, x5, x6, x7, x8, x9, x10, x11, x12, x13, x14, x15, x16, x17, x18, x19, x20, x21, x22, x23, x24, x25, x26, x27, x28, x29, x30, x31, x32, x33, x34, x35, x36, x37, x38, x39, x40, x41, x42, x43, x44, x45, x46, x47, x48, x49, x50, x51, x52, x53, x54, x55, x56, x57, x58, x59, x60, x61, x62, x63, x64, x65, x66, x67, x68, x69, x70, x71, x72, x73, x74, x75, x76, x77, x78, x79, x80, x81, x82, x83, x84, x85, x86, x87, x88, x89, x90, x91, x92, x93, x94, x95, x96, x97, x98, x99, x100, x101, x102, x103, x104, x105, x106, x107]
set_option maxRecDepth 100000 in
def t108 : T := .op (.len 1) [.v 0] 1 (.seq (.loop [.v 1, .v 0] (.seq (.op (.cmp .gtr) [.v 0, .i 0] 1 (.ite (.v 2) (.op (.bin .sub .i64) [.v 0, .i 1] 1 (.op (.chk 1) [.v 1, .v 3] 0 (.op (.get 1 0) [.v 1, .v 3] 1 (.op (.cmp .eql) [.v 4, .i 0] 1 (.jump 0 [.v 0, .v 5, .v 1]))))) (.jump 0 [.v 0, .b false, .v 1]))) (.ite (.v 1) (.seq (.op (.bin .sub .i64) [.v 0, .i 1] 1 (.jump 0 [.v 3, .v 2])) (.jump 0 [.v 0, .v 1])) (.jump 1 [.v 0, .v 2])))) (.op (.len 1) [.v 1] 1 (.op .rng [.i 0, .v 0, .v 2] 1 (.op (.sl 1) [.v 1, .i 0, .v 3] 1 (.ret [.v 4])))))
noncomputable def c108 : Cfg := ⟨Tryz.prog, gl0, Es108, s108.npin, Tryz.f132, s108, {}⟩
set_option maxRecDepth 100000 in
theorem k108 : compile c108 = .ok t108 := by kernel_rfl
def F108 : PF := t108.fn Tb108
set_option maxRecDepth 100000 in
theorem o108 : Contract Tryz.prog gl0 e108.f e108.sg F108 := compile_ok (c := c108) n108 l108 mo0 Tryz.func132 (by kernel_rfl) k108
theorem w108 : Lawful F108 := T.fn_lawful l108 t108
def x108 : List (AS × List AS) := []
theorem y108 : ∀ x ∈ x108, SumOk F108 x := all_nil
set_option maxRecDepth 100000 in
theorem n109 : Ents Tryz.prog gl0 (Es108 ++ [e108]) (Tb108 ++ [F108]) := Ents.snoc n108 rfl o108 rfl rfl
theorem l109 : ∀ G ∈ Tb108 ++ [F108], Lawful G := lawful_snoc l108 w108 rfl
theorem z109 : SumsOk (Tb108 ++ [F108]) (S108 ++ [x108]) := SumsOk.snoc z108 rfl y108 rfl rfl
/-- gimbal.dyad.up -/
def s109 : Sig := { args := [.c (.slc 0), .c (.int (.i64) (.v 1))], heap := [some (.list (.int (.u32)) 1 (.v 0) false)], npin := 0, np := 2, res := .c (.slc 1), out := [none, some (.list (.int (.u32)) 1 (.v 0) true)], nr := 1 }
def e109 : Ent := ⟨133, s109⟩
def Es109 : List Ent := [e0, e1, e2, e3, e4, e5, e6, e7, e8, e9, e10, e11, e12, e13, e14, e15, e16, e17, e18, e19, e20, e21, e22, e23, e24, e25, e26, e27, e28, e29, e30, e31, e32, e33, e34, e35, e36, e37, e38, e39, e40, e41, e42, e43, e44, e45, e46, e47, e48, e49, e50, e51, e52, e53, e54, e55, e56, e57, e58, e59, e60, e61, e62, e63, e64, e65, e66, e67, e68, e69, e70, e71, e72, e73, e74, e75, e76, e77, e78, e79, e80, e81, e82, e83, e84, e85, e86, e87, e88, e89, e90, e91, e92, e93, e94, e95, e96, e97, e98, e99, e100, e101, e102, e103, e104, e105, e106, e107, e108]
def Tb109 : List PF := [F0, F1, F2, F3, F4, F5, F6, F7, F8, F9, F10, F11, F12, F13, F14, F15, F16, F17, F18, F19, F20, F21, F22, F23, F24, F25, F26, F27, F28, F29, F30, F31, F32, F33, F34, F35, F36, F37, F38, F39, F40, F41, F42, F43, F44, F45, F46, F47, F48, F49, F50, F51, F52, F53, F54, F55, F56, F57, F58, F59, F60, F61, F62, F63, F64, F65, F66, F67, F68, F69, F70, F71, F72, F73, F74, F75, F76, F77, F78, F79, F80, F81, F82, F83, F84, F85, F86, F87, F88, F89, F90, F91, F92, F93, F94, F95, F96, F97, F98, F99, F100, F101, F102, F103, F104, F105, F106, F107, F108]
def S109 : Sums := [x0, x1, x2, x3, x4, x5, x6, x7, x8, x9, x10, x11, x12, x13, x14, x15, x16, x17, x18, x19, x20, x21, x22, x23, x24, x25, x26, x27, x28, x29, x30, x31, x32, x33, x34, x35, x36, x37, x38, x39, x40, x41, x42, x43, x44, x45, x46, x47, x48, x49, x50, x51, x52, x53, x54, x55, x56, x57, x58, x59, x60, x61, x62, x63, x64, x65, x66, x67, x68, x69, x70, x71, x72, x73, x74, x75, x76, x77, x78, x79, x80, x81, x82, x83, x84, x85, x86, x87, x88, x89, x90, x91, x92, x93, x94, x95, x96, x97, x98, x99, x100, x101, x102, x103, x104, x105, x106, x107, x108]
set_option maxRecDepth 100000 in
def t109 : T := .op (.bin .quo .i64) [.v 1, .i 32] 1 (.op (.bin .quo .i64) [.v 1, .i 32] 1 (.op (.len 1) [.v 0] 1 (.op (.bin .add .i64) [.v 3, .v 4] 1 (.op (.bin .add .i64) [.v 5, .i 1] 1 (.op (.mk 1) [.v 2, .v 6] 1 (.op (.bin .rem .i64) [.v 1, .i 32] 1 (.op (.len 1) [.v 0] 1 (.seq (.loop [.v 8, .i 0, .v 9, .i 0, .v 0, .v 7] (.op (.cmp .lss) [.v 3, .v 2] 1 (.ite (.v 6) (.seq (.op (.chk 1) [.v 4, .v 3] 0 (.op (.get 1 0) [.v 4, .v 3] 1 (.op (.bin .shl .u32) [.v 7, .v 0] 1 (.op (.bin .or .u32) [.v 8, .v 1] 1 (.op .lit [.v 9] 1 (.op .app [.v 5, .v 10] 1 (.op (.conv .u64) [.v 7] 1 (.op (.bin .sub .i64) [.i 32, .v 0] 1 (.op (.bin .shr .u64) [.v 12, .v 13] 1 (.op (.conv .u32) [.v 14] 1 (.jump 0 [.v 0, .v 15, .v 2, .v 3, .v 4, .v 11]))))))))))) (.op (.bin .add .i64) [.v 3, .i 1] 1 (.jump 0 [.v 0, .v 1, .v 2, .v 6, .v 4, .v 5]))) (.jump 1 [.v 1, .v 5])))) (.op .lit [.v 0] 1 (.op .app [.v 1, .v 2] 1 (.ret [.v 3])))))))))))
noncomputable def c109 : Cfg := ⟨Tryz.prog, gl0, Es109, s109.npin, Tryz.f133, s109, {}⟩
set_option maxRecDepth 100000 in
theorem k109 : compile c109 = .ok t109 := by kernel_rfl
def F109 : PF := t109.fn Tb109
set_option maxRecDepth 100000 in
theorem o109 : Contract Tryz.prog gl0 e109.f e109.sg F109 := compile_ok (c := c109) n109 l109 mo0 Tryz.func133 (by kernel_rfl) k109
theorem w109 : Lawful F109 := T.fn_lawful l109 t109
def x109 : List (AS × List AS) := []
theorem y109 : ∀ x ∈ x109, SumOk F109 x := all_nil
set_option maxRecDepth 100000 in
theorem n110 : Ents Tryz.prog gl0 (Es109 ++ [e109]) (Tb109 ++ [F109]) := Ents.snoc n109 rfl o109 rfl rfl
theorem l110 : ∀ G ∈ Tb109 ++ [F109], Lawful G := lawful_snoc l109 w109 rfl
theorem z110 : SumsOk (Tb109 ++ [F109]) (S109 ++ [x109]) := SumsOk.snoc z109 rfl y109 rfl rfl
end YtjbacabjgdfmdaaGreatDoor.Gp
end Go.Proofs

/- What the program's functions do, and that they end, part 8: made by a program of this session. -/
namespace Go.Proofs
open Go Gm
namespace YtjbacabjgdfmdaaGreatDoor.Gp
/-- gimbal.dyad.line -/
def s110 : Sig := { args := [.agg [.bool (.v 0), .slc 0, .int (.i64) (.v 2)], .agg [.bool (.v 3), .slc 1, .int (.i64) (.v 5)]], heap := [some (.list (.int (.u32)) 1 (.v 1) false), some (.list (.int (.u32)) 1 (.v 4) false)], npin := 0, np := 6, res := .tup [{ agg := false, cs := [.slc 2] }, { agg := false, cs := [.slc 3] }, { agg := false, cs := [.int (.i64) (.v 2)] }], out := [none, none, some (.list (.int (.u32)) 1 (.v 0) false), some (.list (.int (.u32)) 1 (.v 1) false)], nr := 3 }
def e110 : Ent := ⟨78, s110⟩
def Es110 : List Ent := [e0, e1, e2, e3, e4, e5, e6, e7, e8, e9, e10, e11, e12, e13, e14, e15, e16, e17, e18, e19, e20, e21, e22, e23, e24, e25, e26, e27, e28, e29, e30, e31, e32, e33, e34, e35, e36, e37, e38, e39, e40, e41, e42, e43, e44, e45, e46, e47, e48, e49, e50, e51, e52, e53, e54, e55, e56, e57, e58, e59, e60, e61, e62, e63, e64, e65, e66, e67, e68, e69, e70, e71, e72, e73, e74, e75, e76, e77, e78, e79, e80, e81, e82, e83, e84, e85, e86, e87, e88, e89, e90, e91, e92, e93, e94, e95, e96, e97, e98, e99, e100, e101, e102, e103, e104, e105, e106, e107, e108, e109]
def Tb110 : List PF := [F0, F1, F2, F3, F4, F5, F6, F7, F8, F9, F10, F11, F12, F13, F14, F15, F16, F17, F18, F19, F20, F21, F22, F23, F24, F25, F26, F27, F28, F29, F30, F31, F32, F33, F34, F35, F36, F37, F38, F39, F40, F41, F42, F43, F44, F45, F46, F47, F48, F49, F50, F51, F52, F53, F54, F55, F56, F57, F58, F59, F60, F61, F62, F63, F64, F65, F66, F67, F68, F69, F70, F71, F72, F73, F74, F75, F76, F77, F78, F79, F80, F81, F82, F83, F84, F85, F86, F87, F88, F89, F90, F91, F92, F93, F94, F95, F96, F97, F98, F99, F100, F101, F102, F103, F104, F105, F106, F107, F108, F109]
def S110 : Sums := [x0, x1, x2, x3, x4, x5, x6, x7, x8, x9, x10, x11, x12, x13, x14, x15, x16, x17, x18, x19, x20, x21, x22, x23, x24, x25, x26, x27, x28, x29, x30, x31, x32, x33, x34, x35, x36, x37, x38, x39, x40, x41, x42, x43, x44, x45, x46, x47, x48, x49, x50, x51, x52, x53, x54, x55, x56, x57, x58, x59, x60, x61, x62, x63, x64, x65, x66, x67, x68, x69, x70, x71, x72, x73, x74, x75, x76, x77, x78, x79, x80, x81, x82, x83, x84, x85, x86, x87, x88, x89, x90, x91, x92, x93, x94, x95, x96, x97, x98, x99, x100, x101, x102, x103, x104, x105, x106, x107, x108, x109]
set_option maxRecDepth 100000 in
def t110 : T := .op .mn [.v 2, .v 5] 1 (.op (.bin .sub .i64) [.v 2, .v 6] 1 (.op (.call 109) [.v 1, .v 7] 1 (.op (.call 108) [.v 8] 1 (.op (.bin .sub .i64) [.v 5, .v 6] 1 (.op (.call 109) [.v 4, .v 10] 1 (.op (.call 108) [.v 11] 1 (.ret [.v 9, .v 12, .v 6])))))))
noncomputable def c110 : Cfg := ⟨Tryz.prog, gl0, Es110, s110.npin, Tryz.f78, s110, {}⟩
set_option maxRecDepth 100000 in
theorem k110 : compile c110 = .ok t110 := by kernel_rfl
def F110 : PF := t110.fn Tb110
set_option maxRecDepth 100000 in
theorem o110 : Contract Tryz.prog gl0 e110.f e110.sg F110 := compile_ok (c := c110) n110 l110 mo0 Tryz.func78 (by kernel_rfl) k110
theorem w110 : Lawful F110 := T.fn_lawful l110 t110
def x110 : List (AS × List AS) := []
theorem y110 : ∀ x ∈ x110, SumOk F110 x := all_nil
set_option maxRecDepth 100000 in
theorem n111 : Ents Tryz.prog gl0 (Es110 ++ [e110]) (Tb110 ++ [F110]) := Ents.snoc n110 rfl o110 rfl rfl
theorem l111 : ∀ G ∈ Tb110 ++ [F110], Lawful G := lawful_snoc l110 w110 rfl
theorem z111 : SumsOk (Tb110 ++ [F110]) (S110 ++ [x110]) := SumsOk.snoc z110 rfl y110 rfl rfl
/-- gimbal.dyad.cmp -/
def s111 : Sig := { args := [.c (.slc 0), .c (.slc 1)], heap := [some (.list (.int (.u32)) 1 (.v 0) false), some (.list (.int (.u32)) 1 (.v 1) false)], npin := 0, np := 2, res := .c (.int (.i64) (.v 0)), out := [none, none], nr := 1 }
def e111 : Ent := ⟨80, s111⟩
def Es111 : List Ent := [e0, e1, e2, e3, e4, e5, e6, e7, e8, e9, e10, e11, e12, e13, e14, e15, e16, e17, e18, e19, e20, e21, e22, e23, e24, e25, e26, e27, e28, e29, e30, e31, e32, e33, e34, e35, e36, e37, e38, e39, e40, e41, e42, e43, e44, e45, e46, e47, e48, e49, e50, e51, e52, e53, e54, e55, e56, e57, e58, e59, e60, e61, e62, e63, e64, e65, e66, e67, e68, e69, e70, e71, e72, e73, e74, e75, e76, e77, e78, e79, e80, e81, e82, e83, e84, e85, e86, e87, e88, e89, e90, e91, e92, e93, e94, e95, e96, e97, e98, e99, e100, e101, e102, e103, e104, e105, e106, e107, e108, e109, e110]
def Tb111 : List PF := [F0, F1, F2, F3, F4, F5, F6, F7, F8, F9, F10, F11, F12, F13, F14, F15, F16, F17, F18, F19, F20, F21, F22, F23, F24, F25, F26, F27, F28, F29, F30, F31, F32, F33, F34, F35, F36, F37, F38, F39, F40, F41, F42, F43, F44, F45, F46, F47, F48, F49, F50, F51, F52, F53, F54, F55, F56, F57, F58, F59, F60, F61, F62, F63, F64, F65, F66, F67, F68, F69, F70, F71, F72, F73, F74, F75, F76, F77, F78, F79, F80, F81, F82, F83, F84, F85, F86, F87, F88, F89, F90, F91, F92, F93, F94, F95, F96, F97, F98, F99, F100, F101, F102, F103, F104, F105, F106, F107, F108, F109, F110]
def S111 : Sums := [x0, x1, x2, x3, x4, x5, x6, x7, x8, x9, x10, x11, x12, x13, x14, x15, x16, x17, x18, x19, x20, x21, x22, x23, x24, x25, x26, x27, x28, x29, x30, x31, x32, x33, x34, x35, x36, x37, x38, x39, x40, x41, x42, x43, x44, x45, x46, x47, x48, x49, x50, x51, x52, x53, x54, x55, x56, x57, x58, x59, x60, x61, x62, x63, x64, x65, x66, x67, x68, x69, x70, x71, x72, x73, x74, x75, x76, x77, x78, x79, x80, x81, x82, x83, x84, x85, x86, x87, x88, x89, x90, x91, x92, x93, x94, x95, x96, x97, x98, x99, x100, x101, x102, x103, x104, x105, x106, x107, x108, x109, x110]
set_option maxRecDepth 100000 in
def t111 : T := .op (.len 1) [.v 0] 1 (.op (.len 1) [.v 1] 1 (.op (.cmp .neq) [.v 2, .v 3] 1 (.ite (.v 4) (.op (.len 1) [.v 0] 1 (.op (.len 1) [.v 1] 1 (.op (.cmp .lss) [.v 5, .v 6] 1 (.ite (.v 7) (.ret [.i (-1)]) (.ret [.i 1]))))) (.op (.len 1) [.v 0] 1 (.op (.bin .sub .i64) [.v 5, .i 1] 1 (.seq (.loop [.v 6, .v 0, .v 1] (.op (.cmp .geq) [.v 0, .i 0] 1 (.ite (.v 3) (.seq (.op (.chk 1) [.v 1, .v 0] 0 (.op (.get 1 0) [.v 1, .v 0] 1 (.op (.chk 1) [.v 2, .v 0] 0 (.op (.get 1 0) [.v 2, .v 0] 1 (.op (.cmp .neq) [.v 4, .v 5] 1 (.ite (.v 6) (.op (.chk 1) [.v 1, .v 0] 0 (.op (.get 1 0) [.v 1, .v 0] 1 (.op (.chk 1) [.v 2, .v 0] 0 (.op (.get 1 0) [.v 2, .v 0] 1 (.op (.cmp .lss) [.v 7, .v 8] 1 (.ite (.v 9) (.ret [.i (-1)]) (.ret [.i 1]))))))) (.jump 0 [.v 0, .v 1, .v 2]))))))) (.op (.bin .sub .i64) [.v 0, .i 1] 1 (.jump 0 [.v 3, .v 1, .v 2]))) (.jump 1 [])))) (.ret [.i 0])))))))
noncomputable def c111 : Cfg := ⟨Tryz.prog, gl0, Es111, s111.npin, Tryz.f80, s111, {}⟩
set_option maxRecDepth 100000 in
theorem k111 : compile c111 = .ok t111 := by kernel_rfl
def F111 : PF := t111.fn Tb111
set_option maxRecDepth 100000 in
theorem o111 : Contract Tryz.prog gl0 e111.f e111.sg F111 := compile_ok (c := c111) n111 l111 mo0 Tryz.func80 (by kernel_rfl) k111
theorem w111 : Lawful F111 := T.fn_lawful l111 t111
def x111 : List (AS × List AS) := []
theorem y111 : ∀ x ∈ x111, SumOk F111 x := all_nil
set_option maxRecDepth 100000 in
theorem n112 : Ents Tryz.prog gl0 (Es111 ++ [e111]) (Tb111 ++ [F111]) := Ents.snoc n111 rfl o111 rfl rfl
theorem l112 : ∀ G ∈ Tb111 ++ [F111], Lawful G := lawful_snoc l111 w111 rfl
theorem z112 : SumsOk (Tb111 ++ [F111]) (S111 ++ [x111]) := SumsOk.snoc z111 rfl y111 rfl rfl
/-- (gimbal.dyad.Num).Add -/
def s112 : Sig := { args := [.agg [.bool (.v 0), .slc 0, .int (.i64) (.v 2)], .agg [.bool (.v 3), .slc 1, .int (.i64) (.v 5)]], heap := [some (.list (.int (.u32)) 1 (.v 1) false), some (.list (.int (.u32)) 1 (.v 4) false)], npin := 0, np := 6, res := .agg [.bool (.v 0), .slc 2, .int (.i64) (.v 2)], out := [none, none, some (.list (.int (.u32)) 1 (.v 1) false)], nr := 3 }
def e112 : Ent := ⟨25, s112⟩
def Es112 : List Ent := [e0, e1, e2, e3, e4, e5, e6, e7, e8, e9, e10, e11, e12, e13, e14, e15, e16, e17, e18, e19, e20, e21, e22, e23, e24, e25, e26, e27, e28, e29, e30, e31, e32, e33, e34, e35, e36, e37, e38, e39, e40, e41, e42, e43, e44, e45, e46, e47, e48, e49, e50, e51, e52, e53, e54, e55, e56, e57, e58, e59, e60, e61, e62, e63, e64, e65, e66, e67, e68, e69, e70, e71, e72, e73, e74, e75, e76, e77, e78, e79, e80, e81, e82, e83, e84, e85, e86, e87, e88, e89, e90, e91, e92, e93, e94, e95, e96, e97, e98, e99, e100, e101, e102, e103, e104, e105, e106, e107, e108, e109, e110, e111]
def Tb112 : List PF := [F0, F1, F2, F3, F4, F5, F6, F7, F8, F9, F10, F11, F12, F13, F14, F15, F16, F17, F18, F19, F20, F21, F22, F23, F24, F25, F26, F27, F28, F29, F30, F31, F32, F33, F34, F35, F36, F37, F38, F39, F40, F41, F42, F43, F44, F45, F46, F47, F48, F49, F50, F51, F52, F53, F54, F55, F56, F57, F58, F59, F60, F61, F62, F63, F64, F65, F66, F67, F68, F69, F70, F71, F72, F73, F74, F75, F76, F77, F78, F79, F80, F81, F82, F83, F84, F85, F86, F87, F88, F89, F90, F91, F92, F93, F94, F95, F96, F97, F98, F99, F100, F101, F102, F103, F104, F105, F106, F107, F108, F109, F110, F111]
def S112 : Sums := [x0, x1, x2, x3, x4, x5, x6, x7, x8, x9, x10, x11, x12, x13, x14, x15, x16, x17, x18, x19, x20, x21, x22, x23, x24, x25, x26, x27, x28, x29, x30, x31, x32, x33, x34, x35, x36, x37, x38, x39, x40, x41, x42, x43, x44, x45, x46, x47, x48, x49, x50, x51, x52, x53, x54, x55, x56, x57, x58, x59, x60, x61, x62, x63, x64, x65, x66, x67, x68, x69, x70, x71, x72, x73, x74, x75, x76, x77, x78, x79, x80, x81, x82, x83, x84, x85, x86, x87, x88, x89, x90, x91, x92, x93, x94, x95, x96, x97, x98, x99, x100, x101, x102, x103, x104, x105, x106, x107, x108, x109, x110, x111]
set_option maxRecDepth 100000 in
def t112 : T := .op (.len 1) [.v 1] 1 (.op (.cmp .eql) [.v 6, .i 0] 1 (.ite (.v 7) (.ret [.v 3, .v 4, .v 5]) (.op (.len 1) [.v 4] 1 (.op (.cmp .eql) [.v 8, .i 0] 1 (.ite (.v 9) (.ret [.v 0, .v 1, .v 2]) (.op (.call 110) [.v 0, .v 1, .v 2, .v 3, .v 4, .v 5] 3 (.op .beq [.v 0, .v 3] 1 (.ite (.v 13) (.op (.len 1) [.v 10] 1 (.op (.len 1) [.v 11] 1 (.op (.cmp .lss) [.v 14, .v 15] 1 (.seq (.ite (.v 16) (.jump 0 [.v 12, .v 1, .v 0, .v 2, .b false, .i 0, .nil, .v 11, .v 10]) (.jump 0 [.v 12, .v 1, .v 0, .v 2, .b false, .i 0, .nil, .v 10, .v 11])) (.op (.len 1) [.v 7] 1 (.op (.bin .add .i64) [.v 9, .i 1] 1 (.op (.mk 1) [.i 0, .v 10] 1 (.op (.len 1) [.v 7] 1 (.seq (.loop [.v 0, .i 0, .v 12, .i 0, .v 1, .v 2, .v 3, .v 4, .v 5, .v 6, .v 7, .v 8, .v 11] (.op (.cmp .lss) [.v 3, .v 2] 1 (.ite (.v 13) (.seq (.op (.chk 1) [.v 10, .v 3] 0 (.op (.get 1 0) [.v 10, .v 3] 1 (.op (.conv .u64) [.v 14] 1 (.op (.bin .add .u64) [.v 1, .v 15] 1 (.op (.len 1) [.v 11] 1 (.op (.cmp .lss) [.v 3, .v 17] 1 (.seq (.ite (.v 18) (.op (.chk 1) [.v 11, .v 3] 0 (.op (.get 1 0) [.v 11, .v 3] 1 (.op (.conv .u64) [.v 19] 1 (.op (.bin .add .u64) [.v 16, .v 20] 1 (.jump 0 [.v 0, .v 21, .v 2, .v 3, .v 4, .v 5, .v 6, .v 7, .v 8, .v 9, .v 10, .v 11, .v 12]))))) (.jump 0 [.v 0, .v 16, .v 2, .v 3, .v 4, .v 5, .v 6, .v 7, .v 8, .v 9, .v 10, .v 11, .v 12])) (.op (.conv .u32) [.v 1] 1 (.op .lit [.v 13] 1 (.op .app [.v 12, .v 14] 1 (.op (.bin .shr .u64) [.v 1, .i 32] 1 (.jump 0 [.v 0, .v 16, .v 2, .v 3, .v 4, .v 5, .v 6, .v 7, .v 8, .v 9, .v 10, .v 11, .v 15])))))))))))) (.op (.bin .add .i64) [.v 3, .i 1] 1 (.jump 0 [.v 0, .v 1, .v 2, .v 13, .v 4, .v 5, .v 6, .v 7, .v 8, .v 9, .v 10, .v 11, .v 12]))) (.jump 1 [.v 0, .v 1, .v 4, .v 5, .v 6, .v 7, .v 8, .v 9, .v 12])))) (.op (.conv .u32) [.v 1] 1 (.op .lit [.v 9] 1 (.op .app [.v 8, .v 10] 1 (.op (.call 105) [.v 3, .v 11, .v 0] 3 (.ret [.v 12, .v 13, .v 14])))))))))))))) (.op (.call 111) [.v 10, .v 11] 1 (.seq (.op (.cmp .eql) [.v 14, .i 0] 1 (.ite (.v 15) (.ret [.b false, .nil, .i 0]) (.op (.cmp .eql) [.v 14, .i (-1)] 1 (.seq (.ite (.v 16) (.jump 0 [.v 12, .v 3, .b false, .i 0, .nil, .v 11, .v 10]) (.jump 0 [.v 12, .v 0, .b false, .i 0, .nil, .v 10, .v 11])) (.jump 0 [.v 0, .v 1, .v 2, .v 3, .v 4, .v 5, .v 6]))))) (.op (.len 1) [.v 5] 1 (.op (.mk 1) [.i 0, .v 7] 1 (.op (.len 1) [.v 5] 1 (.seq (.loop [.v 0, .v 1, .i 0, .v 9, .i 0, .v 2, .v 3, .v 4, .v 5, .v 6, .v 8] (.op (.cmp .lss) [.v 4, .v 3] 1 (.ite (.v 11) (.seq (.op (.chk 1) [.v 8, .v 4] 0 (.op (.get 1 0) [.v 8, .v 4] 1 (.op (.conv .i64) [.v 12] 1 (.op (.bin .add .i64) [.v 2, .v 13] 1 (.op (.len 1) [.v 9] 1 (.op (.cmp .lss) [.v 4, .v 15] 1 (.seq (.ite (.v 16) (.op (.chk 1) [.v 9, .v 4] 0 (.op (.get 1 0) [.v 9, .v 4] 1 (.op (.conv .i64) [.v 17] 1 (.op (.bin .sub .i64) [.v 14, .v 18] 1 (.jump 0 [.v 0, .v 1, .v 19, .v 3, .v 4, .v 5, .v 6, .v 7, .v 8, .v 9, .v 10]))))) (.jump 0 [.v 0, .v 1, .v 14, .v 3, .v 4, .v 5, .v 6, .v 7, .v 8, .v 9, .v 10])) (.op (.conv .u32) [.v 2] 1 (.op .lit [.v 11] 1 (.op .app [.v 10, .v 12] 1 (.op (.bin .shr .i64) [.v 2, .i 32] 1 (.jump 0 [.v 0, .v 1, .v 14, .v 3, .v 4, .v 5, .v 6, .v 7, .v 8, .v 9, .v 13])))))))))))) (.op (.bin .add .i64) [.v 4, .i 1] 1 (.jump 0 [.v 0, .v 1, .v 2, .v 3, .v 11, .v 5, .v 6, .v 7, .v 8, .v 9, .v 10]))) (.jump 1 [.v 0, .v 1, .v 5, .v 6, .v 7, .v 10])))) (.op (.call 105) [.v 1, .v 5, .v 0] 3 (.ret [.v 6, .v 7, .v 8]))))))))))))))))
noncomputable def c112 : Cfg := ⟨Tryz.prog, gl0, Es112, s112.npin, Tryz.f25, s112, {}⟩
set_option maxRecDepth 100000 in
theorem k112 : compile c112 = .ok t112 := by kernel_rfl
def F112 : PF := t112.fn Tb112
set_option maxRecDepth 100000 in
theorem o112 : Contract Tryz.prog gl0 e112.f e112.sg F112 := compile_ok (c := c112) n112 l112 mo0 Tryz.func25 (by kernel_rfl) k112
theorem w112 : Lawful F112 := T.fn_lawful l112 t112
def x112 : List (AS × List AS) := []
theorem y112 : ∀ x ∈ x112, SumOk F112 x := all_nil
set_option maxRecDepth 100000 in
theorem n113 : Ents Tryz.prog gl0 (Es112 ++ [e112]) (Tb112 ++ [F112]) := Ents.snoc n112 rfl o112 rfl rfl
theorem l113 : ∀ G ∈ Tb112 ++ [F112], Lawful G := lawful_snoc l112 w112 rfl
theorem z113 : SumsOk (Tb112 ++ [F112]) (S112 ++ [x112]) := SumsOk.snoc z112 rfl y112 rfl rfl
/-- gimbal.dyad.Int -/
def s113 : Sig := { args := [.c (.int (.i64) (.v 0))], heap := [], npin := 0, np := 1, res := .agg [.bool (.v 0), .slc 0, .int (.i64) (.v 2)], out := [some (.list (.int (.u32)) 1 (.v 1) false)], nr := 3 }
def e113 : Ent := ⟨36, s113⟩
def Es113 : List Ent := [e0, e1, e2, e3, e4, e5, e6, e7, e8, e9, e10, e11, e12, e13, e14, e15, e16, e17, e18, e19, e20, e21, e22, e23, e24, e25, e26, e27, e28, e29, e30, e31, e32, e33, e34, e35, e36, e37, e38, e39, e40, e41, e42, e43, e44, e45, e46, e47, e48, e49, e50, e51, e52, e53, e54, e55, e56, e57, e58, e59, e60, e61, e62, e63, e64, e65, e66, e67, e68, e69, e70, e71, e72, e73, e74, e75, e76, e77, e78, e79, e80, e81, e82, e83, e84, e85, e86, e87, e88, e89, e90, e91, e92, e93, e94, e95, e96, e97, e98, e99, e100, e101, e102, e103, e104, e105, e106, e107, e108, e109, e110, e111, e112]
def Tb113 : List PF := [F0, F1, F2, F3, F4, F5, F6, F7, F8, F9, F10, F11, F12, F13, F14, F15, F16, F17, F18, F19, F20, F21, F22, F23, F24, F25, F26, F27, F28, F29, F30, F31, F32, F33, F34, F35, F36, F37, F38, F39, F40, F41, F42, F43, F44, F45, F46, F47, F48, F49, F50, F51, F52, F53, F54, F55, F56, F57, F58, F59, F60, F61, F62, F63, F64, F65, F66, F67, F68, F69, F70, F71, F72, F73, F74, F75, F76, F77, F78, F79, F80, F81, F82, F83, F84, F85, F86, F87, F88, F89, F90, F91, F92, F93, F94, F95, F96, F97, F98, F99, F100, F101, F102, F103, F104, F105, F106, F107, F108, F109, F110, F111, F112]
def S113 : Sums := [x0, x1, x2, x3, x4, x5, x6, x7, x8, x9, x10, x11, x12, x13, x14, x15, x16, x17, x18, x19, x20, x21, x22, x23, x24, x25, x26, x27, x28, x29, x30, x31, x32, x33, x34, x35, x36, x37, x38, x39, x40, x41, x42, x43, x44, x45, x46, x47, x48, x49, x50, x51, x52, x53, x54, x55, x56, x57, x58, x59, x60, x61, x62, x63, x64, x65, x66, x67, x68, x69, x70, x71, x72, x73, x74, x75, x76, x77, x78, x79, x80, x81, x82, x83, x84, x85, x86, x87, x88, x89, x90, x91, x92, x93, x94, x95, x96, x97, x98, x99, x100, x101, x102, x103, x104, x105, x106, x107, x108, x109, x110, x111, x112]
set_option maxRecDepth 100000 in
def t113 : T := .op (.conv .u64) [.v 0] 1 (.op (.cmp .lss) [.v 0, .i 0] 1 (.seq (.ite (.v 2) (.op (.neg .u64) [.v 1] 1 (.jump 0 [.v 0, .v 3, .b false, .i 0, .nil])) (.jump 0 [.v 0, .v 1, .b false, .i 0, .nil])) (.op (.cmp .lss) [.v 0, .i 0] 1 (.op (.conv .u32) [.v 1] 1 (.op (.bin .shr .u64) [.v 1, .i 32] 1 (.op (.conv .u32) [.v 7] 1 (.op .lit [.v 6, .v 8] 1 (.op (.call 105) [.v 5, .v 9, .i 0] 3 (.ret [.v 10, .v 11, .v 12])))))))))
noncomputable def c113 : Cfg := ⟨Tryz.prog, gl0, Es113, s113.npin, Tryz.f36, s113, {}⟩
set_option maxRecDepth 100000 in
theorem k113 : compile c113 = .ok t113 := by kernel_rfl
def F113 : PF := t113.fn Tb113
set_option maxRecDepth 100000 in
theorem o113 : Contract Tryz.prog gl0 e113.f e113.sg F113 := compile_ok (c := c113) n113 l113 mo0 Tryz.func36 (by kernel_rfl) k113
theorem w113 : Lawful F113 := T.fn_lawful l113 t113
def x113 : List (AS × List AS) := []
theorem y113 : ∀ x ∈ x113, SumOk F113 x := all_nil
set_option maxRecDepth 100000 in
theorem n114 : Ents Tryz.prog gl0 (Es113 ++ [e113]) (Tb113 ++ [F113]) := Ents.snoc n113 rfl o113 rfl rfl
theorem l114 : ∀ G ∈ Tb113 ++ [F113], Lawful G := lawful_snoc l113 w113 rfl
theorem z114 : SumsOk (Tb113 ++ [F113]) (S113 ++ [x113]) := SumsOk.snoc z113 rfl y113 rfl rfl
/-- gimbal.dyad.Two -/
def s114 : Sig := { args := [.c (.int (.i64) (.v 0))], heap := [], npin := 0, np := 1, res := .agg [.bool (.v 0), .slc 0, .int (.i64) (.v 2)], out := [some (.list (.int (.u32)) 1 (.v 1) false)], nr := 3 }
def e114 : Ent := ⟨37, s114⟩
def Es114 : List Ent := [e0, e1, e2, e3, e4, e5, e6, e7, e8, e9, e10, e11, e12, e13, e14, e15, e16, e17, e18, e19, e20, e21, e22, e23, e24, e25, e26, e27, e28, e29, e30, e31, e32, e33, e34, e35, e36, e37, e38, e39, e40, e41, e42, e43, e44, e45, e46, e47, e48, e49, e50, e51, e52, e53, e54, e55, e56, e57, e58, e59, e60, e61, e62, e63, e64, e65, e66, e67, e68, e69, e70, e71, e72, e73, e74, e75, e76, e77, e78, e79, e80, e81, e82, e83, e84, e85, e86, e87, e88, e89, e90, e91, e92, e93, e94, e95, e96, e97, e98, e99, e100, e101, e102, e103, e104, e105, e106, e107, e108, e109, e110, e111, e112, e113]
def Tb114 : List PF := [F0, F1, F2, F3, F4, F5, F6, F7, F8, F9, F10, F11, F12, F13, F14, F15, F16, F17, F18, F19, F20, F21, F22, F23, F24, F25, F26, F27, F28, F29, F30, F31, F32, F33, F34, F35, F36, F37, F38, F39, F40, F41, F42, F43, F44, F45, F46, F47, F48, F49, F50, F51, F52, F53, F54, F55, F56, F57, F58, F59, F60, F61, F62, F63, F64, F65, F66, F67, F68, F69, F70, F71, F72, F73, F74, F75, F76, F77, F78, F79, F80, F81, F82, F83, F84, F85, F86, F87, F88, F89, F90, F91, F92, F93, F94, F95, F96, F97, F98, F99, F100, F101, F102, F103, F104, F105, F106, F107, F108, F109, F110, F111, F112, F113]
def S114 : Sums := [x0, x1, x2, x3, x4, x5, x6, x7, x8, x9, x10, x11, x12, x13, x14, x15, x16, x17, x18, x19, x20, x21, x22, x23, x24, x25, x26, x27, x28, x29, x30, x31, x32, x33, x34, x35, x36, x37, x38, x39, x40, x41, x42, x43, x44, x45, x46, x47, x48, x49, x50, x51, x52, x53, x54, x55, x56, x57, x58, x59, x60, x61, x62, x63, x64, x65, x66, x67, x68, x69, x70, x71, x72, x73, x74, x75, x76, x77, x78, x79, x80, x81, x82, x83, x84, x85, x86, x87, x88, x89, x90, x91, x92, x93, x94, x95, x96, x97, x98, x99, x100, x101, x102, x103, x104, x105, x106, x107, x108, x109, x110, x111, x112, x113]
set_option maxRecDepth 100000 in
def t114 : T := .op .lit [.i 1] 1 (.op .mn [.v 0, .i 1048576] 1 (.op .mx [.i (-1048576), .v 2] 1 (.ret [.b false, .v 1, .v 3])))
noncomputable def c114 : Cfg := ⟨Tryz.prog, gl0, Es114, s114.npin, Tryz.f37, s114, {}⟩
set_option maxRecDepth 100000 in
theorem k114 : compile c114 = .ok t114 := by kernel_rfl
def F114 : PF := t114.fn Tb114
set_option maxRecDepth 100000 in
theorem o114 : Contract Tryz.prog gl0 e114.f e114.sg F114 := compile_ok (c := c114) n114 l114 mo0 Tryz.func37 (by kernel_rfl) k114
theorem w114 : Lawful F114 := T.fn_lawful l114 t114
def x114 : List (AS × List AS) := []
theorem y114 : ∀ x ∈ x114, SumOk F114 x := all_nil
set_option maxRecDepth 100000 in
theorem n115 : Ents Tryz.prog gl0 (Es114 ++ [e114]) (Tb114 ++ [F114]) := Ents.snoc n114 rfl o114 rfl rfl
theorem l115 : ∀ G ∈ Tb114 ++ [F114], Lawful G := lawful_snoc l114 w114 rfl
theorem z115 : SumsOk (Tb114 ++ [F114]) (S114 ++ [x114]) := SumsOk.snoc z114 rfl y114 rfl rfl
/-- (gimbal.mat.Matrix).Square -/
def s115 : Sig := { args := [.agg [.int (.i64) (.v 0), .int (.i64) (.v 1), .int (.i64) (.v 2), .slc 0]], heap := [some (.list (.int (.u64)) 1 (.v 3) false)], npin := 0, np := 4, res := .agg [.bool (.v 0), .slc 1, .int (.i64) (.v 2)], out := [none, some (.list (.int (.u32)) 1 (.v 1) false)], nr := 3 }
def e115 : Ent := ⟨20, s115⟩
def Es115 : List Ent := [e0, e1, e2, e3, e4, e5, e6, e7, e8, e9, e10, e11, e12, e13, e14, e15, e16, e17, e18, e19, e20, e21, e22, e23, e24, e25, e26, e27, e28, e29, e30, e31, e32, e33, e34, e35, e36, e37, e38, e39, e40, e41, e42, e43, e44, e45, e46, e47, e48, e49, e50, e51, e52, e53, e54, e55, e56, e57, e58, e59, e60, e61, e62, e63, e64, e65, e66, e67, e68, e69, e70, e71, e72, e73, e74, e75, e76, e77, e78, e79, e80, e81, e82, e83, e84, e85, e86, e87, e88, e89, e90, e91, e92, e93, e94, e95, e96, e97, e98, e99, e100, e101, e102, e103, e104, e105, e106, e107, e108, e109, e110, e111, e112, e113, e114]
def Tb115 : List PF := [F0, F1, F2, F3, F4, F5, F6, F7, F8, F9, F10, F11, F12, F13, F14, F15, F16, F17, F18, F19, F20, F21, F22, F23, F24, F25, F26, F27, F28, F29, F30, F31, F32, F33, F34, F35, F36, F37, F38, F39, F40, F41, F42, F43, F44, F45, F46, F47, F48, F49, F50, F51, F52, F53, F54, F55, F56, F57, F58, F59, F60, F61, F62, F63, F64, F65, F66, F67, F68, F69, F70, F71, F72, F73, F74, F75, F76, F77, F78, F79, F80, F81, F82, F83, F84, F85, F86, F87, F88, F89, F90, F91, F92, F93, F94, F95, F96, F97, F98, F99, F100, F101, F102, F103, F104, F105, F106, F107, F108, F109, F110, F111, F112, F113, F114]
def S115 : Sums := [x0, x1, x2, x3, x4, x5, x6, x7, x8, x9, x10, x11, x12, x13, x14, x15, x16, x17, x18, x19, x20, x21, x22, x23, x24, x25, x26, x27, x28, x29, x30, x31, x32, x33, x34, x35, x36, x37, x38, x39, x40, x41, x42, x43, x44, x45, x46, x47, x48, x49, x50, x51, x52, x53, x54, x55, x56, x57, x58, x59, x60, x61, x62, x63, x64, x65, x66, x67, x68, x69, x70, x71, x72, x73, x74, x75, x76, x77, x78, x79, x80, x81, x82, x83, x84, x85, x86, x87, x88, x89, x90, x91, x92, x93, x94, x95, x96, x97, x98, x99, x100, x101, x102, x103, x104, x105, x106, x107, x108, x109, x110, x111, x112, x113, x114]
set_option maxRecDepth 100000 in
def t115 : T := .seq (.loop [.v 0, .i 0, .v 3, .v 0, .v 1, .v 2, .b false, .i 0, .nil, .b false, .i 0, .nil] (.op (.cmp .lss) [.v 1, .v 0] 1 (.ite (.v 12) (.seq (.seq (.loop [.v 1, .v 0, .v 1, .v 4, .i 0, .v 2, .v 3, .v 4, .v 5, .v 6, .v 7, .v 8, .v 9, .v 10, .v 11] (.op (.cmp .lss) [.v 4, .v 3] 1 (.ite (.v 15) (.seq (.op (.call 5) [.v 6, .v 7, .v 8, .v 5, .v 0, .v 4] 1 (.op (.call 106) [.v 16] 4 (.op (.call 107) [.v 17, .v 18, .v 19, .v 17, .v 18, .v 19] 3 (.op (.call 112) [.v 12, .v 14, .v 13, .v 21, .v 22, .v 23] 3 (.jump 0 [.v 0, .v 1, .v 2, .v 3, .v 4, .v 5, .v 6, .v 7, .v 8, .v 9, .v 10, .v 11, .v 24, .v 26, .v 25]))))) (.op (.bin .add .i64) [.v 4, .i 1] 1 (.jump 0 [.v 0, .v 1, .v 2, .v 3, .v 15, .v 5, .v 6, .v 7, .v 8, .v 9, .v 10, .v 11, .v 12, .v 13, .v 14]))) (.jump 1 [.v 1, .v 2, .v 5, .v 6, .v 7, .v 8, .v 9, .v 10, .v 11, .v 12, .v 13, .v 14])))) (.jump 0 [.v 0, .v 1, .v 2, .v 3, .v 4, .v 5, .v 6, .v 7, .v 8, .v 9, .v 10, .v 11])) (.op (.bin .add .i64) [.v 1, .i 1] 1 (.jump 0 [.v 0, .v 12, .v 2, .v 3, .v 4, .v 5, .v 6, .v 7, .v 8, .v 9, .v 10, .v 11]))) (.jump 1 [.v 6, .v 7, .v 8, .v 9, .v 10, .v 11])))) (.ret [.v 3, .v 5, .v 4])
noncomputable def c115 : Cfg := ⟨Tryz.prog, gl0, Es115, s115.npin, Tryz.f20, s115, {}⟩
set_option maxRecDepth 100000 in
theorem k115 : compile c115 = .ok t115 := by kernel_rfl
def F115 : PF := t115.fn Tb115
set_option maxRecDepth 100000 in
theorem o115 : Contract Tryz.prog gl0 e115.f e115.sg F115 := compile_ok (c := c115) n115 l115 mo0 Tryz.func20 (by kernel_rfl) k115
theorem w115 : Lawful F115 := T.fn_lawful l115 t115
def x115 : List (AS × List AS) := []
theorem y115 : ∀ x ∈ x115, SumOk F115 x := all_nil
set_option maxRecDepth 100000 in
theorem n116 : Ents Tryz.prog gl0 (Es115 ++ [e115]) (Tb115 ++ [F115]) := Ents.snoc n115 rfl o115 rfl rfl
theorem l116 : ∀ G ∈ Tb115 ++ [F115], Lawful G := lawful_snoc l115 w115 rfl
theorem z116 : SumsOk (Tb115 ++ [F115]) (S115 ++ [x115]) := SumsOk.snoc z115 rfl y115 rfl rfl
/-- (gimbal.dyad.Num).Neg -/
def s116 : Sig := { args := [.agg [.bool (.v 0), .slc 0, .int (.i64) (.v 2)]], heap := [some (.list (.int (.u32)) 1 (.v 1) false)], npin := 0, np := 3, res := .agg [.bool (.v 0), .slc 1, .int (.i64) (.v 2)], out := [none, some (.list (.int (.u32)) 1 (.v 1) false)], nr := 3 }
def e116 : Ent := ⟨86, s116⟩
def Es116 : List Ent := [e0, e1, e2, e3, e4, e5, e6, e7, e8, e9, e10, e11, e12, e13, e14, e15, e16, e17, e18, e19, e20, e21, e22, e23, e24, e25, e26, e27, e28, e29, e30, e31, e32, e33, e34, e35, e36, e37, e38, e39, e40, e41, e42, e43, e44, e45, e46, e47, e48, e49, e50, e51, e52, e53, e54, e55, e56, e57, e58, e59, e60, e61, e62, e63, e64, e65, e66, e67, e68, e69, e70, e71, e72, e73, e74, e75, e76, e77, e78, e79, e80, e81, e82, e83, e84, e85, e86, e87, e88, e89, e90, e91, e92, e93, e94, e95, e96, e97, e98, e99, e100, e101, e102, e103, e104, e105, e106, e107, e108, e109, e110, e111, e112, e113, e114, e115]
def Tb116 : List PF := [F0, F1, F2, F3, F4, F5, F6, F7, F8, F9, F10, F11, F12, F13, F14, F15, F16, F17, F18, F19, F20, F21, F22, F23, F24, F25, F26, F27, F28, F29, F30, F31, F32, F33, F34, F35, F36, F37, F38, F39, F40, F41, F42, F43, F44, F45, F46, F47, F48, F49, F50, F51, F52, F53, F54, F55, F56, F57, F58, F59, F60, F61, F62, F63, F64, F65, F66, F67, F68, F69, F70, F71, F72, F73, F74, F75, F76, F77, F78, F79, F80, F81, F82, F83, F84, F85, F86, F87, F88, F89, F90, F91, F92, F93, F94, F95, F96, F97, F98, F99, F100, F101, F102, F103, F104, F105, F106, F107, F108, F109, F110, F111, F112, F113, F114, F115]
def S116 : Sums := [x0, x1, x2, x3, x4, x5, x6, x7, x8, x9, x10, x11, x12, x13, x14, x15, x16, x17, x18, x19, x20, x21, x22, x23, x24, x25, x26, x27, x28, x29, x30, x31, x32, x33, x34, x35, x36, x37, x38, x39, x40, x41, x42, x43, x44, x45, x46, x47, x48, x49, x50, x51, x52, x53, x54, x55, x56, x57, x58, x59, x60, x61, x62, x63, x64, x65, x66, x67, x68, x69, x70, x71, x72, x73, x74, x75, x76, x77, x78, x79, x80, x81, x82, x83, x84, x85, x86, x87, x88, x89, x90, x91, x92, x93, x94, x95, x96, x97, x98, x99, x100, x101, x102, x103, x104, x105, x106, x107, x108, x109, x110, x111, x112, x113, x114, x115]
set_option maxRecDepth 100000 in
def t116 : T := .seq (.op (.len 1) [.v 1] 1 (.op (.cmp .gtr) [.v 3, .i 0] 1 (.ite (.v 4) (.op .bnot [.v 0] 1 (.jump 0 [.v 1, .v 5, .v 2, .b false, .i 0, .nil])) (.jump 0 [.v 1, .b false, .v 2, .b false, .i 0, .nil])))) (.ret [.v 1, .v 0, .v 2])
noncomputable def c116 : Cfg := ⟨Tryz.prog, gl0, Es116, s116.npin, Tryz.f86, s116, {}⟩
set_option maxRecDepth 100000 in
theorem k116 : compile c116 = .ok t116 := by kernel_rfl
def F116 : PF := t116.fn Tb116
set_option maxRecDepth 100000 in
theorem o116 : Contract Tryz.prog gl0 e116.f e116.sg F116 := compile_ok (c := c116) n116 l116 mo0 Tryz.func86 (by kernel_rfl) k116
theorem w116 : Lawful F116 := T.fn_lawful l116 t116
def x116 : List (AS × List AS) := []
theorem y116 : ∀ x ∈ x116, SumOk F116 x := all_nil
set_option maxRecDepth 100000 in
theorem n117 : Ents Tryz.prog gl0 (Es116 ++ [e116]) (Tb116 ++ [F116]) := Ents.snoc n116 rfl o116 rfl rfl
theorem l117 : ∀ G ∈ Tb116 ++ [F116], Lawful G := lawful_snoc l116 w116 rfl
theorem z117 : SumsOk (Tb116 ++ [F116]) (S116 ++ [x116]) := SumsOk.snoc z116 rfl y116 rfl rfl
/-- (gimbal.dyad.Num).Sub -/
def s117 : Sig := { args := [.agg [.bool (.v 0), .slc 0, .int (.i64) (.v 2)], .agg [.bool (.v 3), .slc 1, .int (.i64) (.v 5)]], heap := [some (.list (.int (.u32)) 1 (.v 1) false), some (.list (.int (.u32)) 1 (.v 4) false)], npin := 0, np := 6, res := .agg [.bool (.v 0), .slc 2, .int (.i64) (.v 2)], out := [none, none, some (.list (.int (.u32)) 1 (.v 1) false)], nr := 3 }
def e117 : Ent := ⟨34, s117⟩
def Es117 : List Ent := [e0, e1, e2, e3, e4, e5, e6, e7, e8, e9, e10, e11, e12, e13, e14, e15, e16, e17, e18, e19, e20, e21, e22, e23, e24, e25, e26, e27, e28, e29, e30, e31, e32, e33, e34, e35, e36, e37, e38, e39, e40, e41, e42, e43, e44, e45, e46, e47, e48, e49, e50, e51, e52, e53, e54, e55, e56, e57, e58, e59, e60, e61, e62, e63, e64, e65, e66, e67, e68, e69, e70, e71, e72, e73, e74, e75, e76, e77, e78, e79, e80, e81, e82, e83, e84, e85, e86, e87, e88, e89, e90, e91, e92, e93, e94, e95, e96, e97, e98, e99, e100, e101, e102, e103, e104, e105, e106, e107, e108, e109, e110, e111, e112, e113, e114, e115, e116]
def Tb117 : List PF := [F0, F1, F2, F3, F4, F5, F6, F7, F8, F9, F10, F11, F12, F13, F14, F15, F16, F17, F18, F19, F20, F21, F22, F23, F24, F25, F26, F27, F28, F29, F30, F31, F32, F33, F34, F35, F36, F37, F38, F39, F40, F41, F42, F43, F44, F45, F46, F47, F48, F49, F50, F51, F52, F53, F54, F55, F56, F57, F58, F59, F60, F61, F62, F63, F64, F65, F66, F67, F68, F69, F70, F71, F72, F73, F74, F75, F76, F77, F78, F79, F80, F81, F82, F83, F84, F85, F86, F87, F88, F89, F90, F91, F92, F93, F94, F95, F96, F97, F98, F99, F100, F101, F102, F103, F104, F105, F106, F107, F108, F109, F110, F111, F112, F113, F114, F115, F116]
def S117 : Sums := [x0, x1, x2, x3, x4, x5, x6, x7, x8, x9, x10, x11, x12, x13, x14, x15, x16, x17, x18, x19, x20, x21, x22, x23, x24, x25, x26, x27, x28, x29, x30, x31, x32, x33, x34, x35, x36, x37, x38, x39, x40, x41, x42, x43, x44, x45, x46, x47, x48, x49, x50, x51, x52, x53, x54, x55, x56, x57, x58, x59, x60, x61, x62, x63, x64, x65, x66, x67, x68, x69, x70, x71, x72, x73, x74, x75, x76, x77, x78, x79, x80, x81, x82, x83, x84, x85, x86, x87, x88, x89, x90, x91, x92, x93, x94, x95, x96, x97, x98, x99, x100, x101, x102, x103, x104, x105, x106, x107, x108, x109, x110, x111, x112, x113, x114, x115, x116]
set_option maxRecDepth 100000 in
def t117 : T := .op (.call 116) [.v 3, .v 4, .v 5] 3 (.op (.call 112) [.v 0, .v 1, .v 2, .v 6, .v 7, .v 8] 3 (.ret [.v 9, .v 10, .v 11]))
noncomputable def c117 : Cfg := ⟨Tryz.prog, gl0, Es117, s117.npin, Tryz.f34, s117, {}⟩
set_option maxRecDepth 100000 in
theorem k117 : compile c117 = .ok t117 := by kernel_rfl
def F117 : PF := t117.fn Tb117
set_option maxRecDepth 100000 in
theorem o117 : Contract Tryz.prog gl0 e117.f e117.sg F117 := compile_ok (c := c117) n117 l117 mo0 Tryz.func34 (by kernel_rfl) k117
theorem w117 : Lawful F117 := T.fn_lawful l117 t117
def x117 : List (AS × List AS) := []
theorem y117 : ∀ x ∈ x117, SumOk F117 x := all_nil
set_option maxRecDepth 100000 in
theorem n118 : Ents Tryz.prog gl0 (Es117 ++ [e117]) (Tb117 ++ [F117]) := Ents.snoc n117 rfl o117 rfl rfl
theorem l118 : ∀ G ∈ Tb117 ++ [F117], Lawful G := lawful_snoc l117 w117 rfl
theorem z118 : SumsOk (Tb117 ++ [F117]) (S117 ++ [x117]) := SumsOk.snoc z117 rfl y117 rfl rfl
/-- (gimbal.dyad.Num).Sign -/
def s118 : Sig := { args := [.agg [.bool (.v 0), .slc 0, .int (.i64) (.v 2)]], heap := [some (.list (.int (.u32)) 1 (.v 1) false)], npin := 0, np := 3, res := .c (.int (.i64) (.v 0)), out := [none], nr := 1 }
def e118 : Ent := ⟨21, s118⟩
def Es118 : List Ent := [e0, e1, e2, e3, e4, e5, e6, e7, e8, e9, e10, e11, e12, e13, e14, e15, e16, e17, e18, e19, e20, e21, e22, e23, e24, e25, e26, e27, e28, e29, e30, e31, e32, e33, e34, e35, e36, e37, e38, e39, e40, e41, e42, e43, e44, e45, e46, e47, e48, e49, e50, e51, e52, e53, e54, e55, e56, e57, e58, e59, e60, e61, e62, e63, e64, e65, e66, e67, e68, e69, e70, e71, e72, e73, e74, e75, e76, e77, e78, e79, e80, e81, e82, e83, e84, e85, e86, e87, e88, e89, e90, e91, e92, e93, e94, e95, e96, e97, e98, e99, e100, e101, e102, e103, e104, e105, e106, e107, e108, e109, e110, e111, e112, e113, e114, e115, e116, e117]
def Tb118 : List PF := [F0, F1, F2, F3, F4, F5, F6, F7, F8, F9, F10, F11, F12, F13, F14, F15, F16, F17, F18, F19, F20, F21, F22, F23, F24, F25, F26, F27, F28, F29, F30, F31, F32, F33, F34, F35, F36, F37, F38, F39, F40, F41, F42, F43, F44, F45, F46, F47, F48, F49, F50, F51, F52, F53, F54, F55, F56, F57, F58, F59, F60, F61, F62, F63, F64, F65, F66, F67, F68, F69, F70, F71, F72, F73, F74, F75, F76, F77, F78, F79, F80, F81, F82, F83, F84, F85, F86, F87, F88, F89, F90, F91, F92, F93, F94, F95, F96, F97, F98, F99, F100, F101, F102, F103, F104, F105, F106, F107, F108, F109, F110, F111, F112, F113, F114, F115, F116, F117]
def S118 : Sums := [x0, x1, x2, x3, x4, x5, x6, x7, x8, x9, x10, x11, x12, x13, x14, x15, x16, x17, x18, x19, x20, x21, x22, x23, x24, x25, x26, x27, x28, x29, x30, x31, x32, x33, x34, x35, x36, x37, x38, x39, x40, x41, x42, x43, x44, x45, x46, x47, x48, x49, x50, x51, x52, x53, x54, x55, x56, x57, x58, x59, x60, x61, x62, x63, x64, x65, x66, x67, x68, x69, x70, x71, x72, x73, x74, x75, x76, x77, x78, x79, x80, x81, x82, x83, x84, x85, x86, x87, x88, x89, x90, x91, x92, x93, x94, x95, x96, x97, x98, x99, x100, x101, x102, x103, x104, x105, x106, x107, x108, x109, x110, x111, x112, x113, x114, x115, x116, x117]
set_option maxRecDepth 100000 in
def t118 : T := .seq (.op (.len 1) [.v 1] 1 (.op (.cmp .eql) [.v 3, .i 0] 1 (.ite (.v 4) (.ret [.i 0]) (.ite (.v 0) (.ret [.i (-1)]) (.jump 0 []))))) (.ret [.i 1])
noncomputable def c118 : Cfg := ⟨Tryz.prog, gl0, Es118, s118.npin, Tryz.f21, s118, {}⟩
set_option maxRecDepth 100000 in
theorem k118 : compile c118 = .ok t118 := by kernel_rfl
def F118 : PF := t118.fn Tb118
set_option maxRecDepth 100000 in
theorem o118 : Contract Tryz.prog gl0 e118.f e118.sg F118 := compile_ok (c := c118) n118 l118 mo0 Tryz.func21 (by kernel_rfl) k118
theorem w118 : Lawful F118 := T.fn_lawful l118 t118
def x118 : List (AS × List AS) := []
theorem y118 : ∀ x ∈ x118, SumOk F118 x := all_nil
set_option maxRecDepth 100000 in
theorem n119 : Ents Tryz.prog gl0 (Es118 ++ [e118]) (Tb118 ++ [F118]) := Ents.snoc n118 rfl o118 rfl rfl
theorem l119 : ∀ G ∈ Tb118 ++ [F118], Lawful G := lawful_snoc l118 w118 rfl
theorem z119 : SumsOk (Tb118 ++ [F118]) (S118 ++ [x118]) := SumsOk.snoc z118 rfl y118 rfl rfl
/-- (gimbal.dyad.Num).Cmp -/
def s119 : Sig := { args := [.agg [.bool (.v 0), .slc 0, .int (.i64) (.v 2)], .agg [.bool (.v 3), .slc 1, .int (.i64) (.v 5)]], heap := [some (.list (.int (.u32)) 1 (.v 1) false), some (.list (.int (.u32)) 1 (.v 4) false)], npin := 0, np := 6, res := .c (.int (.i64) (.v 0)), out := [none, none], nr := 1 }
def e119 : Ent := ⟨35, s119⟩
def Es119 : List Ent := [e0, e1, e2, e3, e4, e5, e6, e7, e8, e9, e10, e11, e12, e13, e14, e15, e16, e17, e18, e19, e20, e21, e22, e23, e24, e25, e26, e27, e28, e29, e30, e31, e32, e33, e34, e35, e36, e37, e38, e39, e40, e41, e42, e43, e44, e45, e46, e47, e48, e49, e50, e51, e52, e53, e54, e55, e56, e57, e58, e59, e60, e61, e62, e63, e64, e65, e66, e67, e68, e69, e70, e71, e72, e73, e74, e75, e76, e77, e78, e79, e80, e81, e82, e83, e84, e85, e86, e87, e88, e89, e90, e91, e92, e93, e94, e95, e96, e97, e98, e99, e100, e101, e102, e103, e104, e105, e106, e107, e108, e109, e110, e111, e112, e113, e114, e115, e116, e117, e118]
def Tb119 : List PF := [F0, F1, F2, F3, F4, F5, F6, F7, F8, F9, F10, F11, F12, F13, F14, F15, F16, F17, F18, F19, F20, F21, F22, F23, F24, F25, F26, F27, F28, F29, F30, F31, F32, F33, F34, F35, F36, F37, F38, F39, F40, F41, F42, F43, F44, F45, F46, F47, F48, F49, F50, F51, F52, F53, F54, F55, F56, F57, F58, F59, F60, F61, F62, F63, F64, F65, F66, F67, F68, F69, F70, F71, F72, F73, F74, F75, F76, F77, F78, F79, F80, F81, F82, F83, F84, F85, F86, F87, F88, F89, F90, F91, F92, F93, F94, F95, F96, F97, F98, F99, F100, F101, F102, F103, F104, F105, F106, F107, F108, F109, F110, F111, F112, F113, F114, F115, F116, F117, F118]
def S119 : Sums := [x0, x1, x2, x3, x4, x5, x6, x7, x8, x9, x10, x11, x12, x13, x14, x15, x16, x17, x18, x19, x20, x21, x22, x23, x24, x25, x26, x27, x28, x29, x30, x31, x32, x33, x34, x35, x36, x37, x38, x39, x40, x41, x42, x43, x44, x45, x46, x47, x48, x49, x50, x51, x52, x53, x54, x55, x56, x57, x58, x59, x60, x61, x62, x63, x64, x65, x66, x67, x68, x69, x70, x71, x72, x73, x74, x75, x76, x77, x78, x79, x80, x81, x82, x83, x84, x85, x86, x87, x88, x89, x90, x91, x92, x93, x94, x95, x96, x97, x98, x99, x100, x101, x102, x103, x104, x105, x106, x107, x108, x109, x110, x111, x112, x113, x114, x115, x116, x117, x118]
set_option maxRecDepth 100000 in
def t119 : T := .op (.call 117) [.v 0, .v 1, .v 2, .v 3, .v 4, .v 5] 3 (.op (.call 118) [.v 6, .v 7, .v 8] 1 (.ret [.v 9]))
noncomputable def c119 : Cfg := ⟨Tryz.prog, gl0, Es119, s119.npin, Tryz.f35, s119, {}⟩
set_option maxRecDepth 100000 in
theorem k119 : compile c119 = .ok t119 := by kernel_rfl
def F119 : PF := t119.fn Tb119
set_option maxRecDepth 100000 in
theorem o119 : Contract Tryz.prog gl0 e119.f e119.sg F119 := compile_ok (c := c119) n119 l119 mo0 Tryz.func35 (by kernel_rfl) k119
theorem w119 : Lawful F119 := T.fn_lawful l119 t119
def x119 : List (AS × List AS) := []
theorem y119 : ∀ x ∈ x119, SumOk F119 x := all_nil
set_option maxRecDepth 100000 in
theorem n120 : Ents Tryz.prog gl0 (Es119 ++ [e119]) (Tb119 ++ [F119]) := Ents.snoc n119 rfl o119 rfl rfl
theorem l120 : ∀ G ∈ Tb119 ++ [F119], Lawful G := lawful_snoc l119 w119 rfl
theorem z120 : SumsOk (Tb119 ++ [F119]) (S119 ++ [x119]) := SumsOk.snoc z119 rfl y119 rfl rfl
/-- (gimbal.dyad.Num).Near -/
def s120 : Sig := { args := [.agg [.bool (.v 0), .slc 0, .int (.i64) (.v 2)]], heap := [some (.list (.int (.u32)) 1 (.v 1) false)], npin := 0, np := 3, res := .tup [{ agg := false, cs := [.int (.u64) (.v 0)] }, { agg := false, cs := [.int (.u8) (.v 1)] }], out := [none], nr := 2 }
def e120 : Ent := ⟨115, s120⟩
def Es120 : List Ent := [e0, e1, e2, e3, e4, e5, e6, e7, e8, e9, e10, e11, e12, e13, e14, e15, e16, e17, e18, e19, e20, e21, e22, e23, e24, e25, e26, e27, e28, e29, e30, e31, e32, e33, e34, e35, e36, e37, e38, e39, e40, e41, e42, e43, e44, e45, e46, e47, e48, e49, e50, e51, e52, e53, e54, e55, e56, e57, e58, e59, e60, e61, e62, e63, e64, e65, e66, e67, e68, e69, e70, e71, e72, e73, e74, e75, e76, e77, e78, e79, e80, e81, e82, e83, e84, e85, e86, e87, e88, e89, e90, e91, e92, e93, e94, e95, e96, e97, e98, e99, e100, e101, e102, e103, e104, e105, e106, e107, e108, e109, e110, e111, e112, e113, e114, e115, e116, e117, e118, e119]
def Tb120 : List PF := [F0, F1, F2, F3, F4, F5, F6, F7, F8, F9, F10, F11, F12, F13, F14, F15, F16, F17, F18, F19, F20, F21, F22, F23, F24, F25, F26, F27, F28, F29, F30, F31, F32, F33, F34, F35, F36, F37, F38, F39, F40, F41, F42, F43, F44, F45, F46, F47, F48, F49, F50, F51, F52, F53, F54, F55, F56, F57, F58, F59, F60, F61, F62, F63, F64, F65, F66, F67, F68, F69, F70, F71, F72, F73, F74, F75, F76, F77, F78, F79, F80, F81, F82, F83, F84, F85, F86, F87, F88, F89, F90, F91, F92, F93, F94, F95, F96, F97, F98, F99, F100, F101, F102, F103, F104, F105, F106, F107, F108, F109, F110, F111, F112, F113, F114, F115, F116, F117, F118, F119]
def S120 : Sums := [x0, x1, x2, x3, x4, x5, x6, x7, x8, x9, x10, x11, x12, x13, x14, x15, x16, x17, x18, x19, x20, x21, x22, x23, x24, x25, x26, x27, x28, x29, x30, x31, x32, x33, x34, x35, x36, x37, x38, x39, x40, x41, x42, x43, x44, x45, x46, x47, x48, x49, x50, x51, x52, x53, x54, x55, x56, x57, x58, x59, x60, x61, x62, x63, x64, x65, x66, x67, x68, x69, x70, x71, x72, x73, x74, x75, x76, x77, x78, x79, x80, x81, x82, x83, x84, x85, x86, x87, x88, x89, x90, x91, x92, x93, x94, x95, x96, x97, x98, x99, x100, x101, x102, x103, x104, x105, x106, x107, x108, x109, x110, x111, x112, x113, x114, x115, x116, x117, x118, x119]
set_option maxRecDepth 100000 in
def t120 : T := .op (.len 1) [.v 1] 1 (.op (.len 1) [.v 1] 1 (.seq (.loop [.v 3, .v 2, .b false, .v 4, .i 0, .v 1, .v 0, .v 2, .i 0, .i 0] (.op (.cmp .lss) [.v 4, .v 3] 1 (.ite (.v 10) (.seq (.op (.chk 1) [.v 5, .v 4] 0 (.op (.get 1 0) [.v 5, .v 4] 1 (.op (.bin .sub .i64) [.v 0, .i 3] 1 (.op (.cmp .lss) [.v 4, .v 12] 1 (.ite (.v 13) (.op (.bin .add .i64) [.v 1, .i 32] 1 (.jump 0 [.v 0, .v 14, .b true, .v 3, .v 4, .v 5, .v 6, .v 7, .v 8, .v 9])) (.op (.conv .u64) [.v 11] 1 (.op (.bin .sub .i64) [.v 0, .i 3] 1 (.op .mx [.i 0, .v 15] 1 (.op (.bin .sub .i64) [.v 4, .v 16] 1 (.op (.bin .mul .i64) [.i 32, .v 17] 1 (.op (.call 20) [.i 0, .v 14, .v 18] 2 (.op (.call 24) [.v 8, .v 9, .v 19, .v 20] 3 (.jump 0 [.v 0, .v 1, .v 2, .v 3, .v 4, .v 5, .v 6, .v 7, .v 21, .v 22]))))))))))))) (.op (.bin .add .i64) [.v 4, .i 1] 1 (.jump 0 [.v 0, .v 1, .v 2, .v 3, .v 10, .v 5, .v 6, .v 7, .v 8, .v 9]))) (.jump 1 [.v 1, .v 2, .v 5, .v 6, .v 7, .v 8, .v 9])))) (.op (.call 25) [.v 3, .v 5, .v 6, .v 0, .v 1] 2 (.ret [.v 7, .v 8]))))
noncomputable def c120 : Cfg := ⟨Tryz.prog, gl0, Es120, s120.npin, Tryz.f115, s120, {}⟩
set_option maxRecDepth 100000 in
theorem k120 : compile c120 = .ok t120 := by kernel_rfl
def F120 : PF := t120.fn Tb120
set_option maxRecDepth 100000 in
theorem o120 : Contract Tryz.prog gl0 e120.f e120.sg F120 := compile_ok (c := c120) n120 l120 mo0 Tryz.func115 (by kernel_rfl) k120
theorem w120 : Lawful F120 := T.fn_lawful l120 t120
def x120 : List (AS × List AS) := []
theorem y120 : ∀ x ∈ x120, SumOk F120 x := all_nil
set_option maxRecDepth 100000 in
theorem n121 : Ents Tryz.prog gl0 (Es120 ++ [e120]) (Tb120 ++ [F120]) := Ents.snoc n120 rfl o120 rfl rfl
theorem l121 : ∀ G ∈ Tb120 ++ [F120], Lawful G := lawful_snoc l120 w120 rfl
theorem z121 : SumsOk (Tb120 ++ [F120]) (S120 ++ [x120]) := SumsOk.snoc z120 rfl y120 rfl rfl
/-- gimbal.word.Next -/
def s121 : Sig := { args := [.c (.int (.u64) (.v 0))], heap := [], npin := 0, np := 1, res := .c (.int (.u64) (.v 0)), out := [], nr := 1 }
def e121 : Ent := ⟨91, s121⟩
def Es121 : List Ent := [e0, e1, e2, e3, e4, e5, e6, e7, e8, e9, e10, e11, e12, e13, e14, e15, e16, e17, e18, e19, e20, e21, e22, e23, e24, e25, e26, e27, e28, e29, e30, e31, e32, e33, e34, e35, e36, e37, e38, e39, e40, e41, e42, e43, e44, e45, e46, e47, e48, e49, e50, e51, e52, e53, e54, e55, e56, e57, e58, e59, e60, e61, e62, e63, e64, e65, e66, e67, e68, e69, e70, e71, e72, e73, e74, e75, e76, e77, e78, e79, e80, e81, e82, e83, e84, e85, e86, e87, e88, e89, e90, e91, e92, e93, e94, e95, e96, e97, e98, e99, e100, e101, e102, e103, e104, e105, e106, e107, e108, e109, e110, e111, e112, e113, e114, e115, e116, e117, e118, e119, e120]
def Tb121 : List PF := [F0, F1, F2, F3, F4, F5, F6, F7, F8, F9, F10, F11, F12, F13, F14, F15, F16, F17, F18, F19, F20, F21, F22, F23, F24, F25, F26, F27, F28, F29, F30, F31, F32, F33, F34, F35, F36, F37, F38, F39, F40, F41, F42, F43, F44, F45, F46, F47, F48, F49, F50, F51, F52, F53, F54, F55, F56, F57, F58, F59, F60, F61, F62, F63, F64, F65, F66, F67, F68, F69, F70, F71, F72, F73, F74, F75, F76, F77, F78, F79, F80, F81, F82, F83, F84, F85, F86, F87, F88, F89, F90, F91, F92, F93, F94, F95, F96, F97, F98, F99, F100, F101, F102, F103, F104, F105, F106, F107, F108, F109, F110, F111, F112, F113, F114, F115, F116, F117, F118, F119, F120]
def S121 : Sums := [x0, x1, x2, x3, x4, x5, x6, x7, x8, x9, x10, x11, x12, x13, x14, x15, x16, x17, x18, x19, x20, x21, x22, x23, x24, x25, x26, x27, x28, x29, x30, x31, x32, x33, x34, x35, x36, x37, x38, x39, x40, x41, x42, x43, x44, x45, x46, x47, x48, x49, x50, x51, x52, x53, x54, x55, x56, x57, x58, x59, x60, x61, x62, x63, x64, x65, x66, x67, x68, x69, x70, x71, x72, x73, x74, x75, x76, x77, x78, x79, x80, x81, x82, x83, x84, x85, x86, x87, x88, x89, x90, x91, x92, x93, x94, x95, x96, x97, x98, x99, x100, x101, x102, x103, x104, x105, x106, x107, x108, x109, x110, x111, x112, x113, x114, x115, x116, x117, x118, x119, x120]
set_option maxRecDepth 100000 in
def t121 : T := .seq (.seq (.op (.call 11) [.v 0] 1 (.op (.cmp .eql) [.v 1, .i 5] 1 (.ite (.v 2) (.jump 0 [.v 0, .b true]) (.op (.cmp .eql) [.v 0, .i 9218868437227405312] 1 (.jump 0 [.v 0, .v 3]))))) (.ite (.v 1) (.ret [.v 0]) (.op (.cmp .eql) [.v 0, .i 9223372036854775808] 1 (.ite (.v 2) (.ret [.i 1]) (.op (.call 15) [.v 0] 1 (.ite (.v 3) (.op (.bin .sub .u64) [.v 0, .i 1] 1 (.ret [.v 4])) (.jump 0 [.v 0]))))))) (.op (.bin .add .u64) [.v 0, .i 1] 1 (.ret [.v 1]))
noncomputable def c121 : Cfg := ⟨Tryz.prog, gl0, Es121, s121.npin, Tryz.f91, s121, {}⟩
set_option maxRecDepth 100000 in
theorem k121 : compile c121 = .ok t121 := by kernel_rfl
def F121 : PF := t121.fn Tb121
set_option maxRecDepth 100000 in
theorem o121 : Contract Tryz.prog gl0 e121.f e121.sg F121 := compile_ok (c := c121) n121 l121 mo0 Tryz.func91 (by kernel_rfl) k121
theorem w121 : Lawful F121 := T.fn_lawful l121 t121
def x121 : List (AS × List AS) := []
theorem y121 : ∀ x ∈ x121, SumOk F121 x := all_nil
set_option maxRecDepth 100000 in
theorem n122 : Ents Tryz.prog gl0 (Es121 ++ [e121]) (Tb121 ++ [F121]) := Ents.snoc n121 rfl o121 rfl rfl
theorem l122 : ∀ G ∈ Tb121 ++ [F121], Lawful G := lawful_snoc l121 w121 rfl
theorem z122 : SumsOk (Tb121 ++ [F121]) (S121 ++ [x121]) := SumsOk.snoc z121 rfl y121 rfl rfl
end YtjbacabjgdfmdaaGreatDoor.Gp
end Go.Proofs

/- What the program's functions do, and that they end, part 3: made by a program of this session. -/
import Derived.Test.YthkbmedkbacgmaaF0
namespace Go.Proofs
open Go Gm
namespace Ythkbmedkbacgmaa.Gp
/-- gimbal.soft.Add -/
def s31 : Sig := { args := [.c (.int (.u64) (.v 0)), .c (.int (.u64) (.v 1))], heap := [], npin := 0, np := 2, res := .tup [{ agg := false, cs := [.int (.u64) (.v 0)] }, { agg := false, cs := [.int (.u8) (.v 1)] }], out := [], nr := 2 }
def e31 : Ent := ⟨32, s31⟩
def Es31 : List Ent := [e0, e1, e2, e3, e4, e5, e6, e7, e8, e9, e10, e11, e12, e13, e14, e15, e16, e17, e18, e19, e20, e21, e22, e23, e24, e25, e26, e27, e28, e29, e30]
def Tb31 : List PF := [F0, F1, F2, F3, F4, F5, F6, F7, F8, F9, F10, F11, F12, F13, F14, F15, F16, F17, F18, F19, F20, F21, F22, F23, F24, F25, F26, F27, F28, F29, F30]
def S31 : Sums := [x0, x1, x2, x3, x4, x5, x6, x7, x8, x9, x10, x11, x12, x13, x14, x15, x16, x17, x18, x19, x20, x21, x22, x23, x24, x25, x26, x27, x28, x29, x30]
set_option maxRecDepth 100000 in
def t31 : T := .op .lit [.v 0, .v 1] 1 (.op (.call 15) [.v 2] 3 (.ite (.v 5) (.ret [.v 3, .v 4]) (.op (.call 10) [.v 0] 1 (.op (.call 10) [.v 1] 1 (.seq (.seq (.op (.cmp .eql) [.v 6, .i 4] 1 (.ite (.v 8) (.op (.cmp .eql) [.v 7, .i 4] 1 (.ite (.v 9) (.op (.cmp .neq) [.v 0, .v 1] 1 (.jump 0 [.v 0, .v 1, .v 6, .v 7, .v 10])) (.jump 0 [.v 0, .v 1, .v 6, .v 7, .b false]))) (.jump 0 [.v 0, .v 1, .v 6, .v 7, .b false]))) (.ite (.v 4) (.ret [.i 9221120237041090560, .i 16]) (.op (.cmp .eql) [.v 2, .i 4] 1 (.ite (.v 5) (.ret [.v 0, .i 0]) (.op (.cmp .eql) [.v 3, .i 4] 1 (.ite (.v 6) (.ret [.v 1, .i 0]) (.seq (.op (.cmp .eql) [.v 2, .i 1] 1 (.ite (.v 7) (.op (.cmp .eql) [.v 3, .i 1] 1 (.jump 0 [.v 0, .v 1, .v 2, .v 3, .v 8])) (.jump 0 [.v 0, .v 1, .v 2, .v 3, .b false]))) (.ite (.v 4) (.op (.bin .and .u64) [.v 0, .v 1] 1 (.ret [.v 5, .i 0])) (.op (.cmp .eql) [.v 2, .i 1] 1 (.ite (.v 5) (.ret [.v 1, .i 0]) (.op (.cmp .eql) [.v 3, .i 1] 1 (.ite (.v 6) (.ret [.v 0, .i 0]) (.jump 0 [.v 0, .v 1]))))))))))))) (.op (.call 16) [.v 0] 1 (.op (.call 16) [.v 1] 1 (.op (.cmp .lss) [.v 2, .v 3] 1 (.seq (.ite (.v 4) (.jump 0 [.v 1, .v 0]) (.jump 0 [.v 0, .v 1])) (.op (.call 17) [.v 0] 2 (.op (.call 17) [.v 1] 2 (.op (.call 18) [.i 0, .v 2, .i 64] 2 (.op (.call 18) [.i 0, .v 4, .i 64] 2 (.op (.bin .sub .i64) [.v 3, .v 5] 1 (.op (.call 20) [.v 8, .v 9, .v 10] 3 (.op (.call 21) [.v 0] 1 (.op (.call 21) [.v 1] 1 (.op .beq [.v 14, .v 15] 1 (.ite (.v 16) (.op (.call 23) [.v 6, .v 7, .v 11, .v 12] 3 (.op (.call 21) [.v 0] 1 (.op (.bin .sub .i64) [.v 3, .i 64] 1 (.op (.call 28) [.v 20, .v 17, .v 18, .v 21, .v 13] 2 (.ret [.v 22, .v 23]))))) (.seq (.ite (.v 13) (.op (.call 23) [.v 11, .v 12, .i 0, .i 1] 3 (.jump 0 [.v 0, .v 3, .b true, .v 6, .v 7, .v 17, .v 18])) (.jump 0 [.v 0, .v 3, .b false, .v 6, .v 7, .v 11, .v 12])) (.op (.call 30) [.v 3, .v 4, .v 5, .v 6] 3 (.seq (.op (.call 19) [.v 7, .v 8] 1 (.ite (.v 10) (.op .bnot [.v 2] 1 (.jump 0 [.v 0, .v 1, .v 2, .v 11, .v 7, .v 8])) (.jump 0 [.v 0, .v 1, .v 2, .b false, .v 7, .v 8]))) (.ite (.v 3) (.ret [.i 0, .i 0]) (.op (.call 21) [.v 0] 1 (.op (.bin .sub .i64) [.v 1, .i 64] 1 (.op (.call 28) [.v 6, .v 4, .v 5, .v 7, .v 2] 2 (.ret [.v 8, .v 9])))))))))))))))))))))))))))
noncomputable def c31 : Cfg := ⟨Try.prog, gl0, Es31, s31.npin, Try.f32, s31, {}⟩
set_option maxRecDepth 100000 in
theorem k31 : compile c31 = .ok t31 := by kernel_rfl
def F31 : PF := t31.fn Tb31
theorem o31 : Contract Try.prog gl0 e31.f e31.sg F31 := compile_ok (c := c31) n31 l31 mo0 Try.func32 (by kernel_rfl) k31
theorem w31 : Lawful F31 := T.fn_lawful l31 t31
def p31_0 : AS := ⟨[U, U], []⟩
def q31_0 : List AS := [⟨[J, J, U, I 0 255], []⟩]
set_option maxRecDepth 100000 in
def d31_0 : Cert := .op 1 [.op 0 [.ite (.leaf (.at 0)) (.op 0 [.op 0 [.seq [⟨[U, U, J, J], [(0, 2, 0), (2, 0, 0), (1, 3, 0), (3, 1, 0)]⟩] (.seq [⟨[J, J, J, J, J, J, ⟨.bool, (some 1), none, .none⟩], []⟩, ⟨[U, U, J, J, J, J, ⟨.bool, none, (some 0), .none⟩], [(0, 2, 0), (2, 0, 0), (1, 3, 0), (3, 1, 0)]⟩] (.op 0 [.ite (.op 0 [.ite (.op 0 [.leaf (.split 12 (.at 0) (.at 1))]) (.leaf (.at 1))]) (.leaf (.at 1))]) [.ite (.leaf (.at 0)) (.absurd 6 6 0), .ite (.absurd 6 6 0) (.op 0 [.ite (.leaf (.at 0)) (.op 0 [.ite (.leaf (.at 0)) (.seq [⟨[J, J, J, J, J, J, ⟨.bool, (some 1), none, .none⟩], []⟩, ⟨[U, U, J, J, J, J, ⟨.bool, none, (some 0), .none⟩], [(0, 2, 0), (2, 0, 0), (1, 3, 0), (3, 1, 0)]⟩] (.op 0 [.ite (.op 0 [.leaf (.split 10 (.at 0) (.at 1))]) (.leaf (.at 1))]) [.ite (.op 0 [.leaf (.at 0)]) (.absurd 6 6 0), .ite (.absurd 6 6 0) (.op 0 [.ite (.leaf (.at 0)) (.op 0 [.ite (.leaf (.at 0)) (.leaf (.at 0))])])])])])]) [.op 0 [.op 0 [.op 0 [.seq [⟨[J, J, U, U], []⟩] (.ite (.leaf (.at 0)) (.leaf (.at 0))) [.op 0 [.op 0 [.op 0 [.op 0 [.op 0 [.op 0 [.op 0 [.op 0 [.op 0 [.ite (.op 0 [.op 0 [.op 0 [.op 0 [.leaf (.at 0)]]]]) (.seq [⟨[J, J, U, J, B 0 1, U, U, U, U], []⟩] (.ite (.op 0 [.leaf (.at 0)]) (.leaf (.at 0))) [.op 0 [.seq [⟨[J, J, U, J, B 0 1, B0, U, U], []⟩] (.op 0 [.ite (.op 0 [.leaf (.split 13 (.at 0) (.at 0))]) (.leaf (.at 0))]) [.ite (.leaf (.at 0)) (.op 0 [.op 0 [.op 0 [.leaf (.at 0)]]])]]])]]]]]]]]]]]]]]]])]]
set_option maxRecDepth 100000 in
theorem a31_0 : total S31 p31_0 q31_0 t31 d31_0 = true := by kernel_rfl
def x31 : List (AS × List AS) := [(p31_0, q31_0)]
theorem y31 : ∀ x ∈ x31, SumOk F31 x := all_cons (total_ok l31 z31 a31_0) (all_nil)
theorem n32 : Ents Try.prog gl0 (Es31 ++ [e31]) (Tb31 ++ [F31]) := Ents.snoc n31 rfl o31 rfl rfl
theorem l32 : ∀ G ∈ Tb31 ++ [F31], Lawful G := lawful_snoc l31 w31 rfl
theorem z32 : SumsOk (Tb31 ++ [F31]) (S31 ++ [x31]) := SumsOk.snoc z31 rfl y31 rfl rfl
/-- gimbal.soft.Sub -/
def s32 : Sig := { args := [.c (.int (.u64) (.v 0)), .c (.int (.u64) (.v 1))], heap := [], npin := 0, np := 2, res := .tup [{ agg := false, cs := [.int (.u64) (.v 0)] }, { agg := false, cs := [.int (.u8) (.v 1)] }], out := [], nr := 2 }
def e32 : Ent := ⟨33, s32⟩
def Es32 : List Ent := [e0, e1, e2, e3, e4, e5, e6, e7, e8, e9, e10, e11, e12, e13, e14, e15, e16, e17, e18, e19, e20, e21, e22, e23, e24, e25, e26, e27, e28, e29, e30, e31]
def Tb32 : List PF := [F0, F1, F2, F3, F4, F5, F6, F7, F8, F9, F10, F11, F12, F13, F14, F15, F16, F17, F18, F19, F20, F21, F22, F23, F24, F25, F26, F27, F28, F29, F30, F31]
def S32 : Sums := [x0, x1, x2, x3, x4, x5, x6, x7, x8, x9, x10, x11, x12, x13, x14, x15, x16, x17, x18, x19, x20, x21, x22, x23, x24, x25, x26, x27, x28, x29, x30, x31]
set_option maxRecDepth 100000 in
def t32 : T := .op (.call 13) [.v 1] 1 (.op (.call 31) [.v 0, .v 2] 2 (.ret [.v 3, .v 4]))
noncomputable def c32 : Cfg := ⟨Try.prog, gl0, Es32, s32.npin, Try.f33, s32, {}⟩
set_option maxRecDepth 100000 in
theorem k32 : compile c32 = .ok t32 := by kernel_rfl
def F32 : PF := t32.fn Tb32
theorem o32 : Contract Try.prog gl0 e32.f e32.sg F32 := compile_ok (c := c32) n32 l32 mo0 Try.func33 (by kernel_rfl) k32
theorem w32 : Lawful F32 := T.fn_lawful l32 t32
def p32_0 : AS := ⟨[U, U], []⟩
def q32_0 : List AS := [⟨[J, J, U, I 0 255], []⟩]
set_option maxRecDepth 100000 in
def d32_0 : Cert := .op 0 [.op 0 [.leaf (.at 0)]]
set_option maxRecDepth 100000 in
theorem a32_0 : total S32 p32_0 q32_0 t32 d32_0 = true := by kernel_rfl
def x32 : List (AS × List AS) := [(p32_0, q32_0)]
theorem y32 : ∀ x ∈ x32, SumOk F32 x := all_cons (total_ok l32 z32 a32_0) (all_nil)
theorem n33 : Ents Try.prog gl0 (Es32 ++ [e32]) (Tb32 ++ [F32]) := Ents.snoc n32 rfl o32 rfl rfl
theorem l33 : ∀ G ∈ Tb32 ++ [F32], Lawful G := lawful_snoc l32 w32 rfl
theorem z33 : SumsOk (Tb32 ++ [F32]) (S32 ++ [x32]) := SumsOk.snoc z32 rfl y32 rfl rfl
/-- (gimbal.soft.Calc).note -/
def s33 : Sig := { args := [.c (.nilp), .c (.int (.u64) (.v 0)), .c (.int (.u8) (.v 1))], heap := [], npin := 0, np := 2, res := .c (.int (.u64) (.v 0)), out := [], nr := 1 }
def e33 : Ent := ⟨30, s33⟩
def Es33 : List Ent := [e0, e1, e2, e3, e4, e5, e6, e7, e8, e9, e10, e11, e12, e13, e14, e15, e16, e17, e18, e19, e20, e21, e22, e23, e24, e25, e26, e27, e28, e29, e30, e31, e32]
def Tb33 : List PF := [F0, F1, F2, F3, F4, F5, F6, F7, F8, F9, F10, F11, F12, F13, F14, F15, F16, F17, F18, F19, F20, F21, F22, F23, F24, F25, F26, F27, F28, F29, F30, F31, F32]
def S33 : Sums := [x0, x1, x2, x3, x4, x5, x6, x7, x8, x9, x10, x11, x12, x13, x14, x15, x16, x17, x18, x19, x20, x21, x22, x23, x24, x25, x26, x27, x28, x29, x30, x31, x32]
set_option maxRecDepth 100000 in
def t33 : T := .ret [.v 0]
noncomputable def c33 : Cfg := ⟨Try.prog, gl0, Es33, s33.npin, Try.f30, s33, {}⟩
set_option maxRecDepth 100000 in
theorem k33 : compile c33 = .ok t33 := by kernel_rfl
def F33 : PF := t33.fn Tb33
theorem o33 : Contract Try.prog gl0 e33.f e33.sg F33 := compile_ok (c := c33) n33 l33 mo0 Try.func30 (by kernel_rfl) k33
theorem w33 : Lawful F33 := T.fn_lawful l33 t33
def p33_0 : AS := ⟨[U, I 0 255], []⟩
def q33_0 : List AS := [⟨[J, J, U], [(0, 2, 0), (2, 0, 0)]⟩]
set_option maxRecDepth 100000 in
def d33_0 : Cert := .leaf (.at 0)
set_option maxRecDepth 100000 in
theorem a33_0 : total S33 p33_0 q33_0 t33 d33_0 = true := by kernel_rfl
def x33 : List (AS × List AS) := [(p33_0, q33_0)]
theorem y33 : ∀ x ∈ x33, SumOk F33 x := all_cons (total_ok l33 z33 a33_0) (all_nil)
theorem n34 : Ents Try.prog gl0 (Es33 ++ [e33]) (Tb33 ++ [F33]) := Ents.snoc n33 rfl o33 rfl rfl
theorem l34 : ∀ G ∈ Tb33 ++ [F33], Lawful G := lawful_snoc l33 w33 rfl
theorem z34 : SumsOk (Tb33 ++ [F33]) (S33 ++ [x33]) := SumsOk.snoc z33 rfl y33 rfl rfl
/-- (gimbal.soft.Calc).note -/
def s34 : Sig := { args := [.c (.ptr 0 0), .c (.int (.u64) (.v 1)), .c (.int (.u8) (.v 2))], heap := [some (.cells [.int (.u8) (.v 0)])], npin := 1, np := 3, res := .c (.int (.u64) (.v 0)), out := [some (.cells [.int (.u8) (.v 1)])], nr := 2 }
def e34 : Ent := ⟨30, s34⟩
def Es34 : List Ent := [e0, e1, e2, e3, e4, e5, e6, e7, e8, e9, e10, e11, e12, e13, e14, e15, e16, e17, e18, e19, e20, e21, e22, e23, e24, e25, e26, e27, e28, e29, e30, e31, e32, e33]
def Tb34 : List PF := [F0, F1, F2, F3, F4, F5, F6, F7, F8, F9, F10, F11, F12, F13, F14, F15, F16, F17, F18, F19, F20, F21, F22, F23, F24, F25, F26, F27, F28, F29, F30, F31, F32, F33]
def S34 : Sums := [x0, x1, x2, x3, x4, x5, x6, x7, x8, x9, x10, x11, x12, x13, x14, x15, x16, x17, x18, x19, x20, x21, x22, x23, x24, x25, x26, x27, x28, x29, x30, x31, x32, x33]
set_option maxRecDepth 100000 in
def t34 : T := .op (.bin .or .u8) [.v 0, .v 2] 1 (.ret [.v 1, .v 3])
noncomputable def c34 : Cfg := ⟨Try.prog, gl0, Es34, s34.npin, Try.f30, s34, {}⟩
set_option maxRecDepth 100000 in
theorem k34 : compile c34 = .ok t34 := by kernel_rfl
def F34 : PF := t34.fn Tb34
theorem o34 : Contract Try.prog gl0 e34.f e34.sg F34 := compile_ok (c := c34) n34 l34 mo0 Try.func30 (by kernel_rfl) k34
theorem w34 : Lawful F34 := T.fn_lawful l34 t34
def p34_0 : AS := ⟨[I 0 255, U, I 0 255], []⟩
def q34_0 : List AS := [⟨[J, J, J, U, I 0 255], [(1, 3, 0), (3, 1, 0)]⟩]
set_option maxRecDepth 100000 in
def d34_0 : Cert := .op 0 [.leaf (.at 0)]
set_option maxRecDepth 100000 in
theorem a34_0 : total S34 p34_0 q34_0 t34 d34_0 = true := by kernel_rfl
def x34 : List (AS × List AS) := [(p34_0, q34_0)]
theorem y34 : ∀ x ∈ x34, SumOk F34 x := all_cons (total_ok l34 z34 a34_0) (all_nil)
theorem n35 : Ents Try.prog gl0 (Es34 ++ [e34]) (Tb34 ++ [F34]) := Ents.snoc n34 rfl o34 rfl rfl
theorem l35 : ∀ G ∈ Tb34 ++ [F34], Lawful G := lawful_snoc l34 w34 rfl
theorem z35 : SumsOk (Tb34 ++ [F34]) (S34 ++ [x34]) := SumsOk.snoc z34 rfl y34 rfl rfl
/-- (gimbal.soft.Calc).Sub -/
def s35 : Sig := { args := [.c (.nilp), .c (.int (.u64) (.v 0)), .c (.int (.u64) (.v 1))], heap := [], npin := 0, np := 2, res := .c (.int (.u64) (.v 0)), out := [], nr := 1 }
def e35 : Ent := ⟨12, s35⟩
def Es35 : List Ent := [e0, e1, e2, e3, e4, e5, e6, e7, e8, e9, e10, e11, e12, e13, e14, e15, e16, e17, e18, e19, e20, e21, e22, e23, e24, e25, e26, e27, e28, e29, e30, e31, e32, e33, e34]
def Tb35 : List PF := [F0, F1, F2, F3, F4, F5, F6, F7, F8, F9, F10, F11, F12, F13, F14, F15, F16, F17, F18, F19, F20, F21, F22, F23, F24, F25, F26, F27, F28, F29, F30, F31, F32, F33, F34]
def S35 : Sums := [x0, x1, x2, x3, x4, x5, x6, x7, x8, x9, x10, x11, x12, x13, x14, x15, x16, x17, x18, x19, x20, x21, x22, x23, x24, x25, x26, x27, x28, x29, x30, x31, x32, x33, x34]
set_option maxRecDepth 100000 in
def t35 : T := .op (.call 32) [.v 0, .v 1] 2 (.op (.call 33) [.v 2, .v 3] 1 (.ret [.v 4]))
noncomputable def c35 : Cfg := ⟨Try.prog, gl0, Es35, s35.npin, Try.f12, s35, {}⟩
set_option maxRecDepth 100000 in
theorem k35 : compile c35 = .ok t35 := by kernel_rfl
def F35 : PF := t35.fn Tb35
theorem o35 : Contract Try.prog gl0 e35.f e35.sg F35 := compile_ok (c := c35) n35 l35 mo0 Try.func12 (by kernel_rfl) k35
theorem w35 : Lawful F35 := T.fn_lawful l35 t35
def p35_0 : AS := ⟨[U, U], []⟩
def q35_0 : List AS := [⟨[J, J, U], []⟩]
set_option maxRecDepth 100000 in
def d35_0 : Cert := .op 0 [.op 0 [.leaf (.at 0)]]
set_option maxRecDepth 100000 in
theorem a35_0 : total S35 p35_0 q35_0 t35 d35_0 = true := by kernel_rfl
def x35 : List (AS × List AS) := [(p35_0, q35_0)]
theorem y35 : ∀ x ∈ x35, SumOk F35 x := all_cons (total_ok l35 z35 a35_0) (all_nil)
theorem n36 : Ents Try.prog gl0 (Es35 ++ [e35]) (Tb35 ++ [F35]) := Ents.snoc n35 rfl o35 rfl rfl
theorem l36 : ∀ G ∈ Tb35 ++ [F35], Lawful G := lawful_snoc l35 w35 rfl
theorem z36 : SumsOk (Tb35 ++ [F35]) (S35 ++ [x35]) := SumsOk.snoc z35 rfl y35 rfl rfl
/-- (gimbal.soft.Calc).Sub -/
def s36 : Sig := { args := [.c (.ptr 0 0), .c (.int (.u64) (.v 1)), .c (.int (.u64) (.v 2))], heap := [some (.cells [.int (.u8) (.v 0)])], npin := 1, np := 3, res := .c (.int (.u64) (.v 0)), out := [some (.cells [.int (.u8) (.v 1)])], nr := 2 }
def e36 : Ent := ⟨12, s36⟩
def Es36 : List Ent := [e0, e1, e2, e3, e4, e5, e6, e7, e8, e9, e10, e11, e12, e13, e14, e15, e16, e17, e18, e19, e20, e21, e22, e23, e24, e25, e26, e27, e28, e29, e30, e31, e32, e33, e34, e35]
def Tb36 : List PF := [F0, F1, F2, F3, F4, F5, F6, F7, F8, F9, F10, F11, F12, F13, F14, F15, F16, F17, F18, F19, F20, F21, F22, F23, F24, F25, F26, F27, F28, F29, F30, F31, F32, F33, F34, F35]
def S36 : Sums := [x0, x1, x2, x3, x4, x5, x6, x7, x8, x9, x10, x11, x12, x13, x14, x15, x16, x17, x18, x19, x20, x21, x22, x23, x24, x25, x26, x27, x28, x29, x30, x31, x32, x33, x34, x35]
set_option maxRecDepth 100000 in
def t36 : T := .op (.call 32) [.v 1, .v 2] 2 (.op (.call 34) [.v 0, .v 3, .v 4] 2 (.ret [.v 5, .v 6]))
noncomputable def c36 : Cfg := ⟨Try.prog, gl0, Es36, s36.npin, Try.f12, s36, {}⟩
set_option maxRecDepth 100000 in
theorem k36 : compile c36 = .ok t36 := by kernel_rfl
def F36 : PF := t36.fn Tb36
theorem o36 : Contract Try.prog gl0 e36.f e36.sg F36 := compile_ok (c := c36) n36 l36 mo0 Try.func12 (by kernel_rfl) k36
theorem w36 : Lawful F36 := T.fn_lawful l36 t36
def p36_0 : AS := ⟨[I 0 255, U, U], []⟩
def q36_0 : List AS := [⟨[J, J, J, U, I 0 255], []⟩]
set_option maxRecDepth 100000 in
def d36_0 : Cert := .op 0 [.op 0 [.leaf (.at 0)]]
set_option maxRecDepth 100000 in
theorem a36_0 : total S36 p36_0 q36_0 t36 d36_0 = true := by kernel_rfl
def x36 : List (AS × List AS) := [(p36_0, q36_0)]
theorem y36 : ∀ x ∈ x36, SumOk F36 x := all_cons (total_ok l36 z36 a36_0) (all_nil)
theorem n37 : Ents Try.prog gl0 (Es36 ++ [e36]) (Tb36 ++ [F36]) := Ents.snoc n36 rfl o36 rfl rfl
theorem l37 : ∀ G ∈ Tb36 ++ [F36], Lawful G := lawful_snoc l36 w36 rfl
theorem z37 : SumsOk (Tb36 ++ [F36]) (S36 ++ [x36]) := SumsOk.snoc z36 rfl y36 rfl rfl
/-- math.bits.Mul64 -/
def s37 : Sig := { args := [.c (.int (.u64) (.v 0)), .c (.int (.u64) (.v 1))], heap := [], npin := 0, np := 2, res := .tup [{ agg := false, cs := [.int (.u64) (.v 0)] }, { agg := false, cs := [.int (.u64) (.v 1)] }], out := [], nr := 2 }
def e37 : Ent := ⟨77, s37⟩
def Es37 : List Ent := [e0, e1, e2, e3, e4, e5, e6, e7, e8, e9, e10, e11, e12, e13, e14, e15, e16, e17, e18, e19, e20, e21, e22, e23, e24, e25, e26, e27, e28, e29, e30, e31, e32, e33, e34, e35, e36]
def Tb37 : List PF := [F0, F1, F2, F3, F4, F5, F6, F7, F8, F9, F10, F11, F12, F13, F14, F15, F16, F17, F18, F19, F20, F21, F22, F23, F24, F25, F26, F27, F28, F29, F30, F31, F32, F33, F34, F35, F36]
def S37 : Sums := [x0, x1, x2, x3, x4, x5, x6, x7, x8, x9, x10, x11, x12, x13, x14, x15, x16, x17, x18, x19, x20, x21, x22, x23, x24, x25, x26, x27, x28, x29, x30, x31, x32, x33, x34, x35, x36]
set_option maxRecDepth 100000 in
def t37 : T := .op (.bin .and .u64) [.v 0, .i 4294967295] 1 (.op (.bin .shr .u64) [.v 0, .i 32] 1 (.op (.bin .and .u64) [.v 1, .i 4294967295] 1 (.op (.bin .shr .u64) [.v 1, .i 32] 1 (.op (.bin .mul .u64) [.v 2, .v 4] 1 (.op (.bin .mul .u64) [.v 3, .v 4] 1 (.op (.bin .shr .u64) [.v 6, .i 32] 1 (.op (.bin .add .u64) [.v 7, .v 8] 1 (.op (.bin .and .u64) [.v 9, .i 4294967295] 1 (.op (.bin .shr .u64) [.v 9, .i 32] 1 (.op (.bin .mul .u64) [.v 2, .v 5] 1 (.op (.bin .add .u64) [.v 10, .v 12] 1 (.op (.bin .mul .u64) [.v 3, .v 5] 1 (.op (.bin .add .u64) [.v 14, .v 11] 1 (.op (.bin .shr .u64) [.v 13, .i 32] 1 (.op (.bin .add .u64) [.v 15, .v 16] 1 (.op (.bin .mul .u64) [.v 0, .v 1] 1 (.ret [.v 17, .v 18])))))))))))))))))
noncomputable def c37 : Cfg := ⟨Try.prog, gl0, Es37, s37.npin, Try.f77, s37, {}⟩
set_option maxRecDepth 100000 in
theorem k37 : compile c37 = .ok t37 := by kernel_rfl
def F37 : PF := t37.fn Tb37
theorem o37 : Contract Try.prog gl0 e37.f e37.sg F37 := compile_ok (c := c37) n37 l37 mo0 Try.func77 (by kernel_rfl) k37
theorem w37 : Lawful F37 := T.fn_lawful l37 t37
def p37_0 : AS := ⟨[U, U], []⟩
def q37_0 : List AS := [⟨[J, J, I 0 18446744073709551614, U], []⟩]
set_option maxRecDepth 100000 in
def d37_0 : Cert := .op 0 [.op 0 [.op 0 [.op 0 [.op 0 [.op 0 [.op 0 [.op 0 [.op 0 [.op 0 [.op 0 [.op 0 [.op 0 [.op 0 [.op 0 [.op 0 [.op 0 [.leaf (.at 0)]]]]]]]]]]]]]]]]]
set_option maxRecDepth 100000 in
theorem a37_0 : total S37 p37_0 q37_0 t37 d37_0 = true := by kernel_rfl
def x37 : List (AS × List AS) := [(p37_0, q37_0)]
theorem y37 : ∀ x ∈ x37, SumOk F37 x := all_cons (total_ok l37 z37 a37_0) (all_nil)
theorem n38 : Ents Try.prog gl0 (Es37 ++ [e37]) (Tb37 ++ [F37]) := Ents.snoc n37 rfl o37 rfl rfl
theorem l38 : ∀ G ∈ Tb37 ++ [F37], Lawful G := lawful_snoc l37 w37 rfl
theorem z38 : SumsOk (Tb37 ++ [F37]) (S37 ++ [x37]) := SumsOk.snoc z37 rfl y37 rfl rfl
/-- gimbal.wide.Mul -/
def s38 : Sig := { args := [.c (.int (.u64) (.v 0)), .c (.int (.u64) (.v 1))], heap := [], npin := 0, np := 2, res := .agg [.int (.u64) (.v 0), .int (.u64) (.v 1)], out := [], nr := 2 }
def e38 : Ent := ⟨53, s38⟩
def Es38 : List Ent := [e0, e1, e2, e3, e4, e5, e6, e7, e8, e9, e10, e11, e12, e13, e14, e15, e16, e17, e18, e19, e20, e21, e22, e23, e24, e25, e26, e27, e28, e29, e30, e31, e32, e33, e34, e35, e36, e37]
def Tb38 : List PF := [F0, F1, F2, F3, F4, F5, F6, F7, F8, F9, F10, F11, F12, F13, F14, F15, F16, F17, F18, F19, F20, F21, F22, F23, F24, F25, F26, F27, F28, F29, F30, F31, F32, F33, F34, F35, F36, F37]
def S38 : Sums := [x0, x1, x2, x3, x4, x5, x6, x7, x8, x9, x10, x11, x12, x13, x14, x15, x16, x17, x18, x19, x20, x21, x22, x23, x24, x25, x26, x27, x28, x29, x30, x31, x32, x33, x34, x35, x36, x37]
set_option maxRecDepth 100000 in
def t38 : T := .op (.call 37) [.v 0, .v 1] 2 (.ret [.v 2, .v 3])
noncomputable def c38 : Cfg := ⟨Try.prog, gl0, Es38, s38.npin, Try.f53, s38, {}⟩
set_option maxRecDepth 100000 in
theorem k38 : compile c38 = .ok t38 := by kernel_rfl
def F38 : PF := t38.fn Tb38
theorem o38 : Contract Try.prog gl0 e38.f e38.sg F38 := compile_ok (c := c38) n38 l38 mo0 Try.func53 (by kernel_rfl) k38
theorem w38 : Lawful F38 := T.fn_lawful l38 t38
def p38_0 : AS := ⟨[U, U], []⟩
def q38_0 : List AS := [⟨[J, J, I 0 18446744073709551614, U], []⟩]
set_option maxRecDepth 100000 in
def d38_0 : Cert := .op 0 [.leaf (.at 0)]
set_option maxRecDepth 100000 in
theorem a38_0 : total S38 p38_0 q38_0 t38 d38_0 = true := by kernel_rfl
def x38 : List (AS × List AS) := [(p38_0, q38_0)]
theorem y38 : ∀ x ∈ x38, SumOk F38 x := all_cons (total_ok l38 z38 a38_0) (all_nil)
theorem n39 : Ents Try.prog gl0 (Es38 ++ [e38]) (Tb38 ++ [F38]) := Ents.snoc n38 rfl o38 rfl rfl
theorem l39 : ∀ G ∈ Tb38 ++ [F38], Lawful G := lawful_snoc l38 w38 rfl
theorem z39 : SumsOk (Tb38 ++ [F38]) (S38 ++ [x38]) := SumsOk.snoc z38 rfl y38 rfl rfl
/-- gimbal.soft.Mul -/
def s39 : Sig := { args := [.c (.int (.u64) (.v 0)), .c (.int (.u64) (.v 1))], heap := [], npin := 0, np := 2, res := .tup [{ agg := false, cs := [.int (.u64) (.v 0)] }, { agg := false, cs := [.int (.u8) (.v 1)] }], out := [], nr := 2 }
def e39 : Ent := ⟨31, s39⟩
def Es39 : List Ent := [e0, e1, e2, e3, e4, e5, e6, e7, e8, e9, e10, e11, e12, e13, e14, e15, e16, e17, e18, e19, e20, e21, e22, e23, e24, e25, e26, e27, e28, e29, e30, e31, e32, e33, e34, e35, e36, e37, e38]
def Tb39 : List PF := [F0, F1, F2, F3, F4, F5, F6, F7, F8, F9, F10, F11, F12, F13, F14, F15, F16, F17, F18, F19, F20, F21, F22, F23, F24, F25, F26, F27, F28, F29, F30, F31, F32, F33, F34, F35, F36, F37, F38]
def S39 : Sums := [x0, x1, x2, x3, x4, x5, x6, x7, x8, x9, x10, x11, x12, x13, x14, x15, x16, x17, x18, x19, x20, x21, x22, x23, x24, x25, x26, x27, x28, x29, x30, x31, x32, x33, x34, x35, x36, x37, x38]
set_option maxRecDepth 100000 in
def t39 : T := .op .lit [.v 0, .v 1] 1 (.op (.call 15) [.v 2] 3 (.ite (.v 5) (.ret [.v 3, .v 4]) (.op (.call 21) [.v 0] 1 (.op (.call 21) [.v 1] 1 (.op .bne [.v 6, .v 7] 1 (.op (.call 10) [.v 0] 1 (.op (.call 10) [.v 1] 1 (.seq (.seq (.op (.cmp .eql) [.v 9, .i 4] 1 (.ite (.v 11) (.op (.cmp .eql) [.v 10, .i 1] 1 (.ite (.v 12) (.jump 0 [.v 0, .v 1, .v 8, .v 9, .v 10, .b true]) (.op (.cmp .eql) [.v 9, .i 1] 1 (.ite (.v 13) (.op (.cmp .eql) [.v 10, .i 4] 1 (.jump 0 [.v 0, .v 1, .v 8, .v 9, .v 10, .v 14])) (.jump 0 [.v 0, .v 1, .v 8, .v 9, .v 10, .b false]))))) (.op (.cmp .eql) [.v 9, .i 1] 1 (.ite (.v 12) (.op (.cmp .eql) [.v 10, .i 4] 1 (.jump 0 [.v 0, .v 1, .v 8, .v 9, .v 10, .v 13])) (.jump 0 [.v 0, .v 1, .v 8, .v 9, .v 10, .b false]))))) (.ite (.v 5) (.ret [.i 9221120237041090560, .i 16]) (.seq (.op (.cmp .eql) [.v 3, .i 4] 1 (.ite (.v 6) (.jump 0 [.v 0, .v 1, .v 2, .b true]) (.op (.cmp .eql) [.v 4, .i 4] 1 (.jump 0 [.v 0, .v 1, .v 2, .v 7])))) (.ite (.v 3) (.op (.call 24) [.v 2, .i 2047, .i 0] 1 (.ret [.v 4, .i 0])) (.jump 0 [.v 0, .v 1, .v 2]))))) (.op (.call 17) [.v 0] 2 (.op (.call 17) [.v 1] 2 (.op (.call 38) [.v 3, .v 5] 2 (.op (.bin .add .i64) [.v 4, .v 6] 1 (.op (.call 28) [.v 2, .v 7, .v 8, .v 9, .b false] 2 (.ret [.v 10, .v 11]))))))))))))))
noncomputable def c39 : Cfg := ⟨Try.prog, gl0, Es39, s39.npin, Try.f31, s39, {}⟩
set_option maxRecDepth 100000 in
theorem k39 : compile c39 = .ok t39 := by kernel_rfl
def F39 : PF := t39.fn Tb39
theorem o39 : Contract Try.prog gl0 e39.f e39.sg F39 := compile_ok (c := c39) n39 l39 mo0 Try.func31 (by kernel_rfl) k39
theorem w39 : Lawful F39 := T.fn_lawful l39 t39
def p39_0 : AS := ⟨[U, U], []⟩
def q39_0 : List AS := [⟨[J, J, U, I 0 255], []⟩]
set_option maxRecDepth 100000 in
def d39_0 : Cert := .op 1 [.op 0 [.ite (.leaf (.at 0)) (.op 0 [.op 0 [.op 0 [.op 0 [.op 0 [.seq [⟨[U, U, J, J, B 0 1], [(0, 2, 0), (2, 0, 0), (1, 3, 0), (3, 1, 0)]⟩] (.seq [⟨[J, J, J, J, B0, J, J, ⟨.bool, (some 1), none, .none⟩], []⟩, ⟨[U, U, J, J, B 0 1, J, J, ⟨.bool, none, (some 0), .none⟩], [(0, 2, 0), (2, 0, 0), (1, 3, 0), (3, 1, 0)]⟩] (.op 0 [.ite (.op 0 [.ite (.leaf (.at 0)) (.op 0 [.ite (.absurd 11 11 0) (.leaf (.at 1))])]) (.op 0 [.ite (.op 0 [.leaf (.split 15 (.at 0) (.at 1))]) (.leaf (.at 1))])]) [.ite (.leaf (.at 0)) (.absurd 7 7 0), .ite (.absurd 7 7 0) (.seq [⟨[U, U, J, J, B 0 1, B0], [(0, 2, 0), (2, 0, 0), (1, 3, 0), (3, 1, 0)]⟩] (.op 0 [.ite (.leaf (.at 0)) (.op 0 [.leaf (.split 9 (.at 0) (.at 0))])]) [.ite (.op 0 [.leaf (.at 0)]) (.leaf (.at 0))])]) [.op 0 [.op 0 [.op 0 [.op 0 [.op 0 [.leaf (.at 0)]]]]]]]]]]])]]
set_option maxRecDepth 100000 in
theorem a39_0 : total S39 p39_0 q39_0 t39 d39_0 = true := by kernel_rfl
def x39 : List (AS × List AS) := [(p39_0, q39_0)]
theorem y39 : ∀ x ∈ x39, SumOk F39 x := all_cons (total_ok l39 z39 a39_0) (all_nil)
theorem n40 : Ents Try.prog gl0 (Es39 ++ [e39]) (Tb39 ++ [F39]) := Ents.snoc n39 rfl o39 rfl rfl
theorem l40 : ∀ G ∈ Tb39 ++ [F39], Lawful G := lawful_snoc l39 w39 rfl
theorem z40 : SumsOk (Tb39 ++ [F39]) (S39 ++ [x39]) := SumsOk.snoc z39 rfl y39 rfl rfl
/-- (gimbal.soft.Calc).Mul -/
def s40 : Sig := { args := [.c (.nilp), .c (.int (.u64) (.v 0)), .c (.int (.u64) (.v 1))], heap := [], npin := 0, np := 2, res := .c (.int (.u64) (.v 0)), out := [], nr := 1 }
def e40 : Ent := ⟨10, s40⟩
def Es40 : List Ent := [e0, e1, e2, e3, e4, e5, e6, e7, e8, e9, e10, e11, e12, e13, e14, e15, e16, e17, e18, e19, e20, e21, e22, e23, e24, e25, e26, e27, e28, e29, e30, e31, e32, e33, e34, e35, e36, e37, e38, e39]
def Tb40 : List PF := [F0, F1, F2, F3, F4, F5, F6, F7, F8, F9, F10, F11, F12, F13, F14, F15, F16, F17, F18, F19, F20, F21, F22, F23, F24, F25, F26, F27, F28, F29, F30, F31, F32, F33, F34, F35, F36, F37, F38, F39]
def S40 : Sums := [x0, x1, x2, x3, x4, x5, x6, x7, x8, x9, x10, x11, x12, x13, x14, x15, x16, x17, x18, x19, x20, x21, x22, x23, x24, x25, x26, x27, x28, x29, x30, x31, x32, x33, x34, x35, x36, x37, x38, x39]
set_option maxRecDepth 100000 in
def t40 : T := .op (.call 39) [.v 0, .v 1] 2 (.op (.call 33) [.v 2, .v 3] 1 (.ret [.v 4]))
noncomputable def c40 : Cfg := ⟨Try.prog, gl0, Es40, s40.npin, Try.f10, s40, {}⟩
set_option maxRecDepth 100000 in
theorem k40 : compile c40 = .ok t40 := by kernel_rfl
def F40 : PF := t40.fn Tb40
theorem o40 : Contract Try.prog gl0 e40.f e40.sg F40 := compile_ok (c := c40) n40 l40 mo0 Try.func10 (by kernel_rfl) k40
theorem w40 : Lawful F40 := T.fn_lawful l40 t40
def p40_0 : AS := ⟨[U, U], []⟩
def q40_0 : List AS := [⟨[J, J, U], []⟩]
set_option maxRecDepth 100000 in
def d40_0 : Cert := .op 0 [.op 0 [.leaf (.at 0)]]
set_option maxRecDepth 100000 in
theorem a40_0 : total S40 p40_0 q40_0 t40 d40_0 = true := by kernel_rfl
def x40 : List (AS × List AS) := [(p40_0, q40_0)]
theorem y40 : ∀ x ∈ x40, SumOk F40 x := all_cons (total_ok l40 z40 a40_0) (all_nil)
theorem n41 : Ents Try.prog gl0 (Es40 ++ [e40]) (Tb40 ++ [F40]) := Ents.snoc n40 rfl o40 rfl rfl
theorem l41 : ∀ G ∈ Tb40 ++ [F40], Lawful G := lawful_snoc l40 w40 rfl
theorem z41 : SumsOk (Tb40 ++ [F40]) (S40 ++ [x40]) := SumsOk.snoc z40 rfl y40 rfl rfl
/-- (gimbal.soft.Calc).Mul -/
def s41 : Sig := { args := [.c (.ptr 0 0), .c (.int (.u64) (.v 1)), .c (.int (.u64) (.v 2))], heap := [some (.cells [.int (.u8) (.v 0)])], npin := 1, np := 3, res := .c (.int (.u64) (.v 0)), out := [some (.cells [.int (.u8) (.v 1)])], nr := 2 }
def e41 : Ent := ⟨10, s41⟩
def Es41 : List Ent := [e0, e1, e2, e3, e4, e5, e6, e7, e8, e9, e10, e11, e12, e13, e14, e15, e16, e17, e18, e19, e20, e21, e22, e23, e24, e25, e26, e27, e28, e29, e30, e31, e32, e33, e34, e35, e36, e37, e38, e39, e40]
def Tb41 : List PF := [F0, F1, F2, F3, F4, F5, F6, F7, F8, F9, F10, F11, F12, F13, F14, F15, F16, F17, F18, F19, F20, F21, F22, F23, F24, F25, F26, F27, F28, F29, F30, F31, F32, F33, F34, F35, F36, F37, F38, F39, F40]
def S41 : Sums := [x0, x1, x2, x3, x4, x5, x6, x7, x8, x9, x10, x11, x12, x13, x14, x15, x16, x17, x18, x19, x20, x21, x22, x23, x24, x25, x26, x27, x28, x29, x30, x31, x32, x33, x34, x35, x36, x37, x38, x39, x40]
set_option maxRecDepth 100000 in
def t41 : T := .op (.call 39) [.v 1, .v 2] 2 (.op (.call 34) [.v 0, .v 3, .v 4] 2 (.ret [.v 5, .v 6]))
noncomputable def c41 : Cfg := ⟨Try.prog, gl0, Es41, s41.npin, Try.f10, s41, {}⟩
set_option maxRecDepth 100000 in
theorem k41 : compile c41 = .ok t41 := by kernel_rfl
def F41 : PF := t41.fn Tb41
theorem o41 : Contract Try.prog gl0 e41.f e41.sg F41 := compile_ok (c := c41) n41 l41 mo0 Try.func10 (by kernel_rfl) k41
theorem w41 : Lawful F41 := T.fn_lawful l41 t41
def p41_0 : AS := ⟨[I 0 255, U, U], []⟩
def q41_0 : List AS := [⟨[J, J, J, U, I 0 255], []⟩]
set_option maxRecDepth 100000 in
def d41_0 : Cert := .op 0 [.op 0 [.leaf (.at 0)]]
set_option maxRecDepth 100000 in
theorem a41_0 : total S41 p41_0 q41_0 t41 d41_0 = true := by kernel_rfl
def x41 : List (AS × List AS) := [(p41_0, q41_0)]
theorem y41 : ∀ x ∈ x41, SumOk F41 x := all_cons (total_ok l41 z41 a41_0) (all_nil)
theorem n42 : Ents Try.prog gl0 (Es41 ++ [e41]) (Tb41 ++ [F41]) := Ents.snoc n41 rfl o41 rfl rfl
theorem l42 : ∀ G ∈ Tb41 ++ [F41], Lawful G := lawful_snoc l41 w41 rfl
theorem z42 : SumsOk (Tb41 ++ [F41]) (S41 ++ [x41]) := SumsOk.snoc z41 rfl y41 rfl rfl
end Ythkbmedkbacgmaa.Gp
end Go.Proofs

/- What the program's functions do, and that they end, part 4: made by a program of this session. -/
namespace Go.Proofs
open Go Gm
namespace Ythkbmedkbacgmaa.Gp
/-- (gimbal.soft.Calc).Add -/
def s42 : Sig := { args := [.c (.nilp), .c (.int (.u64) (.v 0)), .c (.int (.u64) (.v 1))], heap := [], npin := 0, np := 2, res := .c (.int (.u64) (.v 0)), out := [], nr := 1 }
def e42 : Ent := ⟨11, s42⟩
def Es42 : List Ent := [e0, e1, e2, e3, e4, e5, e6, e7, e8, e9, e10, e11, e12, e13, e14, e15, e16, e17, e18, e19, e20, e21, e22, e23, e24, e25, e26, e27, e28, e29, e30, e31, e32, e33, e34, e35, e36, e37, e38, e39, e40, e41]
def Tb42 : List PF := [F0, F1, F2, F3, F4, F5, F6, F7, F8, F9, F10, F11, F12, F13, F14, F15, F16, F17, F18, F19, F20, F21, F22, F23, F24, F25, F26, F27, F28, F29, F30, F31, F32, F33, F34, F35, F36, F37, F38, F39, F40, F41]
def S42 : Sums := [x0, x1, x2, x3, x4, x5, x6, x7, x8, x9, x10, x11, x12, x13, x14, x15, x16, x17, x18, x19, x20, x21, x22, x23, x24, x25, x26, x27, x28, x29, x30, x31, x32, x33, x34, x35, x36, x37, x38, x39, x40, x41]
set_option maxRecDepth 100000 in
def t42 : T := .op (.call 31) [.v 0, .v 1] 2 (.op (.call 33) [.v 2, .v 3] 1 (.ret [.v 4]))
noncomputable def c42 : Cfg := ⟨Try.prog, gl0, Es42, s42.npin, Try.f11, s42, {}⟩
set_option maxRecDepth 100000 in
theorem k42 : compile c42 = .ok t42 := by kernel_rfl
def F42 : PF := t42.fn Tb42
theorem o42 : Contract Try.prog gl0 e42.f e42.sg F42 := compile_ok (c := c42) n42 l42 mo0 Try.func11 (by kernel_rfl) k42
theorem w42 : Lawful F42 := T.fn_lawful l42 t42
def p42_0 : AS := ⟨[U, U], []⟩
def q42_0 : List AS := [⟨[J, J, U], []⟩]
set_option maxRecDepth 100000 in
def d42_0 : Cert := .op 0 [.op 0 [.leaf (.at 0)]]
set_option maxRecDepth 100000 in
theorem a42_0 : total S42 p42_0 q42_0 t42 d42_0 = true := by kernel_rfl
def x42 : List (AS × List AS) := [(p42_0, q42_0)]
theorem y42 : ∀ x ∈ x42, SumOk F42 x := all_cons (total_ok l42 z42 a42_0) (all_nil)
theorem n43 : Ents Try.prog gl0 (Es42 ++ [e42]) (Tb42 ++ [F42]) := Ents.snoc n42 rfl o42 rfl rfl
theorem l43 : ∀ G ∈ Tb42 ++ [F42], Lawful G := lawful_snoc l42 w42 rfl
theorem z43 : SumsOk (Tb42 ++ [F42]) (S42 ++ [x42]) := SumsOk.snoc z42 rfl y42 rfl rfl
/-- (gimbal.soft.Calc).Add -/
def s43 : Sig := { args := [.c (.ptr 0 0), .c (.int (.u64) (.v 1)), .c (.int (.u64) (.v 2))], heap := [some (.cells [.int (.u8) (.v 0)])], npin := 1, np := 3, res := .c (.int (.u64) (.v 0)), out := [some (.cells [.int (.u8) (.v 1)])], nr := 2 }
def e43 : Ent := ⟨11, s43⟩
def Es43 : List Ent := [e0, e1, e2, e3, e4, e5, e6, e7, e8, e9, e10, e11, e12, e13, e14, e15, e16, e17, e18, e19, e20, e21, e22, e23, e24, e25, e26, e27, e28, e29, e30, e31, e32, e33, e34, e35, e36, e37, e38, e39, e40, e41, e42]
def Tb43 : List PF := [F0, F1, F2, F3, F4, F5, F6, F7, F8, F9, F10, F11, F12, F13, F14, F15, F16, F17, F18, F19, F20, F21, F22, F23, F24, F25, F26, F27, F28, F29, F30, F31, F32, F33, F34, F35, F36, F37, F38, F39, F40, F41, F42]
def S43 : Sums := [x0, x1, x2, x3, x4, x5, x6, x7, x8, x9, x10, x11, x12, x13, x14, x15, x16, x17, x18, x19, x20, x21, x22, x23, x24, x25, x26, x27, x28, x29, x30, x31, x32, x33, x34, x35, x36, x37, x38, x39, x40, x41, x42]
set_option maxRecDepth 100000 in
def t43 : T := .op (.call 31) [.v 1, .v 2] 2 (.op (.call 34) [.v 0, .v 3, .v 4] 2 (.ret [.v 5, .v 6]))
noncomputable def c43 : Cfg := ⟨Try.prog, gl0, Es43, s43.npin, Try.f11, s43, {}⟩
set_option maxRecDepth 100000 in
theorem k43 : compile c43 = .ok t43 := by kernel_rfl
def F43 : PF := t43.fn Tb43
theorem o43 : Contract Try.prog gl0 e43.f e43.sg F43 := compile_ok (c := c43) n43 l43 mo0 Try.func11 (by kernel_rfl) k43
theorem w43 : Lawful F43 := T.fn_lawful l43 t43
def p43_0 : AS := ⟨[I 0 255, U, U], []⟩
def q43_0 : List AS := [⟨[J, J, J, U, I 0 255], []⟩]
set_option maxRecDepth 100000 in
def d43_0 : Cert := .op 0 [.op 0 [.leaf (.at 0)]]
set_option maxRecDepth 100000 in
theorem a43_0 : total S43 p43_0 q43_0 t43 d43_0 = true := by kernel_rfl
def x43 : List (AS × List AS) := [(p43_0, q43_0)]
theorem y43 : ∀ x ∈ x43, SumOk F43 x := all_cons (total_ok l43 z43 a43_0) (all_nil)
theorem n44 : Ents Try.prog gl0 (Es43 ++ [e43]) (Tb43 ++ [F43]) := Ents.snoc n43 rfl o43 rfl rfl
theorem l44 : ∀ G ∈ Tb43 ++ [F43], Lawful G := lawful_snoc l43 w43 rfl
theorem z44 : SumsOk (Tb43 ++ [F43]) (S43 ++ [x43]) := SumsOk.snoc z43 rfl y43 rfl rfl
/-- (gimbal.mat.Matrix).Clone -/
def s44 : Sig := { args := [.agg [.int (.i64) (.v 0), .int (.i64) (.v 1), .int (.i64) (.v 2), .slc 0]], heap := [some (.list (.int (.u64)) 1 (.v 3) false)], npin := 0, np := 4, res := .agg [.int (.i64) (.v 0), .int (.i64) (.v 1), .int (.i64) (.v 2), .slc 1], out := [none, some (.list (.int (.u64)) 1 (.v 3) true)], nr := 4 }
def e44 : Ent := ⟨44, s44⟩
def Es44 : List Ent := [e0, e1, e2, e3, e4, e5, e6, e7, e8, e9, e10, e11, e12, e13, e14, e15, e16, e17, e18, e19, e20, e21, e22, e23, e24, e25, e26, e27, e28, e29, e30, e31, e32, e33, e34, e35, e36, e37, e38, e39, e40, e41, e42, e43]
def Tb44 : List PF := [F0, F1, F2, F3, F4, F5, F6, F7, F8, F9, F10, F11, F12, F13, F14, F15, F16, F17, F18, F19, F20, F21, F22, F23, F24, F25, F26, F27, F28, F29, F30, F31, F32, F33, F34, F35, F36, F37, F38, F39, F40, F41, F42, F43]
def S44 : Sums := [x0, x1, x2, x3, x4, x5, x6, x7, x8, x9, x10, x11, x12, x13, x14, x15, x16, x17, x18, x19, x20, x21, x22, x23, x24, x25, x26, x27, x28, x29, x30, x31, x32, x33, x34, x35, x36, x37, x38, x39, x40, x41, x42, x43]
set_option maxRecDepth 100000 in
def t44 : T := .op (.call 0) [.v 0, .v 1] 4 (.seq (.loop [.v 4, .i 0, .v 3, .v 0, .v 1, .v 2, .i 0, .i 0, .i 0, .nil, .v 7, .v 4, .v 5, .v 6] (.op (.cmp .lss) [.v 1, .v 0] 1 (.ite (.v 14) (.seq (.seq (.loop [.v 1, .v 0, .v 1, .v 12, .i 0, .v 2, .v 3, .v 4, .v 5, .v 6, .v 7, .v 8, .v 9, .v 10, .v 11, .v 12, .v 13] (.op (.cmp .lss) [.v 4, .v 3] 1 (.ite (.v 17) (.seq (.op (.call 5) [.v 6, .v 7, .v 8, .v 5, .v 0, .v 4] 1 (.op (.call 2) [.v 14, .v 15, .v 16, .v 13, .v 0, .v 4, .v 18] 1 (.jump 0 [.v 0, .v 1, .v 2, .v 3, .v 4, .v 5, .v 6, .v 7, .v 8, .v 9, .v 10, .v 11, .v 12, .v 19, .v 14, .v 15, .v 16]))) (.op (.bin .add .i64) [.v 4, .i 1] 1 (.jump 0 [.v 0, .v 1, .v 2, .v 3, .v 17, .v 5, .v 6, .v 7, .v 8, .v 9, .v 10, .v 11, .v 12, .v 13, .v 14, .v 15, .v 16]))) (.jump 1 [.v 1, .v 2, .v 5, .v 6, .v 7, .v 8, .v 9, .v 10, .v 11, .v 12, .v 13, .v 14, .v 15, .v 16])))) (.jump 0 [.v 0, .v 1, .v 2, .v 3, .v 4, .v 5, .v 6, .v 7, .v 8, .v 9, .v 10, .v 11, .v 12, .v 13])) (.op (.bin .add .i64) [.v 1, .i 1] 1 (.jump 0 [.v 0, .v 14, .v 2, .v 3, .v 4, .v 5, .v 6, .v 7, .v 8, .v 9, .v 10, .v 11, .v 12, .v 13]))) (.jump 1 [.v 6, .v 7, .v 8, .v 9, .v 10, .v 11, .v 12, .v 13])))) (.ret [.v 5, .v 6, .v 7, .v 4]))
noncomputable def c44 : Cfg := ⟨Try.prog, gl0, Es44, s44.npin, Try.f44, s44, {}⟩
set_option maxRecDepth 100000 in
theorem k44 : compile c44 = .ok t44 := by kernel_rfl
def F44 : PF := t44.fn Tb44
theorem o44 : Contract Try.prog gl0 e44.f e44.sg F44 := compile_ok (c := c44) n44 l44 mo0 Try.func44 (by kernel_rfl) k44
theorem w44 : Lawful F44 := T.fn_lawful l44 t44
def p44_0 : AS := ⟨[I 0 4096, I 0 4096, I 0 1099511627776, Y (some 0) (some 1099511627776)], []⟩
def q44_0 : List AS := [⟨[J, J, J, Y none none, I 0 4096, I 0 4096, I 0 4096, Y (some 0) (some 16777216)], []⟩]
set_option maxRecDepth 100000 in
def d44_0 : Cert := .op 0 [.seq [⟨[J, J, J, Y none none, J, J, J, N 1 1 0 none none, Y (some 0) (some 16777216), I 0 4096, I 0 4096, I 0 4096], []⟩] (.loop ⟨[I 0 4096, I 0 4096, I 0 1099511627776, Y (some 0) (some 1099511627776), H 4096, I 0 4096, Y none none, J, J, J, I 0 0, I 0 0, I 0 0, N 1 1 0 (some 0) (some 0), Y (some 0) (some 16777216), J, I 0 4096, I 0 4096], [(5, 4, 0), (3, 6, 0), (6, 3, 0), (0, 7, 0), (7, 0, 0), (1, 8, 0), (8, 1, 0), (2, 9, 0), (9, 2, 0), (4, 15, 0), (15, 4, 0)]⟩ 1 true (.op 0 [.ite (.seq [⟨[I 0 4096, I 0 4096, I 0 1099511627776, Y (some 0) (some 1099511627776), J, H 4096, I 0 4095, Y none none, J, J, J, I 0 0, I 0 0, I 0 0, N 1 1 0 (some 0) (some 0), Y (some 0) (some 16777216), J, I 0 4096, I 0 4096], [(4, 5, -1), (4, 6, 0), (6, 4, 0), (3, 7, 0), (7, 3, 0), (0, 8, 0), (8, 0, 0), (1, 9, 0), (9, 1, 0), (2, 10, 0), (10, 2, 0), (5, 16, 0), (16, 5, 0)]⟩] (.seq [⟨[I 0 4096, I 0 4096, I 0 1099511627776, Y (some 0) (some 1099511627776), K 0, H 4096, J, Y none none, J, J, J, I 0 0, I 0 0, I 0 0, N 1 1 0 (some 0) (some 0), Y (some 0) (some 16777216), J, I 0 4096, I 0 4096], [(4, 5, -1), (4, 6, 0), (6, 4, 0), (3, 7, 0), (7, 3, 0), (0, 8, 0), (8, 0, 0), (1, 9, 0), (9, 1, 0), (2, 10, 0), (10, 2, 0), (5, 16, 0), (16, 5, 0)]⟩] (.loop ⟨[I 0 4096, I 0 4096, I 0 1099511627776, Y (some 0) (some 1099511627776), K 0, J, H 4096, J, H 4096, I 0 4096, Y none none, J, J, J, I 0 0, I 0 0, I 0 0, N 1 1 0 (some 0) (some 0), Y (some 0) (some 16777216), J, J, I 0 4096], [(4, 6, -1), (4, 5, 0), (5, 4, 0), (4, 7, 0), (7, 4, 0), (9, 8, 0), (3, 10, 0), (10, 3, 0), (0, 11, 0), (11, 0, 0), (1, 12, 0), (12, 1, 0), (2, 13, 0), (13, 2, 0), (6, 19, 0), (19, 6, 0), (8, 20, 0), (20, 8, 0)]⟩ 4 true (.op 0 [.ite (.seq [⟨[I 0 4096, I 0 4096, I 0 1099511627776, Y (some 0) (some 1099511627776), K 0, J, J, H 4096, J, H 4096, I 0 4095, Y none none, J, J, J, I 0 0, I 0 0, I 0 0, N 1 1 0 (some 0) (some 0), Y (some 0) (some 16777216), J, J, I 0 4096], [(4, 7, -1), (5, 9, -1), (4, 6, 0), (6, 4, 0), (4, 8, 0), (8, 4, 0), (5, 10, 0), (10, 5, 0), (3, 11, 0), (11, 3, 0), (0, 12, 0), (12, 0, 0), (1, 13, 0), (13, 1, 0), (2, 14, 0), (14, 2, 0), (7, 20, 0), (20, 7, 0), (9, 21, 0), (21, 9, 0)]⟩] (.op 0 [.op 0 [.leaf (.at 0)]]) [.op 0 [.leaf (.at 0)]]) (.leaf (.at 0))])) [.leaf (.at 0)]) [.op 0 [.leaf (.at 0)]]) (.leaf (.at 0))])) [.leaf (.at 0)]]
set_option maxRecDepth 100000 in
theorem a44_0 : total S44 p44_0 q44_0 t44 d44_0 = true := by kernel_rfl
def x44 : List (AS × List AS) := [(p44_0, q44_0)]
theorem y44 : ∀ x ∈ x44, SumOk F44 x := all_cons (total_ok l44 z44 a44_0) (all_nil)
theorem n45 : Ents Try.prog gl0 (Es44 ++ [e44]) (Tb44 ++ [F44]) := Ents.snoc n44 rfl o44 rfl rfl
theorem l45 : ∀ G ∈ Tb44 ++ [F44], Lawful G := lawful_snoc l44 w44 rfl
theorem z45 : SumsOk (Tb44 ++ [F44]) (S44 ++ [x44]) := SumsOk.snoc z44 rfl y44 rfl rfl
/-- gimbal.order.Greatest -/
def s45 : Sig := { args := [.c (.slc 0)], heap := [some (.list (.int (.u64)) 1 (.v 0) false)], npin := 0, np := 1, res := .tup [{ agg := false, cs := [.int (.u64) (.v 0)] }, { agg := false, cs := [.int (.i64) (.v 1)] }], out := [none], nr := 2 }
def e45 : Ent := ⟨87, s45⟩
def Es45 : List Ent := [e0, e1, e2, e3, e4, e5, e6, e7, e8, e9, e10, e11, e12, e13, e14, e15, e16, e17, e18, e19, e20, e21, e22, e23, e24, e25, e26, e27, e28, e29, e30, e31, e32, e33, e34, e35, e36, e37, e38, e39, e40, e41, e42, e43, e44]
def Tb45 : List PF := [F0, F1, F2, F3, F4, F5, F6, F7, F8, F9, F10, F11, F12, F13, F14, F15, F16, F17, F18, F19, F20, F21, F22, F23, F24, F25, F26, F27, F28, F29, F30, F31, F32, F33, F34, F35, F36, F37, F38, F39, F40, F41, F42, F43, F44]
def S45 : Sums := [x0, x1, x2, x3, x4, x5, x6, x7, x8, x9, x10, x11, x12, x13, x14, x15, x16, x17, x18, x19, x20, x21, x22, x23, x24, x25, x26, x27, x28, x29, x30, x31, x32, x33, x34, x35, x36, x37, x38, x39, x40, x41, x42, x43, x44]
set_option maxRecDepth 100000 in
def t45 : T := .op (.len 1) [.v 0] 1 (.seq (.loop [.i 0, .i (-1), .v 1, .i 0, .v 0] (.op (.cmp .lss) [.v 3, .v 2] 1 (.ite (.v 5) (.seq (.op (.chk 1) [.v 4, .v 3] 0 (.op (.get 1 0) [.v 4, .v 3] 1 (.op (.call 10) [.v 6] 1 (.op (.cmp .eql) [.v 7, .i 5] 1 (.ite (.v 8) (.ret [.i 9221120237041090560, .v 3]) (.seq (.op (.cmp .lss) [.v 1, .i 0] 1 (.ite (.v 9) (.jump 0 [.v 0, .v 1, .v 3, .v 6, .v 2, .v 3, .b true, .v 4]) (.op (.call 16) [.v 6] 1 (.op (.cmp .gtr) [.v 10, .v 0] 1 (.jump 0 [.v 0, .v 1, .v 3, .v 6, .v 2, .v 3, .v 11, .v 4]))))) (.seq (.ite (.v 6) (.op (.call 16) [.v 3] 1 (.jump 0 [.v 8, .v 2, .v 4, .v 5, .v 7])) (.jump 0 [.v 0, .v 1, .v 4, .v 5, .v 7])) (.jump 0 [.v 0, .v 1, .v 2, .v 3, .v 4])))))))) (.op (.bin .add .i64) [.v 3, .i 1] 1 (.jump 0 [.v 0, .v 1, .v 2, .v 5, .v 4]))) (.jump 1 [.v 0, .v 1])))) (.ret [.v 0, .v 1]))
noncomputable def c45 : Cfg := ⟨Try.prog, gl0, Es45, s45.npin, Try.f87, s45, {}⟩
set_option maxRecDepth 100000 in
theorem k45 : compile c45 = .ok t45 := by kernel_rfl
def F45 : PF := t45.fn Tb45
theorem o45 : Contract Try.prog gl0 e45.f e45.sg F45 := compile_ok (c := c45) n45 l45 mo0 Try.func87 (by kernel_rfl) k45
theorem w45 : Lawful F45 := T.fn_lawful l45 t45
def p45_0 : AS := ⟨[Y (some 0) (some 1099511627776)], []⟩
def q45_0 : List AS := [⟨[Y none none, U, I (-1) 1099511627775], [(2, 0, -1)]⟩]
set_option maxRecDepth 100000 in
def d45_0 : Cert := .op 0 [.seq [⟨[Y none (some 1099511627776), U, K (-1)], [(2, 0, -1)]⟩] (.loop ⟨[Y none (some 1099511627776), U, K (-1), J, I 0 1099511627776, Y none none], [(2, 0, -1), (0, 3, 0), (3, 0, 0), (0, 5, 0), (5, 0, 0)]⟩ 3 true (.op 0 [.ite (.seq [⟨[Y none (some 1099511627776), J, U, K 0, J, I 0 1099511627775, Y none none], [(0, 4, 0), (4, 0, 0), (1, 5, 0), (5, 1, 0), (0, 6, 0), (6, 0, 0), (3, 0, -1)]⟩] (.op 0 [.op 0 [.op 0 [.op 0 [.ite (.leaf (.at 0)) (.seq [⟨[Y none (some 1099511627776), K 0, J, J, J, U, J, J, ⟨.bool, (some 1), none, .none⟩, Y none none], [(1, 0, -1), (1, 4, 0), (4, 1, 0), (0, 6, 0), (6, 0, 0), (1, 7, 0), (7, 1, 0), (0, 9, 0), (9, 0, 0)]⟩, ⟨[Y none (some 1099511627776), K 0, U, K 0, J, J, J, J, ⟨.bool, none, (some 0), .none⟩, Y none none], [(1, 0, -1), (3, 0, -1), (0, 6, 0), (6, 0, 0), (1, 7, 0), (7, 1, 0), (0, 9, 0), (9, 0, 0)]⟩] (.op 0 [.ite (.leaf (.at 0)) (.op 0 [.op 0 [.leaf (.split 13 (.at 0) (.at 1))]])]) [.seq [⟨[Y none (some 1099511627776), K 0, U, J, J, J, Y none none], [(1, 0, -1), (1, 3, 0), (3, 1, 0), (0, 4, 0), (4, 0, 0), (1, 5, 0), (5, 1, 0), (0, 6, 0), (6, 0, 0)]⟩] (.ite (.op 0 [.leaf (.at 0)]) (.absurd 8 8 0)) [.leaf (.at 0)], .seq [⟨[Y none (some 1099511627776), K 0, U, K 0, J, J, Y none none], [(1, 0, -1), (3, 0, -1), (0, 4, 0), (4, 0, 0), (1, 5, 0), (5, 1, 0), (0, 6, 0), (6, 0, 0)]⟩] (.ite (.absurd 8 8 0) (.leaf (.at 0))) [.leaf (.at 0)]])]]]]) [.op 0 [.leaf (.at 0)]]) (.leaf (.at 0))])) [.leaf (.at 0)]]
set_option maxRecDepth 100000 in
theorem a45_0 : total S45 p45_0 q45_0 t45 d45_0 = true := by kernel_rfl
def x45 : List (AS × List AS) := [(p45_0, q45_0)]
theorem y45 : ∀ x ∈ x45, SumOk F45 x := all_cons (total_ok l45 z45 a45_0) (all_nil)
theorem n46 : Ents Try.prog gl0 (Es45 ++ [e45]) (Tb45 ++ [F45]) := Ents.snoc n45 rfl o45 rfl rfl
theorem l46 : ∀ G ∈ Tb45 ++ [F45], Lawful G := lawful_snoc l45 w45 rfl
theorem z46 : SumsOk (Tb45 ++ [F45]) (S45 ++ [x45]) := SumsOk.snoc z45 rfl y45 rfl rfl
/-- gimbal.vec.Power -/
def s46 : Sig := { args := [.c (.slc 0)], heap := [some (.list (.int (.u64)) 1 (.v 0) false)], npin := 0, np := 1, res := .tup [{ agg := false, cs := [.int (.i64) (.v 0)] }, { agg := false, cs := [.bool (.v 1)] }], out := [none], nr := 2 }
def e46 : Ent := ⟨67, s46⟩
def Es46 : List Ent := [e0, e1, e2, e3, e4, e5, e6, e7, e8, e9, e10, e11, e12, e13, e14, e15, e16, e17, e18, e19, e20, e21, e22, e23, e24, e25, e26, e27, e28, e29, e30, e31, e32, e33, e34, e35, e36, e37, e38, e39, e40, e41, e42, e43, e44, e45]
def Tb46 : List PF := [F0, F1, F2, F3, F4, F5, F6, F7, F8, F9, F10, F11, F12, F13, F14, F15, F16, F17, F18, F19, F20, F21, F22, F23, F24, F25, F26, F27, F28, F29, F30, F31, F32, F33, F34, F35, F36, F37, F38, F39, F40, F41, F42, F43, F44, F45]
def S46 : Sums := [x0, x1, x2, x3, x4, x5, x6, x7, x8, x9, x10, x11, x12, x13, x14, x15, x16, x17, x18, x19, x20, x21, x22, x23, x24, x25, x26, x27, x28, x29, x30, x31, x32, x33, x34, x35, x36, x37, x38, x39, x40, x41, x42, x43, x44, x45]
set_option maxRecDepth 100000 in
def t46 : T := .op (.call 45) [.v 0] 2 (.op (.call 17) [.v 1] 2 (.op (.cmp .eql) [.v 3, .i 0] 1 (.ite (.v 5) (.ret [.i 0, .b false]) (.seq (.loop [.v 3, .v 4] (.op (.cmp .gtr) [.v 0, .i 1] 1 (.ite (.v 2) (.seq (.op (.bin .shr .u64) [.v 0, .i 1] 1 (.op (.bin .add .i64) [.v 1, .i 1] 1 (.jump 0 [.v 3, .v 4]))) (.jump 0 [.v 0, .v 1])) (.jump 1 [.v 1])))) (.ret [.v 0, .b true])))))
noncomputable def c46 : Cfg := ⟨Try.prog, gl0, Es46, s46.npin, Try.f67, s46, {}⟩
set_option maxRecDepth 100000 in
theorem k46 : compile c46 = .ok t46 := by kernel_rfl
def F46 : PF := t46.fn Tb46
theorem o46 : Contract Try.prog gl0 e46.f e46.sg F46 := compile_ok (c := c46) n46 l46 mo0 Try.func67 (by kernel_rfl) k46
theorem w46 : Lawful F46 := T.fn_lawful l46 t46
def p46_0 : AS := ⟨[Y (some 0) (some 1099511627776)], []⟩
def q46_0 : List AS := [⟨[Y none none, Z, B 0 1], []⟩]
set_option maxRecDepth 100000 in
def d46_0 : Cert := .op 0 [.op 0 [.op 0 [.ite (.leaf (.at 0)) (.seq [⟨[Y none none, Z], []⟩] (.loop ⟨[Y (some 0) (some 1099511627776), I 0 9007199254740991, Z], []⟩ 0 false (.op 0 [.ite (.seq [⟨[Y (some 0) (some 1099511627776), H 9007199254740991, K 0, Z], [(2, 1, -1)]⟩] (.op 0 [.op 0 [.leaf (.at 0)]]) [.leaf (.at 0)]) (.leaf (.at 0))])) [.leaf (.at 0)])]]]
set_option maxRecDepth 100000 in
theorem a46_0 : total S46 p46_0 q46_0 t46 d46_0 = true := by kernel_rfl
def x46 : List (AS × List AS) := [(p46_0, q46_0)]
theorem y46 : ∀ x ∈ x46, SumOk F46 x := all_cons (total_ok l46 z46 a46_0) (all_nil)
theorem n47 : Ents Try.prog gl0 (Es46 ++ [e46]) (Tb46 ++ [F46]) := Ents.snoc n46 rfl o46 rfl rfl
theorem l47 : ∀ G ∈ Tb46 ++ [F46], Lawful G := lawful_snoc l46 w46 rfl
theorem z47 : SumsOk (Tb46 ++ [F46]) (S46 ++ [x46]) := SumsOk.snoc z46 rfl y46 rfl rfl
/-- gimbal.house.none -/
def s47 : Sig := { args := [.c (.int (.i64) (.v 0))], heap := [], npin := 0, np := 1, res := .agg [.slc 0, .int (.u64) (.v 1)], out := [some (.list (.int (.u64)) 1 (.v 0) true)], nr := 2 }
def e47 : Ent := ⟨68, s47⟩
def Es47 : List Ent := [e0, e1, e2, e3, e4, e5, e6, e7, e8, e9, e10, e11, e12, e13, e14, e15, e16, e17, e18, e19, e20, e21, e22, e23, e24, e25, e26, e27, e28, e29, e30, e31, e32, e33, e34, e35, e36, e37, e38, e39, e40, e41, e42, e43, e44, e45, e46]
def Tb47 : List PF := [F0, F1, F2, F3, F4, F5, F6, F7, F8, F9, F10, F11, F12, F13, F14, F15, F16, F17, F18, F19, F20, F21, F22, F23, F24, F25, F26, F27, F28, F29, F30, F31, F32, F33, F34, F35, F36, F37, F38, F39, F40, F41, F42, F43, F44, F45, F46]
def S47 : Sums := [x0, x1, x2, x3, x4, x5, x6, x7, x8, x9, x10, x11, x12, x13, x14, x15, x16, x17, x18, x19, x20, x21, x22, x23, x24, x25, x26, x27, x28, x29, x30, x31, x32, x33, x34, x35, x36, x37, x38, x39, x40, x41, x42, x43, x44, x45, x46]
set_option maxRecDepth 100000 in
def t47 : T := .op (.mk 1) [.v 0, .v 0] 1 (.op (.cmp .gtr) [.v 0, .i 0] 1 (.seq (.ite (.v 2) (.op (.chk 1) [.v 1, .i 0] 0 (.op (.set 1 0) [.v 1, .i 0, .i 4607182418800017408] 1 (.jump 0 [.i 0, .nil, .v 3]))) (.jump 0 [.i 0, .nil, .v 1])) (.ret [.v 2, .i 0])))
noncomputable def c47 : Cfg := ⟨Try.prog, gl0, Es47, s47.npin, Try.f68, s47, {}⟩
set_option maxRecDepth 100000 in
theorem k47 : compile c47 = .ok t47 := by kernel_rfl
def F47 : PF := t47.fn Tb47
theorem o47 : Contract Try.prog gl0 e47.f e47.sg F47 := compile_ok (c := c47) n47 l47 mo0 Try.func68 (by kernel_rfl) k47
theorem w47 : Lawful F47 := T.fn_lawful l47 t47
def p47_0 : AS := ⟨[I 0 1099511627776], []⟩
def q47_0 : List AS := [⟨[J, N 1 0 4607182418800017408 (some 0) (some 1099511627776), I 0 0], [(0, 1, 0), (1, 0, 0)]⟩]
set_option maxRecDepth 100000 in
def d47_0 : Cert := .op 0 [.op 0 [.seq [⟨[I 0 1099511627776, J, N 1 1 0 none none, N 1 0 4607182418800017408 none none], [(0, 3, 0), (3, 0, 0)]⟩] (.ite (.op 0 [.op 0 [.leaf (.at 0)]]) (.leaf (.at 0))) [.leaf (.at 0)]]]
set_option maxRecDepth 100000 in
theorem a47_0 : total S47 p47_0 q47_0 t47 d47_0 = true := by kernel_rfl
def x47 : List (AS × List AS) := [(p47_0, q47_0)]
theorem y47 : ∀ x ∈ x47, SumOk F47 x := all_cons (total_ok l47 z47 a47_0) (all_nil)
theorem n48 : Ents Try.prog gl0 (Es47 ++ [e47]) (Tb47 ++ [F47]) := Ents.snoc n47 rfl o47 rfl rfl
theorem l48 : ∀ G ∈ Tb47 ++ [F47], Lawful G := lawful_snoc l47 w47 rfl
theorem z48 : SumsOk (Tb47 ++ [F47]) (S47 ++ [x47]) := SumsOk.snoc z47 rfl y47 rfl rfl
/-- gimbal.more.Scale -/
def s48 : Sig := { args := [.c (.int (.u64) (.v 0)), .c (.int (.i64) (.v 1))], heap := [], npin := 0, np := 2, res := .tup [{ agg := false, cs := [.int (.u64) (.v 0)] }, { agg := false, cs := [.int (.u8) (.v 1)] }], out := [], nr := 2 }
def e48 : Ent := ⟨66, s48⟩
def Es48 : List Ent := [e0, e1, e2, e3, e4, e5, e6, e7, e8, e9, e10, e11, e12, e13, e14, e15, e16, e17, e18, e19, e20, e21, e22, e23, e24, e25, e26, e27, e28, e29, e30, e31, e32, e33, e34, e35, e36, e37, e38, e39, e40, e41, e42, e43, e44, e45, e46, e47]
def Tb48 : List PF := [F0, F1, F2, F3, F4, F5, F6, F7, F8, F9, F10, F11, F12, F13, F14, F15, F16, F17, F18, F19, F20, F21, F22, F23, F24, F25, F26, F27, F28, F29, F30, F31, F32, F33, F34, F35, F36, F37, F38, F39, F40, F41, F42, F43, F44, F45, F46, F47]
def S48 : Sums := [x0, x1, x2, x3, x4, x5, x6, x7, x8, x9, x10, x11, x12, x13, x14, x15, x16, x17, x18, x19, x20, x21, x22, x23, x24, x25, x26, x27, x28, x29, x30, x31, x32, x33, x34, x35, x36, x37, x38, x39, x40, x41, x42, x43, x44, x45, x46, x47]
set_option maxRecDepth 100000 in
def t48 : T := .op (.call 10) [.v 0] 1 (.seq (.op (.cmp .eql) [.v 2, .i 5] 1 (.ite (.v 3) (.op (.call 14) [.v 0] 1 (.ite (.v 4) (.ret [.i 9221120237041090560, .i 16]) (.ret [.i 9221120237041090560, .i 0]))) (.op (.cmp .eql) [.v 2, .i 4] 1 (.seq (.ite (.v 4) (.jump 0 [.v 0, .v 1, .b true]) (.op (.cmp .eql) [.v 2, .i 1] 1 (.jump 0 [.v 0, .v 1, .v 5]))) (.ite (.v 2) (.ret [.v 0, .i 0]) (.jump 0 [.v 0, .v 1])))))) (.op (.call 17) [.v 0] 2 (.op (.call 21) [.v 0] 1 (.op .mn [.v 1, .i 10000] 1 (.op .mx [.i (-10000), .v 5] 1 (.op (.bin .add .i64) [.v 3, .v 6] 1 (.op (.call 28) [.v 4, .i 0, .v 2, .v 7, .b false] 2 (.ret [.v 8, .v 9]))))))))
noncomputable def c48 : Cfg := ⟨Try.prog, gl0, Es48, s48.npin, Try.f66, s48, {}⟩
set_option maxRecDepth 100000 in
theorem k48 : compile c48 = .ok t48 := by kernel_rfl
def F48 : PF := t48.fn Tb48
theorem o48 : Contract Try.prog gl0 e48.f e48.sg F48 := compile_ok (c := c48) n48 l48 mo0 Try.func66 (by kernel_rfl) k48
theorem w48 : Lawful F48 := T.fn_lawful l48 t48
def p48_0 : AS := ⟨[U, Z], []⟩
def q48_0 : List AS := [⟨[J, J, U, I 0 16], []⟩]
set_option maxRecDepth 100000 in
def d48_0 : Cert := .op 0 [.seq [⟨[U, J, J, J], [(0, 2, 0), (2, 0, 0)]⟩] (.op 0 [.ite (.op 0 [.ite (.leaf (.at 0)) (.leaf (.at 0))]) (.op 0 [.seq [⟨[U, Z, J, J, B0], [(0, 2, 0), (2, 0, 0), (1, 3, 0), (3, 1, 0)]⟩] (.ite (.leaf (.at 0)) (.op 0 [.leaf (.split 7 (.at 0) (.at 0))])) [.ite (.leaf (.at 0)) (.leaf (.at 0))]])]) [.op 0 [.op 0 [.op 0 [.op 0 [.op 0 [.op 0 [.leaf (.at 0)]]]]]]]]
set_option maxRecDepth 100000 in
theorem a48_0 : total S48 p48_0 q48_0 t48 d48_0 = true := by kernel_rfl
def x48 : List (AS × List AS) := [(p48_0, q48_0)]
theorem y48 : ∀ x ∈ x48, SumOk F48 x := all_cons (total_ok l48 z48 a48_0) (all_nil)
theorem n49 : Ents Try.prog gl0 (Es48 ++ [e48]) (Tb48 ++ [F48]) := Ents.snoc n48 rfl o48 rfl rfl
theorem l49 : ∀ G ∈ Tb48 ++ [F48], Lawful G := lawful_snoc l48 w48 rfl
theorem z49 : SumsOk (Tb48 ++ [F48]) (S48 ++ [x48]) := SumsOk.snoc z48 rfl y48 rfl rfl
/-- gimbal.vec.Unit -/
def s49 : Sig := { args := [.c (.slc 0), .c (.int (.i64) (.v 1))], heap := [some (.list (.int (.u64)) 1 (.v 0) false)], npin := 0, np := 2, res := .c (.slc 1), out := [none, some (.list (.int (.u64)) 1 (.v 0) true)], nr := 1 }
def e49 : Ent := ⟨69, s49⟩
def Es49 : List Ent := [e0, e1, e2, e3, e4, e5, e6, e7, e8, e9, e10, e11, e12, e13, e14, e15, e16, e17, e18, e19, e20, e21, e22, e23, e24, e25, e26, e27, e28, e29, e30, e31, e32, e33, e34, e35, e36, e37, e38, e39, e40, e41, e42, e43, e44, e45, e46, e47, e48]
def Tb49 : List PF := [F0, F1, F2, F3, F4, F5, F6, F7, F8, F9, F10, F11, F12, F13, F14, F15, F16, F17, F18, F19, F20, F21, F22, F23, F24, F25, F26, F27, F28, F29, F30, F31, F32, F33, F34, F35, F36, F37, F38, F39, F40, F41, F42, F43, F44, F45, F46, F47, F48]
def S49 : Sums := [x0, x1, x2, x3, x4, x5, x6, x7, x8, x9, x10, x11, x12, x13, x14, x15, x16, x17, x18, x19, x20, x21, x22, x23, x24, x25, x26, x27, x28, x29, x30, x31, x32, x33, x34, x35, x36, x37, x38, x39, x40, x41, x42, x43, x44, x45, x46, x47, x48]
set_option maxRecDepth 100000 in
def t49 : T := .op .mn [.v 1, .i 20000] 1 (.op .mx [.i (-20000), .v 2] 1 (.op (.len 1) [.v 0] 1 (.seq (.loop [.v 3, .v 4, .i 0, .v 0, .nil] (.op (.cmp .lss) [.v 2, .v 1] 1 (.ite (.v 5) (.seq (.op (.chk 1) [.v 3, .v 2] 0 (.op (.get 1 0) [.v 3, .v 2] 1 (.op (.neg .i64) [.v 0] 1 (.op (.call 48) [.v 6, .v 7] 2 (.op .lit [.v 8] 1 (.op .app [.v 4, .v 10] 1 (.jump 0 [.v 0, .v 1, .v 2, .v 3, .v 11]))))))) (.op (.bin .add .i64) [.v 2, .i 1] 1 (.jump 0 [.v 0, .v 1, .v 5, .v 3, .v 4]))) (.jump 1 [.v 4])))) (.ret [.v 0]))))
noncomputable def c49 : Cfg := ⟨Try.prog, gl0, Es49, s49.npin, Try.f69, s49, {}⟩
set_option maxRecDepth 100000 in
theorem k49 : compile c49 = .ok t49 := by kernel_rfl
def F49 : PF := t49.fn Tb49
theorem o49 : Contract Try.prog gl0 e49.f e49.sg F49 := compile_ok (c := c49) n49 l49 mo0 Try.func69 (by kernel_rfl) k49
theorem w49 : Lawful F49 := T.fn_lawful l49 t49
def p49_0 : AS := ⟨[Y (some 0) (some 1099511627776), Z], []⟩
def q49_0 : List AS := [⟨[Y none none, J, Y (some 0) (some 1099511627776)], [(0, 2, 0), (2, 0, 0)]⟩]
set_option maxRecDepth 100000 in
def d49_0 : Cert := .op 0 [.op 0 [.op 0 [.seq [⟨[Y (some 0) (some 1099511627776), J, Y none none], [(0, 2, 0), (2, 0, 0)]⟩] (.loop ⟨[Y none (some 1099511627776), Z, I (-20000) 20000, J, I 0 1099511627776, Y none none, Y none none], [(0, 3, 0), (3, 0, 0), (4, 0, 0), (0, 5, 0), (5, 0, 0), (4, 6, 0), (6, 4, 0)]⟩ 2 true (.op 0 [.ite (.seq [⟨[Y none (some 1099511627776), Z, J, I (-20000) 20000, J, I 0 1099511627775, Y none none, Y none none], [(2, 0, -1), (2, 7, -1), (0, 4, 0), (4, 0, 0), (2, 5, 0), (5, 2, 0), (0, 6, 0), (6, 0, 0), (7, 2, 1)]⟩] (.op 0 [.op 0 [.op 0 [.op 0 [.op 1 [.op 1 [.leaf (.at 0)]]]]]]) [.op 0 [.leaf (.at 0)]]) (.leaf (.at 0))])) [.leaf (.at 0)]]]]
set_option maxRecDepth 100000 in
theorem a49_0 : total S49 p49_0 q49_0 t49 d49_0 = true := by kernel_rfl
def x49 : List (AS × List AS) := [(p49_0, q49_0)]
theorem y49 : ∀ x ∈ x49, SumOk F49 x := all_cons (total_ok l49 z49 a49_0) (all_nil)
theorem n50 : Ents Try.prog gl0 (Es49 ++ [e49]) (Tb49 ++ [F49]) := Ents.snoc n49 rfl o49 rfl rfl
theorem l50 : ∀ G ∈ Tb49 ++ [F49], Lawful G := lawful_snoc l49 w49 rfl
theorem z50 : SumsOk (Tb49 ++ [F49]) (S49 ++ [x49]) := SumsOk.snoc z49 rfl y49 rfl rfl
/-- (gimbal.wide.Wide).Cmp -/
def s50 : Sig := { args := [.agg [.int (.u64) (.v 0), .int (.u64) (.v 1)], .agg [.int (.u64) (.v 2), .int (.u64) (.v 3)]], heap := [], npin := 0, np := 4, res := .c (.int (.i64) (.v 0)), out := [], nr := 1 }
def e50 : Ent := ⟨95, s50⟩
def Es50 : List Ent := [e0, e1, e2, e3, e4, e5, e6, e7, e8, e9, e10, e11, e12, e13, e14, e15, e16, e17, e18, e19, e20, e21, e22, e23, e24, e25, e26, e27, e28, e29, e30, e31, e32, e33, e34, e35, e36, e37, e38, e39, e40, e41, e42, e43, e44, e45, e46, e47, e48, e49]
def Tb50 : List PF := [F0, F1, F2, F3, F4, F5, F6, F7, F8, F9, F10, F11, F12, F13, F14, F15, F16, F17, F18, F19, F20, F21, F22, F23, F24, F25, F26, F27, F28, F29, F30, F31, F32, F33, F34, F35, F36, F37, F38, F39, F40, F41, F42, F43, F44, F45, F46, F47, F48, F49]
def S50 : Sums := [x0, x1, x2, x3, x4, x5, x6, x7, x8, x9, x10, x11, x12, x13, x14, x15, x16, x17, x18, x19, x20, x21, x22, x23, x24, x25, x26, x27, x28, x29, x30, x31, x32, x33, x34, x35, x36, x37, x38, x39, x40, x41, x42, x43, x44, x45, x46, x47, x48, x49]
set_option maxRecDepth 100000 in
def t50 : T := .seq (.seq (.op (.cmp .lss) [.v 0, .v 2] 1 (.ite (.v 4) (.jump 0 [.b true, .v 0, .v 1, .v 2, .v 3]) (.op (.cmp .eql) [.v 0, .v 2] 1 (.ite (.v 5) (.op (.cmp .lss) [.v 1, .v 3] 1 (.jump 0 [.v 6, .v 0, .v 1, .v 2, .v 3])) (.jump 0 [.b false, .v 0, .v 1, .v 2, .v 3]))))) (.ite (.v 0) (.ret [.i (-1)]) (.op (.cmp .eql) [.v 1, .v 3] 1 (.op .band [.b true, .v 5] 1 (.op (.cmp .eql) [.v 2, .v 4] 1 (.op .band [.v 6, .v 7] 1 (.ite (.v 8) (.ret [.i 0]) (.jump 0 [])))))))) (.ret [.i 1])
noncomputable def c50 : Cfg := ⟨Try.prog, gl0, Es50, s50.npin, Try.f95, s50, {}⟩
set_option maxRecDepth 100000 in
theorem k50 : compile c50 = .ok t50 := by kernel_rfl
def F50 : PF := t50.fn Tb50
theorem o50 : Contract Try.prog gl0 e50.f e50.sg F50 := compile_ok (c := c50) n50 l50 mo0 Try.func95 (by kernel_rfl) k50
theorem w50 : Lawful F50 := T.fn_lawful l50 t50
def p50_0 : AS := ⟨[U, U, U, U], []⟩
def q50_0 : List AS := [⟨[J, J, J, J, I (-1) 1], []⟩]
set_option maxRecDepth 100000 in
def d50_0 : Cert := .seq [⟨[J, J, J, J], []⟩] (.seq [⟨[J, J, J, J, ⟨.bool, (some 1), none, .none⟩, J, J, J, J], []⟩, ⟨[H 18446744073709551615, U, K 0, U, ⟨.bool, none, (some 0), .none⟩, J, J, J, J], [(2, 0, 0)]⟩] (.op 0 [.ite (.leaf (.at 0)) (.op 0 [.ite (.op 0 [.leaf (.split 10 (.at 0) (.at 1))]) (.leaf (.at 1))])]) [.ite (.leaf (.at 0)) (.absurd 4 4 0), .ite (.absurd 4 4 0) (.op 0 [.op 0 [.op 0 [.op 0 [.ite (.leaf (.at 0)) (.leaf (.at 0))]]]])]) [.leaf (.at 0)]
set_option maxRecDepth 100000 in
theorem a50_0 : total S50 p50_0 q50_0 t50 d50_0 = true := by kernel_rfl
def x50 : List (AS × List AS) := [(p50_0, q50_0)]
theorem y50 : ∀ x ∈ x50, SumOk F50 x := all_cons (total_ok l50 z50 a50_0) (all_nil)
theorem n51 : Ents Try.prog gl0 (Es50 ++ [e50]) (Tb50 ++ [F50]) := Ents.snoc n50 rfl o50 rfl rfl
theorem l51 : ∀ G ∈ Tb50 ++ [F50], Lawful G := lawful_snoc l50 w50 rfl
theorem z51 : SumsOk (Tb50 ++ [F50]) (S50 ++ [x50]) := SumsOk.snoc z50 rfl y50 rfl rfl
end Ythkbmedkbacgmaa.Gp
end Go.Proofs

/- What the program's functions do, and that they end, part 5: made by a program of this session. -/
namespace Go.Proofs
open Go Gm
namespace Ythkbmedkbacgmaa.Gp
/-- (gimbal.wide.Wide).Sqrt -/
def s51 : Sig := { args := [.agg [.int (.u64) (.v 0), .int (.u64) (.v 1)]], heap := [], npin := 0, np := 2, res := .tup [{ agg := false, cs := [.int (.u64) (.v 0)] }, { agg := false, cs := [.bool (.v 1)] }], out := [], nr := 2 }
def e51 : Ent := ⟨86, s51⟩
def Es51 : List Ent := [e0, e1, e2, e3, e4, e5, e6, e7, e8, e9, e10, e11, e12, e13, e14, e15, e16, e17, e18, e19, e20, e21, e22, e23, e24, e25, e26, e27, e28, e29, e30, e31, e32, e33, e34, e35, e36, e37, e38, e39, e40, e41, e42, e43, e44, e45, e46, e47, e48, e49, e50]
def Tb51 : List PF := [F0, F1, F2, F3, F4, F5, F6, F7, F8, F9, F10, F11, F12, F13, F14, F15, F16, F17, F18, F19, F20, F21, F22, F23, F24, F25, F26, F27, F28, F29, F30, F31, F32, F33, F34, F35, F36, F37, F38, F39, F40, F41, F42, F43, F44, F45, F46, F47, F48, F49, F50]
def S51 : Sums := [x0, x1, x2, x3, x4, x5, x6, x7, x8, x9, x10, x11, x12, x13, x14, x15, x16, x17, x18, x19, x20, x21, x22, x23, x24, x25, x26, x27, x28, x29, x30, x31, x32, x33, x34, x35, x36, x37, x38, x39, x40, x41, x42, x43, x44, x45, x46, x47, x48, x49, x50]
set_option maxRecDepth 100000 in
def t51 : T := .seq (.loop [.i 0, .i 63, .v 0, .v 1] (.op (.cmp .geq) [.v 1, .i 0] 1 (.ite (.v 4) (.seq (.op (.bin .shl .u64) [.i 1, .v 1] 1 (.op (.bin .or .u64) [.v 0, .v 5] 1 (.op (.call 38) [.v 6, .v 6] 2 (.op (.call 50) [.v 7, .v 8, .v 2, .v 3] 1 (.op (.cmp .leq) [.v 9, .i 0] 1 (.seq (.ite (.v 10) (.jump 0 [.v 6, .v 1, .v 2, .v 3]) (.jump 0 [.v 0, .v 1, .v 2, .v 3])) (.jump 0 [.v 0, .v 1, .v 2, .v 3]))))))) (.op (.bin .sub .i64) [.v 1, .i 1] 1 (.jump 0 [.v 0, .v 4, .v 2, .v 3]))) (.jump 1 [.v 0, .v 2, .v 3])))) (.op (.call 38) [.v 0, .v 0] 2 (.op (.cmp .eql) [.v 3, .v 1] 1 (.op .band [.b true, .v 5] 1 (.op (.cmp .eql) [.v 4, .v 2] 1 (.op .band [.v 6, .v 7] 1 (.ret [.v 0, .v 8]))))))
noncomputable def c51 : Cfg := ⟨Try.prog, gl0, Es51, s51.npin, Try.f86, s51, {}⟩
set_option maxRecDepth 100000 in
theorem k51 : compile c51 = .ok t51 := by kernel_rfl
def F51 : PF := t51.fn Tb51
theorem o51 : Contract Try.prog gl0 e51.f e51.sg F51 := compile_ok (c := c51) n51 l51 mo0 Try.func86 (by kernel_rfl) k51
theorem w51 : Lawful F51 := T.fn_lawful l51 t51
def p51_0 : AS := ⟨[U, U], []⟩
def q51_0 : List AS := [⟨[J, J, U, B 0 1], []⟩]
set_option maxRecDepth 100000 in
def d51_0 : Cert := .seq [⟨[J, J, U, J, J], []⟩] (.loop ⟨[U, U, U, I (-1) 63, J, J], [(0, 4, 0), (4, 0, 0), (1, 5, 0), (5, 1, 0)]⟩ 1 false (.op 0 [.ite (.seq [⟨[U, U, J, U, I 0 63, J, J], [(2, 4, 0), (4, 2, 0), (0, 5, 0), (5, 0, 0), (1, 6, 0), (6, 1, 0)]⟩] (.op 0 [.op 0 [.op 0 [.op 0 [.op 0 [.seq [⟨[U, U, I 0 63, U, J, J, J], [(2, 4, 0), (4, 2, 0), (0, 5, 0), (5, 0, 0), (1, 6, 0), (6, 1, 0)]⟩] (.ite (.leaf (.at 0)) (.leaf (.at 0))) [.leaf (.at 0)]]]]]]) [.op 0 [.leaf (.at 0)]]) (.leaf (.at 0))])) [.op 0 [.op 0 [.op 0 [.op 0 [.op 0 [.leaf (.at 0)]]]]]]
set_option maxRecDepth 100000 in
theorem a51_0 : total S51 p51_0 q51_0 t51 d51_0 = true := by kernel_rfl
def x51 : List (AS × List AS) := [(p51_0, q51_0)]
theorem y51 : ∀ x ∈ x51, SumOk F51 x := all_cons (total_ok l51 z51 a51_0) (all_nil)
theorem n52 : Ents Try.prog gl0 (Es51 ++ [e51]) (Tb51 ++ [F51]) := Ents.snoc n51 rfl o51 rfl rfl
theorem l52 : ∀ G ∈ Tb51 ++ [F51], Lawful G := lawful_snoc l51 w51 rfl
theorem z52 : SumsOk (Tb51 ++ [F51]) (S51 ++ [x51]) := SumsOk.snoc z51 rfl y51 rfl rfl
/-- gimbal.more.Sqrt -/
def s52 : Sig := { args := [.c (.int (.u64) (.v 0))], heap := [], npin := 0, np := 1, res := .tup [{ agg := false, cs := [.int (.u64) (.v 0)] }, { agg := false, cs := [.int (.u8) (.v 1)] }], out := [], nr := 2 }
def e52 : Ent := ⟨65, s52⟩
def Es52 : List Ent := [e0, e1, e2, e3, e4, e5, e6, e7, e8, e9, e10, e11, e12, e13, e14, e15, e16, e17, e18, e19, e20, e21, e22, e23, e24, e25, e26, e27, e28, e29, e30, e31, e32, e33, e34, e35, e36, e37, e38, e39, e40, e41, e42, e43, e44, e45, e46, e47, e48, e49, e50, e51]
def Tb52 : List PF := [F0, F1, F2, F3, F4, F5, F6, F7, F8, F9, F10, F11, F12, F13, F14, F15, F16, F17, F18, F19, F20, F21, F22, F23, F24, F25, F26, F27, F28, F29, F30, F31, F32, F33, F34, F35, F36, F37, F38, F39, F40, F41, F42, F43, F44, F45, F46, F47, F48, F49, F50, F51]
def S52 : Sums := [x0, x1, x2, x3, x4, x5, x6, x7, x8, x9, x10, x11, x12, x13, x14, x15, x16, x17, x18, x19, x20, x21, x22, x23, x24, x25, x26, x27, x28, x29, x30, x31, x32, x33, x34, x35, x36, x37, x38, x39, x40, x41, x42, x43, x44, x45, x46, x47, x48, x49, x50, x51]
set_option maxRecDepth 100000 in
def t52 : T := .seq (.op (.call 10) [.v 0] 1 (.op (.cmp .eql) [.v 1, .i 5] 1 (.ite (.v 2) (.op (.call 14) [.v 0] 1 (.ite (.v 3) (.ret [.i 9221120237041090560, .i 16]) (.ret [.i 9221120237041090560, .i 0]))) (.seq (.op (.call 10) [.v 0] 1 (.op (.cmp .eql) [.v 3, .i 1] 1 (.ite (.v 4) (.jump 0 [.v 0, .b true]) (.op (.cmp .eql) [.v 0, .i 9218868437227405312] 1 (.jump 0 [.v 0, .v 5]))))) (.ite (.v 1) (.ret [.v 0, .i 0]) (.op (.call 21) [.v 0] 1 (.ite (.v 2) (.ret [.i 9221120237041090560, .i 16]) (.jump 0 [.v 0])))))))) (.op (.call 17) [.v 0] 2 (.op (.call 25) [.v 1] 1 (.op (.bin .sub .i64) [.i 127, .v 3] 1 (.op (.bin .sub .i64) [.v 2, .v 4] 1 (.op (.bin .and .i64) [.v 5, .i 1] 1 (.op (.cmp .neq) [.v 6, .i 0] 1 (.seq (.ite (.v 7) (.op (.bin .sub .i64) [.v 4, .i 1] 1 (.jump 0 [.v 1, .v 2, .v 8])) (.jump 0 [.v 1, .v 2, .v 4])) (.op (.call 18) [.i 0, .v 0, .v 2] 2 (.op (.call 51) [.v 3, .v 4] 2 (.op (.bin .sub .i64) [.v 1, .v 2] 1 (.op (.bin .quo .i64) [.v 7, .i 2] 1 (.op .bnot [.v 6] 1 (.op (.call 28) [.b false, .i 0, .v 5, .v 8, .v 9] 2 (.ret [.v 10, .v 11]))))))))))))))
noncomputable def c52 : Cfg := ⟨Try.prog, gl0, Es52, s52.npin, Try.f65, s52, {}⟩
set_option maxRecDepth 100000 in
theorem k52 : compile c52 = .ok t52 := by kernel_rfl
def F52 : PF := t52.fn Tb52
theorem o52 : Contract Try.prog gl0 e52.f e52.sg F52 := compile_ok (c := c52) n52 l52 mo0 Try.func65 (by kernel_rfl) k52
theorem w52 : Lawful F52 := T.fn_lawful l52 t52
def p52_0 : AS := ⟨[U], []⟩
def q52_0 : List AS := [⟨[J, U, I 0 16], []⟩]
set_option maxRecDepth 100000 in
def d52_0 : Cert := .seq [⟨[U, J], [(0, 1, 0), (1, 0, 0)]⟩] (.op 0 [.op 0 [.ite (.op 0 [.ite (.leaf (.at 0)) (.leaf (.at 0))]) (.seq [⟨[U, J, B0], [(0, 1, 0), (1, 0, 0)]⟩] (.op 0 [.op 0 [.ite (.leaf (.at 0)) (.op 0 [.leaf (.split 6 (.at 0) (.at 0))])]]) [.ite (.leaf (.at 0)) (.op 0 [.ite (.leaf (.at 0)) (.leaf (.at 0))])])]]) [.op 0 [.op 0 [.op 0 [.op 0 [.op 0 [.op 0 [.seq [⟨[J, I 0 9007199254740991, J, I 73 127], []⟩] (.ite (.op 0 [.leaf (.at 0)]) (.leaf (.at 0))) [.op 0 [.op 0 [.op 0 [.op 0 [.op 0 [.op 0 [.leaf (.at 0)]]]]]]]]]]]]]]
set_option maxRecDepth 100000 in
theorem a52_0 : total S52 p52_0 q52_0 t52 d52_0 = true := by kernel_rfl
def x52 : List (AS × List AS) := [(p52_0, q52_0)]
theorem y52 : ∀ x ∈ x52, SumOk F52 x := all_cons (total_ok l52 z52 a52_0) (all_nil)
theorem n53 : Ents Try.prog gl0 (Es52 ++ [e52]) (Tb52 ++ [F52]) := Ents.snoc n52 rfl o52 rfl rfl
theorem l53 : ∀ G ∈ Tb52 ++ [F52], Lawful G := lawful_snoc l52 w52 rfl
theorem z53 : SumsOk (Tb52 ++ [F52]) (S52 ++ [x52]) := SumsOk.snoc z52 rfl y52 rfl rfl
/-- (gimbal.soft.Calc).Note -/
def s53 : Sig := { args := [.c (.nilp), .c (.int (.u64) (.v 0)), .c (.int (.u8) (.v 1))], heap := [], npin := 0, np := 2, res := .c (.int (.u64) (.v 0)), out := [], nr := 1 }
def e53 : Ent := ⟨64, s53⟩
def Es53 : List Ent := [e0, e1, e2, e3, e4, e5, e6, e7, e8, e9, e10, e11, e12, e13, e14, e15, e16, e17, e18, e19, e20, e21, e22, e23, e24, e25, e26, e27, e28, e29, e30, e31, e32, e33, e34, e35, e36, e37, e38, e39, e40, e41, e42, e43, e44, e45, e46, e47, e48, e49, e50, e51, e52]
def Tb53 : List PF := [F0, F1, F2, F3, F4, F5, F6, F7, F8, F9, F10, F11, F12, F13, F14, F15, F16, F17, F18, F19, F20, F21, F22, F23, F24, F25, F26, F27, F28, F29, F30, F31, F32, F33, F34, F35, F36, F37, F38, F39, F40, F41, F42, F43, F44, F45, F46, F47, F48, F49, F50, F51, F52]
def S53 : Sums := [x0, x1, x2, x3, x4, x5, x6, x7, x8, x9, x10, x11, x12, x13, x14, x15, x16, x17, x18, x19, x20, x21, x22, x23, x24, x25, x26, x27, x28, x29, x30, x31, x32, x33, x34, x35, x36, x37, x38, x39, x40, x41, x42, x43, x44, x45, x46, x47, x48, x49, x50, x51, x52]
set_option maxRecDepth 100000 in
def t53 : T := .op (.call 33) [.v 0, .v 1] 1 (.ret [.v 2])
noncomputable def c53 : Cfg := ⟨Try.prog, gl0, Es53, s53.npin, Try.f64, s53, {}⟩
set_option maxRecDepth 100000 in
theorem k53 : compile c53 = .ok t53 := by kernel_rfl
def F53 : PF := t53.fn Tb53
theorem o53 : Contract Try.prog gl0 e53.f e53.sg F53 := compile_ok (c := c53) n53 l53 mo0 Try.func64 (by kernel_rfl) k53
theorem w53 : Lawful F53 := T.fn_lawful l53 t53
def p53_0 : AS := ⟨[U, I 0 255], []⟩
def q53_0 : List AS := [⟨[J, J, U], [(0, 2, 0), (2, 0, 0)]⟩]
set_option maxRecDepth 100000 in
def d53_0 : Cert := .op 0 [.leaf (.at 0)]
set_option maxRecDepth 100000 in
theorem a53_0 : total S53 p53_0 q53_0 t53 d53_0 = true := by kernel_rfl
def x53 : List (AS × List AS) := [(p53_0, q53_0)]
theorem y53 : ∀ x ∈ x53, SumOk F53 x := all_cons (total_ok l53 z53 a53_0) (all_nil)
theorem n54 : Ents Try.prog gl0 (Es53 ++ [e53]) (Tb53 ++ [F53]) := Ents.snoc n53 rfl o53 rfl rfl
theorem l54 : ∀ G ∈ Tb53 ++ [F53], Lawful G := lawful_snoc l53 w53 rfl
theorem z54 : SumsOk (Tb53 ++ [F53]) (S53 ++ [x53]) := SumsOk.snoc z53 rfl y53 rfl rfl
/-- (gimbal.soft.Calc).Note -/
def s54 : Sig := { args := [.c (.ptr 0 0), .c (.int (.u64) (.v 1)), .c (.int (.u8) (.v 2))], heap := [some (.cells [.int (.u8) (.v 0)])], npin := 1, np := 3, res := .c (.int (.u64) (.v 0)), out := [some (.cells [.int (.u8) (.v 1)])], nr := 2 }
def e54 : Ent := ⟨64, s54⟩
def Es54 : List Ent := [e0, e1, e2, e3, e4, e5, e6, e7, e8, e9, e10, e11, e12, e13, e14, e15, e16, e17, e18, e19, e20, e21, e22, e23, e24, e25, e26, e27, e28, e29, e30, e31, e32, e33, e34, e35, e36, e37, e38, e39, e40, e41, e42, e43, e44, e45, e46, e47, e48, e49, e50, e51, e52, e53]
def Tb54 : List PF := [F0, F1, F2, F3, F4, F5, F6, F7, F8, F9, F10, F11, F12, F13, F14, F15, F16, F17, F18, F19, F20, F21, F22, F23, F24, F25, F26, F27, F28, F29, F30, F31, F32, F33, F34, F35, F36, F37, F38, F39, F40, F41, F42, F43, F44, F45, F46, F47, F48, F49, F50, F51, F52, F53]
def S54 : Sums := [x0, x1, x2, x3, x4, x5, x6, x7, x8, x9, x10, x11, x12, x13, x14, x15, x16, x17, x18, x19, x20, x21, x22, x23, x24, x25, x26, x27, x28, x29, x30, x31, x32, x33, x34, x35, x36, x37, x38, x39, x40, x41, x42, x43, x44, x45, x46, x47, x48, x49, x50, x51, x52, x53]
set_option maxRecDepth 100000 in
def t54 : T := .op (.call 34) [.v 0, .v 1, .v 2] 2 (.ret [.v 3, .v 4])
noncomputable def c54 : Cfg := ⟨Try.prog, gl0, Es54, s54.npin, Try.f64, s54, {}⟩
set_option maxRecDepth 100000 in
theorem k54 : compile c54 = .ok t54 := by kernel_rfl
def F54 : PF := t54.fn Tb54
theorem o54 : Contract Try.prog gl0 e54.f e54.sg F54 := compile_ok (c := c54) n54 l54 mo0 Try.func64 (by kernel_rfl) k54
theorem w54 : Lawful F54 := T.fn_lawful l54 t54
def p54_0 : AS := ⟨[I 0 255, U, I 0 255], []⟩
def q54_0 : List AS := [⟨[J, J, J, U, I 0 255], [(1, 3, 0), (3, 1, 0)]⟩]
set_option maxRecDepth 100000 in
def d54_0 : Cert := .op 0 [.leaf (.at 0)]
set_option maxRecDepth 100000 in
theorem a54_0 : total S54 p54_0 q54_0 t54 d54_0 = true := by kernel_rfl
def x54 : List (AS × List AS) := [(p54_0, q54_0)]
theorem y54 : ∀ x ∈ x54, SumOk F54 x := all_cons (total_ok l54 z54 a54_0) (all_nil)
theorem n55 : Ents Try.prog gl0 (Es54 ++ [e54]) (Tb54 ++ [F54]) := Ents.snoc n54 rfl o54 rfl rfl
theorem l55 : ∀ G ∈ Tb54 ++ [F54], Lawful G := lawful_snoc l54 w54 rfl
theorem z55 : SumsOk (Tb54 ++ [F54]) (S54 ++ [x54]) := SumsOk.snoc z54 rfl y54 rfl rfl
/-- gimbal.vec.Nrm2 -/
def s55 : Sig := { args := [.c (.nilp), .c (.slc 0)], heap := [some (.list (.int (.u64)) 1 (.v 0) false)], npin := 0, np := 1, res := .c (.int (.u64) (.v 0)), out := [none], nr := 1 }
def e55 : Ent := ⟨70, s55⟩
def Es55 : List Ent := [e0, e1, e2, e3, e4, e5, e6, e7, e8, e9, e10, e11, e12, e13, e14, e15, e16, e17, e18, e19, e20, e21, e22, e23, e24, e25, e26, e27, e28, e29, e30, e31, e32, e33, e34, e35, e36, e37, e38, e39, e40, e41, e42, e43, e44, e45, e46, e47, e48, e49, e50, e51, e52, e53, e54]
def Tb55 : List PF := [F0, F1, F2, F3, F4, F5, F6, F7, F8, F9, F10, F11, F12, F13, F14, F15, F16, F17, F18, F19, F20, F21, F22, F23, F24, F25, F26, F27, F28, F29, F30, F31, F32, F33, F34, F35, F36, F37, F38, F39, F40, F41, F42, F43, F44, F45, F46, F47, F48, F49, F50, F51, F52, F53, F54]
def S55 : Sums := [x0, x1, x2, x3, x4, x5, x6, x7, x8, x9, x10, x11, x12, x13, x14, x15, x16, x17, x18, x19, x20, x21, x22, x23, x24, x25, x26, x27, x28, x29, x30, x31, x32, x33, x34, x35, x36, x37, x38, x39, x40, x41, x42, x43, x44, x45, x46, x47, x48, x49, x50, x51, x52, x53, x54]
set_option maxRecDepth 100000 in
def t55 : T := .op (.call 46) [.v 0] 2 (.op .bnot [.v 2] 1 (.ite (.v 3) (.op (.call 45) [.v 0] 2 (.ret [.v 4])) (.op (.call 49) [.v 0, .v 1] 1 (.op (.len 1) [.v 4] 1 (.seq (.loop [.v 1, .i 0, .v 5, .i 0, .i 0, .v 4] (.op (.cmp .lss) [.v 3, .v 2] 1 (.ite (.v 6) (.seq (.op (.chk 1) [.v 5, .v 3] 0 (.op (.get 1 0) [.v 5, .v 3] 1 (.op (.call 41) [.v 4, .v 7, .v 7] 2 (.op (.call 43) [.v 9, .v 1, .v 8] 2 (.jump 0 [.v 0, .v 10, .v 2, .v 3, .v 11, .v 5]))))) (.op (.bin .add .i64) [.v 3, .i 1] 1 (.jump 0 [.v 0, .v 1, .v 2, .v 6, .v 4, .v 5]))) (.jump 1 [.v 0, .v 1, .v 4])))) (.op (.call 52) [.v 1] 2 (.op (.call 48) [.v 3, .v 0] 2 (.op (.bin .and .u8) [.i 1, .v 2] 1 (.op (.bin .or .u8) [.v 6, .v 7] 1 (.op (.call 53) [.v 5, .v 8] 1 (.ret [.v 9])))))))))))
noncomputable def c55 : Cfg := ⟨Try.prog, gl0, Es55, s55.npin, Try.f70, s55, {}⟩
set_option maxRecDepth 100000 in
theorem k55 : compile c55 = .ok t55 := by kernel_rfl
def F55 : PF := t55.fn Tb55
theorem o55 : Contract Try.prog gl0 e55.f e55.sg F55 := compile_ok (c := c55) n55 l55 mo0 Try.func70 (by kernel_rfl) k55
theorem w55 : Lawful F55 := T.fn_lawful l55 t55
def p55_0 : AS := ⟨[Y (some 0) (some 1099511627776)], []⟩
def q55_0 : List AS := [⟨[Y none none, U], []⟩]
set_option maxRecDepth 100000 in
def d55_0 : Cert := .op 0 [.op 0 [.ite (.op 0 [.leaf (.at 0)]) (.op 0 [.op 0 [.seq [⟨[Y none none, Z, U, J], []⟩] (.loop ⟨[Y (some 0) (some 1099511627776), Z, U, J, I 0 1099511627776, I 0 255, Y none none], [(0, 3, 0), (3, 0, 0), (0, 6, 0), (6, 0, 0)]⟩ 3 true (.op 0 [.ite (.seq [⟨[Y none (some 1099511627776), J, Z, U, J, I 0 1099511627775, I 0 255, Y none none], [(1, 0, -1), (0, 4, 0), (4, 0, 0), (1, 5, 0), (5, 1, 0), (0, 7, 0), (7, 0, 0)]⟩] (.op 0 [.op 0 [.op 0 [.op 0 [.leaf (.at 0)]]]]) [.op 0 [.leaf (.at 0)]]) (.leaf (.at 0))])) [.op 0 [.op 0 [.op 0 [.op 0 [.op 0 [.leaf (.at 0)]]]]]]]])]]
set_option maxRecDepth 100000 in
theorem a55_0 : total S55 p55_0 q55_0 t55 d55_0 = true := by kernel_rfl
def x55 : List (AS × List AS) := [(p55_0, q55_0)]
theorem y55 : ∀ x ∈ x55, SumOk F55 x := all_cons (total_ok l55 z55 a55_0) (all_nil)
theorem n56 : Ents Try.prog gl0 (Es55 ++ [e55]) (Tb55 ++ [F55]) := Ents.snoc n55 rfl o55 rfl rfl
theorem l56 : ∀ G ∈ Tb55 ++ [F55], Lawful G := lawful_snoc l55 w55 rfl
theorem z56 : SumsOk (Tb55 ++ [F55]) (S55 ++ [x55]) := SumsOk.snoc z55 rfl y55 rfl rfl
/-- gimbal.vec.Nrm2 -/
def s56 : Sig := { args := [.c (.ptr 0 0), .c (.slc 1)], heap := [some (.cells [.int (.u8) (.v 0)]), some (.list (.int (.u64)) 1 (.v 1) false)], npin := 1, np := 2, res := .c (.int (.u64) (.v 0)), out := [some (.cells [.int (.u8) (.v 1)]), none], nr := 2 }
def e56 : Ent := ⟨70, s56⟩
def Es56 : List Ent := [e0, e1, e2, e3, e4, e5, e6, e7, e8, e9, e10, e11, e12, e13, e14, e15, e16, e17, e18, e19, e20, e21, e22, e23, e24, e25, e26, e27, e28, e29, e30, e31, e32, e33, e34, e35, e36, e37, e38, e39, e40, e41, e42, e43, e44, e45, e46, e47, e48, e49, e50, e51, e52, e53, e54, e55]
def Tb56 : List PF := [F0, F1, F2, F3, F4, F5, F6, F7, F8, F9, F10, F11, F12, F13, F14, F15, F16, F17, F18, F19, F20, F21, F22, F23, F24, F25, F26, F27, F28, F29, F30, F31, F32, F33, F34, F35, F36, F37, F38, F39, F40, F41, F42, F43, F44, F45, F46, F47, F48, F49, F50, F51, F52, F53, F54, F55]
def S56 : Sums := [x0, x1, x2, x3, x4, x5, x6, x7, x8, x9, x10, x11, x12, x13, x14, x15, x16, x17, x18, x19, x20, x21, x22, x23, x24, x25, x26, x27, x28, x29, x30, x31, x32, x33, x34, x35, x36, x37, x38, x39, x40, x41, x42, x43, x44, x45, x46, x47, x48, x49, x50, x51, x52, x53, x54, x55]
set_option maxRecDepth 100000 in
def t56 : T := .op (.call 46) [.v 1] 2 (.op .bnot [.v 3] 1 (.ite (.v 4) (.op (.call 45) [.v 1] 2 (.ret [.v 5, .v 0])) (.op (.call 49) [.v 1, .v 2] 1 (.op (.len 1) [.v 5] 1 (.seq (.loop [.v 2, .i 0, .v 6, .i 0, .v 0, .i 0, .v 5] (.op (.cmp .lss) [.v 3, .v 2] 1 (.ite (.v 7) (.seq (.op (.chk 1) [.v 6, .v 3] 0 (.op (.get 1 0) [.v 6, .v 3] 1 (.op (.call 41) [.v 5, .v 8, .v 8] 2 (.op (.call 43) [.v 10, .v 1, .v 9] 2 (.jump 0 [.v 0, .v 11, .v 2, .v 3, .v 4, .v 12, .v 6]))))) (.op (.bin .add .i64) [.v 3, .i 1] 1 (.jump 0 [.v 0, .v 1, .v 2, .v 7, .v 4, .v 5, .v 6]))) (.jump 1 [.v 0, .v 1, .v 4, .v 5])))) (.op (.call 52) [.v 1] 2 (.op (.call 48) [.v 4, .v 0] 2 (.op (.bin .and .u8) [.i 1, .v 3] 1 (.op (.bin .or .u8) [.v 7, .v 8] 1 (.op (.call 54) [.v 2, .v 6, .v 9] 2 (.ret [.v 10, .v 11])))))))))))
noncomputable def c56 : Cfg := ⟨Try.prog, gl0, Es56, s56.npin, Try.f70, s56, {}⟩
set_option maxRecDepth 100000 in
theorem k56 : compile c56 = .ok t56 := by kernel_rfl
def F56 : PF := t56.fn Tb56
theorem o56 : Contract Try.prog gl0 e56.f e56.sg F56 := compile_ok (c := c56) n56 l56 mo0 Try.func70 (by kernel_rfl) k56
theorem w56 : Lawful F56 := T.fn_lawful l56 t56
def p56_0 : AS := ⟨[I 0 255, Y (some 0) (some 1099511627776)], []⟩
def q56_0 : List AS := [⟨[J, Y none none, U, I 0 255], []⟩]
set_option maxRecDepth 100000 in
def d56_0 : Cert := .op 0 [.op 0 [.ite (.op 0 [.leaf (.at 0)]) (.op 0 [.op 0 [.seq [⟨[I 0 255, Y none none, Z, U, J, J], [(0, 4, 0), (4, 0, 0)]⟩] (.loop ⟨[I 0 255, Y (some 0) (some 1099511627776), Z, U, J, I 0 1099511627776, J, I 0 255, Y none none], [(1, 4, 0), (4, 1, 0), (0, 6, 0), (6, 0, 0), (1, 8, 0), (8, 1, 0)]⟩ 3 true (.op 0 [.ite (.seq [⟨[I 0 255, Y none (some 1099511627776), J, Z, U, J, I 0 1099511627775, J, I 0 255, Y none none], [(2, 1, -1), (1, 5, 0), (5, 1, 0), (2, 6, 0), (6, 2, 0), (0, 7, 0), (7, 0, 0), (1, 9, 0), (9, 1, 0)]⟩] (.op 0 [.op 0 [.op 0 [.op 0 [.leaf (.at 0)]]]]) [.op 0 [.leaf (.at 0)]]) (.leaf (.at 0))])) [.op 0 [.op 0 [.op 0 [.op 0 [.op 0 [.leaf (.at 0)]]]]]]]])]]
set_option maxRecDepth 100000 in
theorem a56_0 : total S56 p56_0 q56_0 t56 d56_0 = true := by kernel_rfl
def x56 : List (AS × List AS) := [(p56_0, q56_0)]
theorem y56 : ∀ x ∈ x56, SumOk F56 x := all_cons (total_ok l56 z56 a56_0) (all_nil)
theorem n57 : Ents Try.prog gl0 (Es56 ++ [e56]) (Tb56 ++ [F56]) := Ents.snoc n56 rfl o56 rfl rfl
theorem l57 : ∀ G ∈ Tb56 ++ [F56], Lawful G := lawful_snoc l56 w56 rfl
theorem z57 : SumsOk (Tb56 ++ [F56]) (S56 ++ [x56]) := SumsOk.snoc z56 rfl y56 rfl rfl
/-- math.bits.LeadingZeros64 -/
def s57 : Sig := { args := [.c (.int (.u64) (.v 0))], heap := [], npin := 0, np := 1, res := .c (.int (.i64) (.v 0)), out := [], nr := 1 }
def e57 : Ent := ⟨98, s57⟩
def Es57 : List Ent := [e0, e1, e2, e3, e4, e5, e6, e7, e8, e9, e10, e11, e12, e13, e14, e15, e16, e17, e18, e19, e20, e21, e22, e23, e24, e25, e26, e27, e28, e29, e30, e31, e32, e33, e34, e35, e36, e37, e38, e39, e40, e41, e42, e43, e44, e45, e46, e47, e48, e49, e50, e51, e52, e53, e54, e55, e56]
def Tb57 : List PF := [F0, F1, F2, F3, F4, F5, F6, F7, F8, F9, F10, F11, F12, F13, F14, F15, F16, F17, F18, F19, F20, F21, F22, F23, F24, F25, F26, F27, F28, F29, F30, F31, F32, F33, F34, F35, F36, F37, F38, F39, F40, F41, F42, F43, F44, F45, F46, F47, F48, F49, F50, F51, F52, F53, F54, F55, F56]
def S57 : Sums := [x0, x1, x2, x3, x4, x5, x6, x7, x8, x9, x10, x11, x12, x13, x14, x15, x16, x17, x18, x19, x20, x21, x22, x23, x24, x25, x26, x27, x28, x29, x30, x31, x32, x33, x34, x35, x36, x37, x38, x39, x40, x41, x42, x43, x44, x45, x46, x47, x48, x49, x50, x51, x52, x53, x54, x55, x56]
set_option maxRecDepth 100000 in
def t57 : T := .op (.call 25) [.v 0] 1 (.op (.bin .sub .i64) [.i 64, .v 1] 1 (.ret [.v 2]))
noncomputable def c57 : Cfg := ⟨Try.prog, gl0, Es57, s57.npin, Try.f98, s57, {}⟩
set_option maxRecDepth 100000 in
theorem k57 : compile c57 = .ok t57 := by kernel_rfl
def F57 : PF := t57.fn Tb57
theorem o57 : Contract Try.prog gl0 e57.f e57.sg F57 := compile_ok (c := c57) n57 l57 mo0 Try.func98 (by kernel_rfl) k57
theorem w57 : Lawful F57 := T.fn_lawful l57 t57
def p57_0 : AS := ⟨[U], []⟩
def q57_0 : List AS := [⟨[J, I 0 64], []⟩]
set_option maxRecDepth 100000 in
def d57_0 : Cert := .op 1 [.op 0 [.leaf (.at 0)]]
set_option maxRecDepth 100000 in
theorem a57_0 : total S57 p57_0 q57_0 t57 d57_0 = true := by kernel_rfl
def x57 : List (AS × List AS) := [(p57_0, q57_0)]
theorem y57 : ∀ x ∈ x57, SumOk F57 x := all_cons (total_ok l57 z57 a57_0) (all_nil)
theorem n58 : Ents Try.prog gl0 (Es57 ++ [e57]) (Tb57 ++ [F57]) := Ents.snoc n57 rfl o57 rfl rfl
theorem l58 : ∀ G ∈ Tb57 ++ [F57], Lawful G := lawful_snoc l57 w57 rfl
theorem z58 : SumsOk (Tb57 ++ [F57]) (S57 ++ [x57]) := SumsOk.snoc z57 rfl y57 rfl rfl
/-- math.bits.Div64 -/
def s58 : Sig := { args := [.c (.int (.u64) (.v 0)), .c (.int (.u64) (.v 1)), .c (.int (.u64) (.v 2))], heap := [], npin := 0, np := 3, res := .tup [{ agg := false, cs := [.int (.u64) (.v 0)] }, { agg := false, cs := [.int (.u64) (.v 1)] }], out := [], nr := 2 }
def e58 : Ent := ⟨97, s58⟩
def Es58 : List Ent := [e0, e1, e2, e3, e4, e5, e6, e7, e8, e9, e10, e11, e12, e13, e14, e15, e16, e17, e18, e19, e20, e21, e22, e23, e24, e25, e26, e27, e28, e29, e30, e31, e32, e33, e34, e35, e36, e37, e38, e39, e40, e41, e42, e43, e44, e45, e46, e47, e48, e49, e50, e51, e52, e53, e54, e55, e56, e57]
def Tb58 : List PF := [F0, F1, F2, F3, F4, F5, F6, F7, F8, F9, F10, F11, F12, F13, F14, F15, F16, F17, F18, F19, F20, F21, F22, F23, F24, F25, F26, F27, F28, F29, F30, F31, F32, F33, F34, F35, F36, F37, F38, F39, F40, F41, F42, F43, F44, F45, F46, F47, F48, F49, F50, F51, F52, F53, F54, F55, F56, F57]
def S58 : Sums := [x0, x1, x2, x3, x4, x5, x6, x7, x8, x9, x10, x11, x12, x13, x14, x15, x16, x17, x18, x19, x20, x21, x22, x23, x24, x25, x26, x27, x28, x29, x30, x31, x32, x33, x34, x35, x36, x37, x38, x39, x40, x41, x42, x43, x44, x45, x46, x47, x48, x49, x50, x51, x52, x53, x54, x55, x56, x57]
set_option maxRecDepth 100000 in
def t58 : T := .op (.cmp .eql) [.v 2, .i 0] 1 (.seq (.ite (.v 3) (.fail) (.jump 0 [.v 0, .v 1, .v 2])) (.op (.cmp .leq) [.v 2, .v 0] 1 (.seq (.ite (.v 3) (.fail) (.jump 0 [.v 0, .v 1, .v 2])) (.op (.cmp .eql) [.v 0, .i 0] 1 (.ite (.v 3) (.op (.bin .quo .u64) [.v 1, .v 2] 1 (.op (.bin .rem .u64) [.v 1, .v 2] 1 (.ret [.v 4, .v 5]))) (.op (.call 57) [.v 2] 1 (.op (.conv .u64) [.v 4] 1 (.op (.bin .shl .u64) [.v 2, .v 5] 1 (.op (.bin .shr .u64) [.v 6, .i 32] 1 (.op (.bin .and .u64) [.v 6, .i 4294967295] 1 (.op (.bin .shl .u64) [.v 0, .v 5] 1 (.op (.bin .sub .u64) [.i 64, .v 5] 1 (.op (.bin .shr .u64) [.v 1, .v 10] 1 (.op (.bin .or .u64) [.v 9, .v 11] 1 (.op (.bin .shl .u64) [.v 1, .v 5] 1 (.op (.bin .shr .u64) [.v 13, .i 32] 1 (.op (.bin .and .u64) [.v 13, .i 4294967295] 1 (.op (.bin .quo .u64) [.v 12, .v 7] 1 (.op (.bin .mul .u64) [.v 16, .v 7] 1 (.op (.bin .sub .u64) [.v 12, .v 17] 1 (.seq (.loop [.v 6, .v 5, .v 7, .v 8, .v 12, .v 14, .v 15, .v 16, .v 18] (.seq (.op (.cmp .geq) [.v 7, .i 4294967296] 1 (.ite (.v 9) (.jump 0 [.v 0, .v 1, .v 2, .v 3, .v 4, .v 5, .v 6, .v 7, .v 8, .b true]) (.op (.bin .mul .u64) [.v 7, .v 3] 1 (.op (.bin .mul .u64) [.i 4294967296, .v 8] 1 (.op (.bin .add .u64) [.v 11, .v 5] 1 (.op (.cmp .gtr) [.v 10, .v 12] 1 (.jump 0 [.v 0, .v 1, .v 2, .v 3, .v 4, .v 5, .v 6, .v 7, .v 8, .v 13]))))))) (.ite (.v 9) (.seq (.op (.bin .sub .u64) [.v 7, .i 1] 1 (.op (.bin .add .u64) [.v 8, .v 2] 1 (.op (.cmp .geq) [.v 11, .i 4294967296] 1 (.ite (.v 12) (.jump 2 [.v 0, .v 1, .v 2, .v 3, .v 4, .v 5, .v 6, .v 10]) (.jump 0 [.v 0, .v 1, .v 2, .v 3, .v 4, .v 5, .v 6, .v 10, .v 11]))))) (.jump 0 [.v 0, .v 1, .v 2, .v 3, .v 4, .v 5, .v 6, .v 7, .v 8])) (.jump 1 [.v 0, .v 1, .v 2, .v 3, .v 4, .v 5, .v 6, .v 7])))) (.op (.bin .mul .u64) [.v 4, .i 4294967296] 1 (.op (.bin .add .u64) [.v 8, .v 5] 1 (.op (.bin .mul .u64) [.v 7, .v 0] 1 (.op (.bin .sub .u64) [.v 9, .v 10] 1 (.op (.bin .quo .u64) [.v 11, .v 2] 1 (.op (.bin .mul .u64) [.v 12, .v 2] 1 (.op (.bin .sub .u64) [.v 11, .v 13] 1 (.seq (.loop [.v 0, .v 1, .v 2, .v 3, .v 6, .v 7, .v 14, .v 11, .v 12] (.seq (.op (.cmp .geq) [.v 8, .i 4294967296] 1 (.ite (.v 9) (.jump 0 [.v 0, .v 1, .v 2, .v 3, .v 4, .v 5, .v 6, .v 7, .v 8, .b true]) (.op (.bin .mul .u64) [.v 8, .v 3] 1 (.op (.bin .mul .u64) [.i 4294967296, .v 6] 1 (.op (.bin .add .u64) [.v 11, .v 4] 1 (.op (.cmp .gtr) [.v 10, .v 12] 1 (.jump 0 [.v 0, .v 1, .v 2, .v 3, .v 4, .v 5, .v 6, .v 7, .v 8, .v 13]))))))) (.ite (.v 9) (.seq (.op (.bin .sub .u64) [.v 8, .i 1] 1 (.op (.bin .add .u64) [.v 6, .v 2] 1 (.op (.cmp .geq) [.v 11, .i 4294967296] 1 (.ite (.v 12) (.jump 2 [.v 0, .v 1, .v 4, .v 5, .v 7, .v 10]) (.jump 0 [.v 0, .v 1, .v 2, .v 3, .v 4, .v 5, .v 11, .v 7, .v 10]))))) (.jump 0 [.v 0, .v 1, .v 2, .v 3, .v 4, .v 5, .v 6, .v 7, .v 8])) (.jump 1 [.v 0, .v 1, .v 4, .v 5, .v 7, .v 8])))) (.op (.bin .mul .u64) [.v 3, .i 4294967296] 1 (.op (.bin .add .u64) [.v 6, .v 5] 1 (.op (.bin .mul .u64) [.v 4, .i 4294967296] 1 (.op (.bin .add .u64) [.v 8, .v 2] 1 (.op (.bin .mul .u64) [.v 5, .v 0] 1 (.op (.bin .sub .u64) [.v 9, .v 10] 1 (.op (.bin .shr .u64) [.v 11, .v 1] 1 (.ret [.v 7, .v 12])))))))))))))))))))))))))))))))))))))
noncomputable def c58 : Cfg := ⟨Try.prog, gl0, Es58, s58.npin, Try.f97, s58, {}⟩
set_option maxRecDepth 100000 in
theorem k58 : compile c58 = .ok t58 := by kernel_rfl
def F58 : PF := t58.fn Tb58
theorem o58 : Contract Try.prog gl0 e58.f e58.sg F58 := compile_ok (c := c58) n58 l58 mo0 Try.func97 (by kernel_rfl) k58
theorem w58 : Lawful F58 := T.fn_lawful l58 t58
def x58 : List (AS × List AS) := []
theorem y58 : ∀ x ∈ x58, SumOk F58 x := all_nil
theorem n59 : Ents Try.prog gl0 (Es58 ++ [e58]) (Tb58 ++ [F58]) := Ents.snoc n58 rfl o58 rfl rfl
theorem l59 : ∀ G ∈ Tb58 ++ [F58], Lawful G := lawful_snoc l58 w58 rfl
theorem z59 : SumsOk (Tb58 ++ [F58]) (S58 ++ [x58]) := SumsOk.snoc z58 rfl y58 rfl rfl
/-- (gimbal.wide.Wide).Div -/
def s59 : Sig := { args := [.agg [.int (.u64) (.v 0), .int (.u64) (.v 1)], .c (.int (.u64) (.v 2))], heap := [], npin := 0, np := 3, res := .tup [{ agg := false, cs := [.int (.u64) (.v 0)] }, { agg := false, cs := [.int (.u64) (.v 1)] }, { agg := false, cs := [.bool (.v 2)] }], out := [], nr := 3 }
def e59 : Ent := ⟨96, s59⟩
def Es59 : List Ent := [e0, e1, e2, e3, e4, e5, e6, e7, e8, e9, e10, e11, e12, e13, e14, e15, e16, e17, e18, e19, e20, e21, e22, e23, e24, e25, e26, e27, e28, e29, e30, e31, e32, e33, e34, e35, e36, e37, e38, e39, e40, e41, e42, e43, e44, e45, e46, e47, e48, e49, e50, e51, e52, e53, e54, e55, e56, e57, e58]
def Tb59 : List PF := [F0, F1, F2, F3, F4, F5, F6, F7, F8, F9, F10, F11, F12, F13, F14, F15, F16, F17, F18, F19, F20, F21, F22, F23, F24, F25, F26, F27, F28, F29, F30, F31, F32, F33, F34, F35, F36, F37, F38, F39, F40, F41, F42, F43, F44, F45, F46, F47, F48, F49, F50, F51, F52, F53, F54, F55, F56, F57, F58]
def S59 : Sums := [x0, x1, x2, x3, x4, x5, x6, x7, x8, x9, x10, x11, x12, x13, x14, x15, x16, x17, x18, x19, x20, x21, x22, x23, x24, x25, x26, x27, x28, x29, x30, x31, x32, x33, x34, x35, x36, x37, x38, x39, x40, x41, x42, x43, x44, x45, x46, x47, x48, x49, x50, x51, x52, x53, x54, x55, x56, x57, x58]
set_option maxRecDepth 100000 in
def t59 : T := .op (.cmp .geq) [.v 0, .v 2] 1 (.ite (.v 3) (.ret [.i 0, .i 0, .b false]) (.op (.call 58) [.v 0, .v 1, .v 2] 2 (.ret [.v 4, .v 5, .b true])))
noncomputable def c59 : Cfg := ⟨Try.prog, gl0, Es59, s59.npin, Try.f96, s59, {}⟩
set_option maxRecDepth 100000 in
theorem k59 : compile c59 = .ok t59 := by kernel_rfl
def F59 : PF := t59.fn Tb59
theorem o59 : Contract Try.prog gl0 e59.f e59.sg F59 := compile_ok (c := c59) n59 l59 mo0 Try.func96 (by kernel_rfl) k59
theorem w59 : Lawful F59 := T.fn_lawful l59 t59
def x59 : List (AS × List AS) := []
theorem y59 : ∀ x ∈ x59, SumOk F59 x := all_nil
theorem n60 : Ents Try.prog gl0 (Es59 ++ [e59]) (Tb59 ++ [F59]) := Ents.snoc n59 rfl o59 rfl rfl
theorem l60 : ∀ G ∈ Tb59 ++ [F59], Lawful G := lawful_snoc l59 w59 rfl
theorem z60 : SumsOk (Tb59 ++ [F59]) (S59 ++ [x59]) := SumsOk.snoc z59 rfl y59 rfl rfl
end Ythkbmedkbacgmaa.Gp
end Go.Proofs

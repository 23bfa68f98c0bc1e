/- What the program's functions do, as pure functions, and that they end: made by a program of this session. -/
import Derived.Test.YtjbacabjgdfmdaaGreatDoorChecked
import Derived.Test.YtjbacabjgdfmdaaGreatDoorK9
import Derived.Test.YtjbacabjgdfmdaaGreatDoorK8
import Derived.KernelRfl
namespace Go.Proofs
open Go Gm
namespace YtjbacabjgdfmdaaGreatDoor.Gp
def gl0 : Nat → Option (CK × List Int) := fun g => match g with | 0 => some (.int .i64, [1, 0, 0, 0, 2, 0, 3, 0, 4, 5]) | 1 => some (.int .u8, [0, 1, 28, 2, 29, 14, 24, 3, 30, 22, 20, 15, 25, 17, 4, 8, 31, 27, 13, 23, 21, 19, 16, 7, 26, 12, 18, 6, 11, 5, 10, 9]) | _ => none
theorem mo0 : Tryz.prog.follows .mixedOrders = true := by kernel_rfl
theorem n0 : Ents Tryz.prog gl0 [] [] := Ents.nil
theorem l0 : ∀ G ∈ ([] : List PF), Lawful G := fun _ h => (by cases h)
theorem z0 : SumsOk [] [] := SumsOk.nil
/-- gimbal.mat.New -/
def s0 : Sig := { args := [.c (.int (.i64) (.v 0)), .c (.int (.i64) (.v 1))], heap := [], npin := 0, np := 2, res := .agg [.int (.i64) (.v 0), .int (.i64) (.v 1), .int (.i64) (.v 2), .slc 0], out := [some (.list (.int (.u64)) 1 (.v 3) true)], nr := 4 }
def e0 : Ent := ⟨45, s0⟩
def Es0 : List Ent := []
def Tb0 : List PF := []
def S0 : Sums := []
set_option maxRecDepth 100000 in
def t0 : T := .seq (.op (.cmp .lss) [.v 0, .i 0] 1 (.ite (.v 2) (.jump 0 [.v 0, .v 1, .b true, .i 0, .i 0, .i 0, .nil]) (.op (.cmp .lss) [.v 1, .i 0] 1 (.ite (.v 3) (.jump 0 [.v 0, .v 1, .b true, .i 0, .i 0, .i 0, .nil]) (.op (.cmp .gtr) [.v 0, .i 4096] 1 (.ite (.v 4) (.jump 0 [.v 0, .v 1, .b true, .i 0, .i 0, .i 0, .nil]) (.op (.cmp .gtr) [.v 1, .i 4096] 1 (.jump 0 [.v 0, .v 1, .v 5, .i 0, .i 0, .i 0, .nil])))))))) (.ite (.v 2) (.ret [.i 0, .i 0, .i 0, .nil]) (.op (.bin .mul .i64) [.v 0, .v 1] 1 (.op (.mk 1) [.v 7, .v 7] 1 (.ret [.v 0, .v 1, .v 1, .v 8]))))
noncomputable def c0 : Cfg := ⟨Tryz.prog, gl0, Es0, s0.npin, Tryz.f45, s0, {}⟩
set_option maxRecDepth 100000 in
theorem k0 : compile c0 = .ok t0 := by kernel_rfl
def F0 : PF := t0.fn Tb0
set_option maxRecDepth 100000 in
theorem o0 : Contract Tryz.prog gl0 e0.f e0.sg F0 := compile_ok (c := c0) n0 l0 mo0 Tryz.func45 (by kernel_rfl) k0
theorem w0 : Lawful F0 := T.fn_lawful l0 t0
def p0_0 : AS := ⟨[I 0 4096, I 0 4096], []⟩
def q0_0 : List AS := [⟨[J, J, I 0 4096, I 0 4096, I 0 4096, N 1 0 0 (some 0) (some 16777216)], [(0, 2, 0), (2, 0, 0), (1, 3, 0), (3, 1, 0), (1, 4, 0), (4, 1, 0)]⟩]
set_option maxRecDepth 100000 in
def d0_0 : Cert := .seq [⟨[J, J, I 0 4096, I 0 4096, ⟨.bool, none, (some 0), .none⟩, J, J, J, N 1 1 0 none none], [(0, 2, 0), (2, 0, 0), (1, 3, 0), (3, 1, 0)]⟩] (.op 0 [.ite (.absurd 2 2 0) (.op 0 [.ite (.absurd 3 3 0) (.op 0 [.ite (.absurd 2 2 0) (.op 0 [.leaf (.split 7 (.no 3 3 0) (.at 0))])])])]) [.ite (.absurd 4 4 0) (.op 0 [.op 0 [.leaf (.at 0)]])]
set_option maxRecDepth 100000 in
theorem a0_0 : total S0 p0_0 q0_0 t0 d0_0 = true := by kernel_rfl
def p0_1 : AS := ⟨[Z, Z], []⟩
def q0_1 : List AS := [⟨[J, J, I 0 4096, I 0 4096, I 0 4096, N 1 0 0 (some 0) (some 16777216)], []⟩]
set_option maxRecDepth 100000 in
def d0_1 : Cert := .seq [⟨[J, J, J, J, ⟨.bool, (some 1), none, .none⟩, J, J, J, N 1 1 0 none none], []⟩, ⟨[J, J, I 0 4096, I 0 4096, ⟨.bool, none, (some 0), .none⟩, J, J, J, N 1 1 0 none none], []⟩] (.op 0 [.ite (.leaf (.at 0)) (.op 0 [.ite (.leaf (.at 0)) (.op 0 [.ite (.leaf (.at 0)) (.op 0 [.leaf (.split 7 (.at 0) (.at 1))])])])]) [.ite (.leaf (.at 0)) (.absurd 4 4 0), .ite (.absurd 4 4 0) (.op 0 [.op 0 [.leaf (.at 0)]])]
set_option maxRecDepth 100000 in
theorem a0_1 : total S0 p0_1 q0_1 t0 d0_1 = true := by kernel_rfl
def x0 : List (AS × List AS) := [(p0_0, q0_0), (p0_1, q0_1)]
theorem y0 : ∀ x ∈ x0, SumOk F0 x := all_cons (total_ok l0 z0 a0_0) (all_cons (total_ok l0 z0 a0_1) (all_nil))
set_option maxRecDepth 100000 in
theorem n1 : Ents Tryz.prog gl0 (Es0 ++ [e0]) (Tb0 ++ [F0]) := Ents.snoc n0 rfl o0 rfl rfl
theorem l1 : ∀ G ∈ Tb0 ++ [F0], Lawful G := lawful_snoc l0 w0 rfl
theorem z1 : SumsOk (Tb0 ++ [F0]) (S0 ++ [x0]) := SumsOk.snoc z0 rfl y0 rfl rfl
/-- (gimbal.mat.Matrix).in -/
def s1 : Sig := { args := [.agg [.int (.i64) (.v 0), .int (.i64) (.v 1), .int (.i64) (.v 2), .slc 0], .c (.int (.i64) (.v 4)), .c (.int (.i64) (.v 5))], heap := [some (.list (.int (.u64)) 1 (.v 3) false)], npin := 0, np := 6, res := .c (.bool (.v 0)), out := [none], nr := 1 }
def e1 : Ent := ⟨81, s1⟩
def Es1 : List Ent := [e0]
def Tb1 : List PF := [F0]
def S1 : Sums := [x0]
set_option maxRecDepth 100000 in
def t1 : T := .seq (.op (.cmp .geq) [.v 4, .i 0] 1 (.ite (.v 6) (.op (.cmp .lss) [.v 4, .v 0] 1 (.ite (.v 7) (.op (.cmp .geq) [.v 5, .i 0] 1 (.ite (.v 8) (.op (.cmp .lss) [.v 5, .v 1] 1 (.ite (.v 9) (.op (.cmp .geq) [.v 2, .i 0] 1 (.ite (.v 10) (.op (.bin .mul .i64) [.v 4, .v 2] 1 (.op (.bin .add .i64) [.v 11, .v 5] 1 (.op (.len 1) [.v 3] 1 (.op (.cmp .lss) [.v 12, .v 13] 1 (.jump 0 [.v 14]))))) (.jump 0 [.b false]))) (.jump 0 [.b false]))) (.jump 0 [.b false]))) (.jump 0 [.b false]))) (.jump 0 [.b false]))) (.ret [.v 0])
noncomputable def c1 : Cfg := ⟨Tryz.prog, gl0, Es1, s1.npin, Tryz.f81, s1, {}⟩
set_option maxRecDepth 100000 in
theorem k1 : compile c1 = .ok t1 := by kernel_rfl
def F1 : PF := t1.fn Tb1
set_option maxRecDepth 100000 in
theorem o1 : Contract Tryz.prog gl0 e1.f e1.sg F1 := compile_ok (c := c1) n1 l1 mo0 Tryz.func81 (by kernel_rfl) k1
theorem w1 : Lawful F1 := T.fn_lawful l1 t1
def p1_0 : AS := ⟨[I 0 4096, I 0 4096, I 0 1099511627776, Y (some 0) (some 1099511627776), Z, Z], []⟩
def q1_0 : List AS := [⟨[J, J, J, Y none none, J, J, B 0 1], []⟩]
set_option maxRecDepth 100000 in
def d1_0 : Cert := .seq [⟨[J, J, J, Y none none, J, J, B 1 1], []⟩, ⟨[J, J, J, Y none none, J, J, B 0 0], []⟩] (.op 0 [.ite (.op 0 [.ite (.op 0 [.ite (.op 0 [.ite (.op 0 [.ite (.op 0 [.op 0 [.op 0 [.op 0 [.leaf (.split 20 (.at 0) (.at 1))]]]]) (.absurd 8 8 0)]) (.leaf (.at 1))]) (.leaf (.at 1))]) (.leaf (.at 1))]) (.leaf (.at 1))]) [.leaf (.at 0), .leaf (.at 0)]
set_option maxRecDepth 100000 in
theorem a1_0 : total S1 p1_0 q1_0 t1 d1_0 = true := by kernel_rfl
def x1 : List (AS × List AS) := [(p1_0, q1_0)]
theorem y1 : ∀ x ∈ x1, SumOk F1 x := all_cons (total_ok l1 z1 a1_0) (all_nil)
set_option maxRecDepth 100000 in
theorem n2 : Ents Tryz.prog gl0 (Es1 ++ [e1]) (Tb1 ++ [F1]) := Ents.snoc n1 rfl o1 rfl rfl
theorem l2 : ∀ G ∈ Tb1 ++ [F1], Lawful G := lawful_snoc l1 w1 rfl
theorem z2 : SumsOk (Tb1 ++ [F1]) (S1 ++ [x1]) := SumsOk.snoc z1 rfl y1 rfl rfl
/-- (gimbal.mat.Matrix).Set -/
def s2 : Sig := { args := [.agg [.int (.i64) (.v 0), .int (.i64) (.v 1), .int (.i64) (.v 2), .slc 0], .c (.int (.i64) (.v 4)), .c (.int (.i64) (.v 5)), .c (.int (.u64) (.v 6))], heap := [some (.list (.int (.u64)) 1 (.v 3) true)], npin := 1, np := 7, res := .tup [], out := [some (.list (.int (.u64)) 1 (.v 0) true)], nr := 1 }
def e2 : Ent := ⟨63, s2⟩
def Es2 : List Ent := [e0, e1]
def Tb2 : List PF := [F0, F1]
def S2 : Sums := [x0, x1]
set_option maxRecDepth 100000 in
def t2 : T := .op (.call 1) [.v 0, .v 1, .v 2, .v 3, .v 4, .v 5] 1 (.seq (.ite (.v 7) (.op (.bin .mul .i64) [.v 4, .v 2] 1 (.op (.bin .add .i64) [.v 8, .v 5] 1 (.op (.chk 1) [.v 3, .v 9] 0 (.op (.set 1 0) [.v 3, .v 9, .v 6] 1 (.jump 0 [.v 10]))))) (.jump 0 [.v 3])) (.ret [.v 0]))
noncomputable def c2 : Cfg := ⟨Tryz.prog, gl0, Es2, s2.npin, Tryz.f63, s2, {}⟩
set_option maxRecDepth 100000 in
theorem k2 : compile c2 = .ok t2 := by kernel_rfl
def F2 : PF := t2.fn Tb2
set_option maxRecDepth 100000 in
theorem o2 : Contract Tryz.prog gl0 e2.f e2.sg F2 := compile_ok (c := c2) n2 l2 mo0 Tryz.func63 (by kernel_rfl) k2
theorem w2 : Lawful F2 := T.fn_lawful l2 t2
def x2 : List (AS × List AS) := [(setP, [setQ])]
theorem y2 : ∀ x ∈ x2, SumOk F2 x := all_cons (set_ok (n := 1) (tb' := Tb1) rfl) all_nil
set_option maxRecDepth 100000 in
theorem n3 : Ents Tryz.prog gl0 (Es2 ++ [e2]) (Tb2 ++ [F2]) := Ents.snoc n2 rfl o2 rfl rfl
theorem l3 : ∀ G ∈ Tb2 ++ [F2], Lawful G := lawful_snoc l2 w2 rfl
theorem z3 : SumsOk (Tb2 ++ [F2]) (S2 ++ [x2]) := SumsOk.snoc z2 rfl y2 rfl rfl
/-- gimbal.word.Flip -/
def s3 : Sig := { args := [.c (.int (.u64) (.v 0))], heap := [], npin := 0, np := 1, res := .c (.int (.u64) (.v 0)), out := [], nr := 1 }
def e3 : Ent := ⟨30, s3⟩
def Es3 : List Ent := [e0, e1, e2]
def Tb3 : List PF := [F0, F1, F2]
def S3 : Sums := [x0, x1, x2]
set_option maxRecDepth 100000 in
def t3 : T := .op (.bin .xor .u64) [.v 0, .i 9223372036854775808] 1 (.ret [.v 1])
noncomputable def c3 : Cfg := ⟨Tryz.prog, gl0, Es3, s3.npin, Tryz.f30, s3, {}⟩
set_option maxRecDepth 100000 in
theorem k3 : compile c3 = .ok t3 := by kernel_rfl
def F3 : PF := t3.fn Tb3
set_option maxRecDepth 100000 in
theorem o3 : Contract Tryz.prog gl0 e3.f e3.sg F3 := compile_ok (c := c3) n3 l3 mo0 Tryz.func30 (by kernel_rfl) k3
theorem w3 : Lawful F3 := T.fn_lawful l3 t3
def x3 : List (AS × List AS) := []
theorem y3 : ∀ x ∈ x3, SumOk F3 x := all_nil
set_option maxRecDepth 100000 in
theorem n4 : Ents Tryz.prog gl0 (Es3 ++ [e3]) (Tb3 ++ [F3]) := Ents.snoc n3 rfl o3 rfl rfl
theorem l4 : ∀ G ∈ Tb3 ++ [F3], Lawful G := lawful_snoc l3 w3 rfl
theorem z4 : SumsOk (Tb3 ++ [F3]) (S3 ++ [x3]) := SumsOk.snoc z3 rfl y3 rfl rfl
/-- (gimbal.mat.Matrix).Check -/
def s4 : Sig := { args := [.agg [.int (.i64) (.v 0), .int (.i64) (.v 1), .int (.i64) (.v 2), .slc 0]], heap := [some (.list (.int (.u64)) 1 (.v 3) false)], npin := 0, np := 4, res := .c (.int (.i64) (.v 0)), out := [none], nr := 1 }
def e4 : Ent := ⟨55, s4⟩
def Es4 : List Ent := [e0, e1, e2, e3]
def Tb4 : List PF := [F0, F1, F2, F3]
def S4 : Sums := [x0, x1, x2, x3]
set_option maxRecDepth 100000 in
def t4 : T := .seq (.seq (.op (.cmp .lss) [.v 0, .i 0] 1 (.ite (.v 4) (.jump 0 [.b true, .v 3, .v 0, .v 1, .v 2]) (.op (.cmp .gtr) [.v 0, .i 4096] 1 (.ite (.v 5) (.jump 0 [.b true, .v 3, .v 0, .v 1, .v 2]) (.op (.cmp .lss) [.v 1, .i 0] 1 (.ite (.v 6) (.jump 0 [.b true, .v 3, .v 0, .v 1, .v 2]) (.op (.cmp .gtr) [.v 1, .i 4096] 1 (.ite (.v 7) (.jump 0 [.b true, .v 3, .v 0, .v 1, .v 2]) (.op (.cmp .lss) [.v 2, .v 1] 1 (.ite (.v 8) (.jump 0 [.b true, .v 3, .v 0, .v 1, .v 2]) (.op (.cmp .gtr) [.v 2, .i 1099511627776] 1 (.jump 0 [.v 9, .v 3, .v 0, .v 1, .v 2])))))))))))) (.ite (.v 0) (.ret [.i 4]) (.seq (.op (.cmp .eql) [.v 2, .i 0] 1 (.ite (.v 5) (.jump 0 [.b true, .v 1, .v 2, .v 3, .v 4]) (.op (.cmp .eql) [.v 3, .i 0] 1 (.jump 0 [.v 6, .v 1, .v 2, .v 3, .v 4])))) (.ite (.v 0) (.ret [.i 0]) (.op (.bin .sub .i64) [.v 2, .i 1] 1 (.op (.bin .mul .i64) [.v 5, .v 4] 1 (.op (.bin .add .i64) [.v 6, .v 3] 1 (.op (.len 1) [.v 1] 1 (.op (.cmp .gtr) [.v 7, .v 8] 1 (.ite (.v 9) (.ret [.i 4]) (.jump 0 []))))))))))) (.ret [.i 0])
noncomputable def c4 : Cfg := ⟨Tryz.prog, gl0, Es4, s4.npin, Tryz.f55, s4, {}⟩
set_option maxRecDepth 100000 in
theorem k4 : compile c4 = .ok t4 := by kernel_rfl
def F4 : PF := t4.fn Tb4
set_option maxRecDepth 100000 in
theorem o4 : Contract Tryz.prog gl0 e4.f e4.sg F4 := compile_ok (c := c4) n4 l4 mo0 Tryz.func55 (by kernel_rfl) k4
theorem w4 : Lawful F4 := T.fn_lawful l4 t4
def p4_0 : AS := ⟨[I 0 4096, I 0 4096, I (-3) (-3), Y (some 0) (some 1099511627776)], []⟩
def q4_0 : List AS := [⟨[J, J, J, Y none none, I 4 4], []⟩]
set_option maxRecDepth 100000 in
def d4_0 : Cert := .seq [] (.seq [⟨[J, J, J, Y none none, ⟨.bool, (some 1), none, .none⟩, Y none none, J, J, J], []⟩] (.op 0 [.ite (.absurd 4 4 0) (.op 0 [.ite (.absurd 4 4 0) (.op 0 [.ite (.absurd 5 5 0) (.op 0 [.ite (.absurd 5 5 0) (.op 0 [.ite (.leaf (.at 0)) (.absurd 5 5 0)])])])])]) [.ite (.leaf (.at 0)) (.absurd 4 4 0)]) []
set_option maxRecDepth 100000 in
theorem a4_0 : total S4 p4_0 q4_0 t4 d4_0 = true := by kernel_rfl
def p4_1 : AS := ⟨[I 0 4096, I 0 4096, I 0 1099511627776, Y (some 0) (some 1099511627776)], []⟩
def q4_1 : List AS := [⟨[J, J, J, Y none none, I 0 4], []⟩]
set_option maxRecDepth 100000 in
def d4_1 : Cert := .seq [⟨[J, J, J, Y none none], []⟩] (.seq [⟨[J, J, J, Y none none, ⟨.bool, (some 1), none, .none⟩, Y none none, J, J, J], []⟩, ⟨[I 0 4096, I 0 4096, H 1099511627776, Y none (some 1099511627776), ⟨.bool, none, (some 0), .none⟩, Y none none, J, J, J], [(1, 2, 0), (5, 3, 0), (0, 6, 0), (6, 0, 0), (1, 7, 0), (7, 1, 0), (2, 8, 0), (8, 2, 0)]⟩] (.op 0 [.ite (.absurd 4 4 0) (.op 0 [.ite (.absurd 4 4 0) (.op 0 [.ite (.absurd 5 5 0) (.op 0 [.ite (.absurd 5 5 0) (.op 0 [.ite (.leaf (.at 0)) (.op 0 [.leaf (.split 13 (.no 6 6 0) (.at 1))])])])])])]) [.ite (.leaf (.at 0)) (.absurd 4 4 0), .ite (.absurd 4 4 0) (.seq [⟨[J, J, J, Y none none, ⟨.bool, (some 1), none, .none⟩, Y none none, J, J, J], []⟩, ⟨[K 1, J, J, Y none (some 1099511627776), ⟨.bool, none, (some 0), .none⟩, Y none none, H 4096, I 1 4096, I 0 1099511627776], [(1, 2, 0), (5, 3, 0), (0, 6, 0), (1, 7, 0), (7, 1, 0), (2, 8, 0)]⟩] (.op 0 [.ite (.leaf (.at 0)) (.op 0 [.leaf (.split 10 (.at 0) (.at 1))])]) [.ite (.leaf (.at 0)) (.absurd 4 4 0), .ite (.absurd 4 4 0) (.op 0 [.op 0 [.op 0 [.op 0 [.op 0 [.ite (.leaf (.at 0)) (.leaf (.at 0))]]]]])])]) [.leaf (.at 0)]
set_option maxRecDepth 100000 in
theorem a4_1 : total S4 p4_1 q4_1 t4 d4_1 = true := by kernel_rfl
def x4 : List (AS × List AS) := [(p4_0, q4_0), (p4_1, q4_1)]
theorem y4 : ∀ x ∈ x4, SumOk F4 x := all_cons (total_ok l4 z4 a4_0) (all_cons (total_ok l4 z4 a4_1) (all_nil))
set_option maxRecDepth 100000 in
theorem n5 : Ents Tryz.prog gl0 (Es4 ++ [e4]) (Tb4 ++ [F4]) := Ents.snoc n4 rfl o4 rfl rfl
theorem l5 : ∀ G ∈ Tb4 ++ [F4], Lawful G := lawful_snoc l4 w4 rfl
theorem z5 : SumsOk (Tb4 ++ [F4]) (S4 ++ [x4]) := SumsOk.snoc z4 rfl y4 rfl rfl
/-- (gimbal.mat.Matrix).At -/
def s5 : Sig := { args := [.agg [.int (.i64) (.v 0), .int (.i64) (.v 1), .int (.i64) (.v 2), .slc 0], .c (.int (.i64) (.v 4)), .c (.int (.i64) (.v 5))], heap := [some (.list (.int (.u64)) 1 (.v 3) false)], npin := 0, np := 6, res := .c (.int (.u64) (.v 0)), out := [none], nr := 1 }
def e5 : Ent := ⟨27, s5⟩
def Es5 : List Ent := [e0, e1, e2, e3, e4]
def Tb5 : List PF := [F0, F1, F2, F3, F4]
def S5 : Sums := [x0, x1, x2, x3, x4]
set_option maxRecDepth 100000 in
def t5 : T := .op (.call 1) [.v 0, .v 1, .v 2, .v 3, .v 4, .v 5] 1 (.op .bnot [.v 6] 1 (.ite (.v 7) (.ret [.i 9221120237041090560]) (.op (.bin .mul .i64) [.v 4, .v 2] 1 (.op (.bin .add .i64) [.v 8, .v 5] 1 (.op (.chk 1) [.v 3, .v 9] 0 (.op (.get 1 0) [.v 3, .v 9] 1 (.ret [.v 10])))))))
noncomputable def c5 : Cfg := ⟨Tryz.prog, gl0, Es5, s5.npin, Tryz.f27, s5, {}⟩
set_option maxRecDepth 100000 in
theorem k5 : compile c5 = .ok t5 := by kernel_rfl
def F5 : PF := t5.fn Tb5
set_option maxRecDepth 100000 in
theorem o5 : Contract Tryz.prog gl0 e5.f e5.sg F5 := compile_ok (c := c5) n5 l5 mo0 Tryz.func27 (by kernel_rfl) k5
theorem w5 : Lawful F5 := T.fn_lawful l5 t5
def x5 : List (AS × List AS) := [(matP, [atQ])]
theorem y5 : ∀ x ∈ x5, SumOk F5 x := all_cons (at_ok (n := 1) (tb' := Tb1) rfl) all_nil
set_option maxRecDepth 100000 in
theorem n6 : Ents Tryz.prog gl0 (Es5 ++ [e5]) (Tb5 ++ [F5]) := Ents.snoc n5 rfl o5 rfl rfl
theorem l6 : ∀ G ∈ Tb5 ++ [F5], Lawful G := lawful_snoc l5 w5 rfl
theorem z6 : SumsOk (Tb5 ++ [F5]) (S5 ++ [x5]) := SumsOk.snoc z5 rfl y5 rfl rfl
/-- gimbal.word.Exp -/
def s6 : Sig := { args := [.c (.int (.u64) (.v 0))], heap := [], npin := 0, np := 1, res := .c (.int (.i64) (.v 0)), out := [], nr := 1 }
def e6 : Ent := ⟨114, s6⟩
def Es6 : List Ent := [e0, e1, e2, e3, e4, e5]
def Tb6 : List PF := [F0, F1, F2, F3, F4, F5]
def S6 : Sums := [x0, x1, x2, x3, x4, x5]
set_option maxRecDepth 100000 in
def t6 : T := .op (.bin .shr .u64) [.v 0, .i 52] 1 (.op (.bin .and .u64) [.v 1, .i 2047] 1 (.op (.conv .i64) [.v 2] 1 (.ret [.v 3])))
noncomputable def c6 : Cfg := ⟨Tryz.prog, gl0, Es6, s6.npin, Tryz.f114, s6, {}⟩
set_option maxRecDepth 100000 in
theorem k6 : compile c6 = .ok t6 := by kernel_rfl
def F6 : PF := t6.fn Tb6
set_option maxRecDepth 100000 in
theorem o6 : Contract Tryz.prog gl0 e6.f e6.sg F6 := compile_ok (c := c6) n6 l6 mo0 Tryz.func114 (by kernel_rfl) k6
theorem w6 : Lawful F6 := T.fn_lawful l6 t6
def p6_0 : AS := ⟨[U], []⟩
def q6_0 : List AS := [⟨[J, I 0 2047], [(1, 0, 0)]⟩]
set_option maxRecDepth 100000 in
def d6_0 : Cert := .op 0 [.op 0 [.op 0 [.leaf (.at 0)]]]
set_option maxRecDepth 100000 in
theorem a6_0 : total S6 p6_0 q6_0 t6 d6_0 = true := by kernel_rfl
def x6 : List (AS × List AS) := [(p6_0, q6_0)]
theorem y6 : ∀ x ∈ x6, SumOk F6 x := all_cons (total_ok l6 z6 a6_0) (all_nil)
set_option maxRecDepth 100000 in
theorem n7 : Ents Tryz.prog gl0 (Es6 ++ [e6]) (Tb6 ++ [F6]) := Ents.snoc n6 rfl o6 rfl rfl
theorem l7 : ∀ G ∈ Tb6 ++ [F6], Lawful G := lawful_snoc l6 w6 rfl
theorem z7 : SumsOk (Tb6 ++ [F6]) (S6 ++ [x6]) := SumsOk.snoc z6 rfl y6 rfl rfl
/-- gimbal.word.Finite -/
def s7 : Sig := { args := [.c (.int (.u64) (.v 0))], heap := [], npin := 0, np := 1, res := .c (.bool (.v 0)), out := [], nr := 1 }
def e7 : Ent := ⟨60, s7⟩
def Es7 : List Ent := [e0, e1, e2, e3, e4, e5, e6]
def Tb7 : List PF := [F0, F1, F2, F3, F4, F5, F6]
def S7 : Sums := [x0, x1, x2, x3, x4, x5, x6]
set_option maxRecDepth 100000 in
def t7 : T := .op (.call 6) [.v 0] 1 (.op (.cmp .lss) [.v 1, .i 2047] 1 (.ret [.v 2]))
noncomputable def c7 : Cfg := ⟨Tryz.prog, gl0, Es7, s7.npin, Tryz.f60, s7, {}⟩
set_option maxRecDepth 100000 in
theorem k7 : compile c7 = .ok t7 := by kernel_rfl
def F7 : PF := t7.fn Tb7
set_option maxRecDepth 100000 in
theorem o7 : Contract Tryz.prog gl0 e7.f e7.sg F7 := compile_ok (c := c7) n7 l7 mo0 Tryz.func60 (by kernel_rfl) k7
theorem w7 : Lawful F7 := T.fn_lawful l7 t7
def p7_0 : AS := ⟨[U], []⟩
def q7_0 : List AS := [⟨[J, B 0 1], []⟩]
set_option maxRecDepth 100000 in
def d7_0 : Cert := .op 0 [.op 0 [.leaf (.split 3 (.at 0) (.at 0))]]
set_option maxRecDepth 100000 in
theorem a7_0 : total S7 p7_0 q7_0 t7 d7_0 = true := by kernel_rfl
def x7 : List (AS × List AS) := [(p7_0, q7_0)]
theorem y7 : ∀ x ∈ x7, SumOk F7 x := all_cons (total_ok l7 z7 a7_0) (all_nil)
set_option maxRecDepth 100000 in
theorem n8 : Ents Tryz.prog gl0 (Es7 ++ [e7]) (Tb7 ++ [F7]) := Ents.snoc n7 rfl o7 rfl rfl
theorem l8 : ∀ G ∈ Tb7 ++ [F7], Lawful G := lawful_snoc l7 w7 rfl
theorem z8 : SumsOk (Tb7 ++ [F7]) (S7 ++ [x7]) := SumsOk.snoc z7 rfl y7 rfl rfl
/-- (gimbal.mat.Matrix).Finite -/
def s8 : Sig := { args := [.agg [.int (.i64) (.v 0), .int (.i64) (.v 1), .int (.i64) (.v 2), .slc 0]], heap := [some (.list (.int (.u64)) 1 (.v 3) false)], npin := 0, np := 4, res := .c (.bool (.v 0)), out := [none], nr := 1 }
def e8 : Ent := ⟨17, s8⟩
def Es8 : List Ent := [e0, e1, e2, e3, e4, e5, e6, e7]
def Tb8 : List PF := [F0, F1, F2, F3, F4, F5, F6, F7]
def S8 : Sums := [x0, x1, x2, x3, x4, x5, x6, x7]
set_option maxRecDepth 100000 in
def t8 : T := .seq (.loop [.v 0, .i 0, .v 3, .v 0, .v 1, .v 2] (.op (.cmp .lss) [.v 1, .v 0] 1 (.ite (.v 6) (.seq (.seq (.loop [.v 1, .v 0, .v 1, .v 4, .i 0, .v 2, .v 3, .v 4, .v 5] (.op (.cmp .lss) [.v 4, .v 3] 1 (.ite (.v 9) (.seq (.op (.call 5) [.v 6, .v 7, .v 8, .v 5, .v 0, .v 4] 1 (.op (.call 7) [.v 10] 1 (.op .bnot [.v 11] 1 (.ite (.v 12) (.ret [.b false]) (.jump 0 [.v 0, .v 1, .v 2, .v 3, .v 4, .v 5, .v 6, .v 7, .v 8]))))) (.op (.bin .add .i64) [.v 4, .i 1] 1 (.jump 0 [.v 0, .v 1, .v 2, .v 3, .v 9, .v 5, .v 6, .v 7, .v 8]))) (.jump 1 [.v 1, .v 2, .v 5, .v 6, .v 7, .v 8])))) (.jump 0 [.v 0, .v 1, .v 2, .v 3, .v 4, .v 5])) (.op (.bin .add .i64) [.v 1, .i 1] 1 (.jump 0 [.v 0, .v 6, .v 2, .v 3, .v 4, .v 5]))) (.jump 1 [])))) (.ret [.b true])
noncomputable def c8 : Cfg := ⟨Tryz.prog, gl0, Es8, s8.npin, Tryz.f17, s8, {}⟩
set_option maxRecDepth 100000 in
theorem k8 : compile c8 = .ok t8 := by kernel_rfl
def F8 : PF := t8.fn Tb8
set_option maxRecDepth 100000 in
theorem o8 : Contract Tryz.prog gl0 e8.f e8.sg F8 := compile_ok (c := c8) n8 l8 mo0 Tryz.func17 (by kernel_rfl) k8
theorem w8 : Lawful F8 := T.fn_lawful l8 t8
def p8_0 : AS := ⟨[I 0 4096, I 0 4096, I 0 1099511627776, Y (some 0) (some 1099511627776)], []⟩
def q8_0 : List AS := [⟨[J, J, J, Y none none, B 0 1], []⟩]
set_option maxRecDepth 100000 in
def d8_0 : Cert := .seq [⟨[J, J, J, Y none none], []⟩] (.loop ⟨[H 4096, I 0 4096, I 0 1099511627776, Y (some 0) (some 1099511627776), I 0 0, J, I 0 4096, Y none none, J, J, J], [(0, 5, 0), (5, 0, 0), (6, 0, 0), (3, 7, 0), (7, 3, 0), (0, 8, 0), (8, 0, 0), (1, 9, 0), (9, 1, 0), (2, 10, 0), (10, 2, 0)]⟩ 1 true 0 (.op 0 [.ite (.seq [⟨[H 4096, I 0 4096, I 0 1099511627776, Y (some 0) (some 1099511627776), I 0 0, J, J, I 0 4095, Y none none, J, J, J], [(5, 0, -1), (0, 6, 0), (6, 0, 0), (5, 7, 0), (7, 5, 0), (3, 8, 0), (8, 3, 0), (0, 9, 0), (9, 0, 0), (1, 10, 0), (10, 1, 0), (2, 11, 0), (11, 2, 0)]⟩] (.seq [⟨[H 4096, I 0 4096, I 0 1099511627776, Y (some 0) (some 1099511627776), I 0 0, K 0, J, J, Y none none, J, J, J], [(5, 0, -1), (0, 6, 0), (6, 0, 0), (5, 7, 0), (7, 5, 0), (3, 8, 0), (8, 3, 0), (0, 9, 0), (9, 0, 0), (1, 10, 0), (10, 1, 0), (2, 11, 0), (11, 2, 0)]⟩] (.loop ⟨[H 4096, H 4096, I 0 1099511627776, Y (some 0) (some 1099511627776), I 0 0, K 0, I 0 0, J, J, J, J, I 0 4096, Y none none, J, J, J], [(5, 0, -1), (5, 7, 0), (7, 5, 0), (0, 8, 0), (8, 0, 0), (5, 9, 0), (9, 5, 0), (1, 10, 0), (10, 1, 0), (11, 1, 0), (3, 12, 0), (12, 3, 0), (0, 13, 0), (13, 0, 0), (1, 14, 0), (14, 1, 0), (2, 15, 0), (15, 2, 0)]⟩ 4 true 0 (.op 0 [.ite (.seq [⟨[H 4096, H 4096, I 0 1099511627776, Y (some 0) (some 1099511627776), I 0 0, K 0, I 0 0, J, J, J, J, J, I 0 4095, Y none none, J, J, J], [(5, 0, -1), (7, 1, -1), (5, 8, 0), (8, 5, 0), (0, 9, 0), (9, 0, 0), (5, 10, 0), (10, 5, 0), (1, 11, 0), (11, 1, 0), (7, 12, 0), (12, 7, 0), (3, 13, 0), (13, 3, 0), (0, 14, 0), (14, 0, 0), (1, 15, 0), (15, 1, 0), (2, 16, 0), (16, 2, 0)]⟩] (.op 0 [.op 0 [.op 0 [.ite (.leaf (.at 0)) (.leaf (.at 0))]]]) [.op 0 [.leaf (.at 0)]]) (.leaf (.at 0))])) [.leaf (.at 0)]) [.op 0 [.leaf (.at 0)]]) (.leaf (.at 0))])) [.leaf (.at 0)]
set_option maxRecDepth 100000 in
theorem a8_0 : total S8 p8_0 q8_0 t8 d8_0 = true := by kernel_rfl
def x8 : List (AS × List AS) := [(p8_0, q8_0)]
theorem y8 : ∀ x ∈ x8, SumOk F8 x := all_cons (total_ok l8 z8 a8_0) (all_nil)
set_option maxRecDepth 100000 in
theorem n9 : Ents Tryz.prog gl0 (Es8 ++ [e8]) (Tb8 ++ [F8]) := Ents.snoc n8 rfl o8 rfl rfl
theorem l9 : ∀ G ∈ Tb8 ++ [F8], Lawful G := lawful_snoc l8 w8 rfl
theorem z9 : SumsOk (Tb8 ++ [F8]) (S8 ++ [x8]) := SumsOk.snoc z8 rfl y8 rfl rfl
/-- gimbal.word.Abs -/
def s9 : Sig := { args := [.c (.int (.u64) (.v 0))], heap := [], npin := 0, np := 1, res := .c (.int (.u64) (.v 0)), out := [], nr := 1 }
def e9 : Ent := ⟨28, s9⟩
def Es9 : List Ent := [e0, e1, e2, e3, e4, e5, e6, e7, e8]
def Tb9 : List PF := [F0, F1, F2, F3, F4, F5, F6, F7, F8]
def S9 : Sums := [x0, x1, x2, x3, x4, x5, x6, x7, x8]
set_option maxRecDepth 100000 in
def t9 : T := .op (.bin .andNot .u64) [.v 0, .i 9223372036854775808] 1 (.ret [.v 1])
noncomputable def c9 : Cfg := ⟨Tryz.prog, gl0, Es9, s9.npin, Tryz.f28, s9, {}⟩
set_option maxRecDepth 100000 in
theorem k9 : compile c9 = .ok t9 := by kernel_rfl
def F9 : PF := t9.fn Tb9
set_option maxRecDepth 100000 in
theorem o9 : Contract Tryz.prog gl0 e9.f e9.sg F9 := compile_ok (c := c9) n9 l9 mo0 Tryz.func28 (by kernel_rfl) k9
theorem w9 : Lawful F9 := T.fn_lawful l9 t9
def p9_0 : AS := ⟨[U], []⟩
def q9_0 : List AS := [⟨[J, U], [(1, 0, 0)]⟩]
set_option maxRecDepth 100000 in
def d9_0 : Cert := .op 0 [.leaf (.at 0)]
set_option maxRecDepth 100000 in
theorem a9_0 : total S9 p9_0 q9_0 t9 d9_0 = true := by kernel_rfl
def x9 : List (AS × List AS) := [(p9_0, q9_0)]
theorem y9 : ∀ x ∈ x9, SumOk F9 x := all_cons (total_ok l9 z9 a9_0) (all_nil)
set_option maxRecDepth 100000 in
theorem n10 : Ents Tryz.prog gl0 (Es9 ++ [e9]) (Tb9 ++ [F9]) := Ents.snoc n9 rfl o9 rfl rfl
theorem l10 : ∀ G ∈ Tb9 ++ [F9], Lawful G := lawful_snoc l9 w9 rfl
theorem z10 : SumsOk (Tb9 ++ [F9]) (S9 ++ [x9]) := SumsOk.snoc z9 rfl y9 rfl rfl
/-- gimbal.word.Frac -/
def s10 : Sig := { args := [.c (.int (.u64) (.v 0))], heap := [], npin := 0, np := 1, res := .c (.int (.u64) (.v 0)), out := [], nr := 1 }
def e10 : Ent := ⟨136, s10⟩
def Es10 : List Ent := [e0, e1, e2, e3, e4, e5, e6, e7, e8, e9]
def Tb10 : List PF := [F0, F1, F2, F3, F4, F5, F6, F7, F8, F9]
def S10 : Sums := [x0, x1, x2, x3, x4, x5, x6, x7, x8, x9]
set_option maxRecDepth 100000 in
def t10 : T := .op (.bin .and .u64) [.v 0, .i 4503599627370495] 1 (.ret [.v 1])
noncomputable def c10 : Cfg := ⟨Tryz.prog, gl0, Es10, s10.npin, Tryz.f136, s10, {}⟩
set_option maxRecDepth 100000 in
theorem k10 : compile c10 = .ok t10 := by kernel_rfl
def F10 : PF := t10.fn Tb10
set_option maxRecDepth 100000 in
theorem o10 : Contract Tryz.prog gl0 e10.f e10.sg F10 := compile_ok (c := c10) n10 l10 mo0 Tryz.func136 (by kernel_rfl) k10
theorem w10 : Lawful F10 := T.fn_lawful l10 t10
def p10_0 : AS := ⟨[U], []⟩
def q10_0 : List AS := [⟨[J, I 0 4503599627370495], [(1, 0, 0)]⟩]
set_option maxRecDepth 100000 in
def d10_0 : Cert := .op 0 [.leaf (.at 0)]
set_option maxRecDepth 100000 in
theorem a10_0 : total S10 p10_0 q10_0 t10 d10_0 = true := by kernel_rfl
def x10 : List (AS × List AS) := [(p10_0, q10_0)]
theorem y10 : ∀ x ∈ x10, SumOk F10 x := all_cons (total_ok l10 z10 a10_0) (all_nil)
set_option maxRecDepth 100000 in
theorem n11 : Ents Tryz.prog gl0 (Es10 ++ [e10]) (Tb10 ++ [F10]) := Ents.snoc n10 rfl o10 rfl rfl
theorem l11 : ∀ G ∈ Tb10 ++ [F10], Lawful G := lawful_snoc l10 w10 rfl
theorem z11 : SumsOk (Tb10 ++ [F10]) (S10 ++ [x10]) := SumsOk.snoc z10 rfl y10 rfl rfl
/-- gimbal.word.Kind -/
def s11 : Sig := { args := [.c (.int (.u64) (.v 0))], heap := [], npin := 0, np := 1, res := .c (.int (.i64) (.v 0)), out := [], nr := 1 }
def e11 : Ent := ⟨82, s11⟩
def Es11 : List Ent := [e0, e1, e2, e3, e4, e5, e6, e7, e8, e9, e10]
def Tb11 : List PF := [F0, F1, F2, F3, F4, F5, F6, F7, F8, F9, F10]
def S11 : Sums := [x0, x1, x2, x3, x4, x5, x6, x7, x8, x9, x10]
set_option maxRecDepth 100000 in
def t11 : T := .op (.call 6) [.v 0] 1 (.op (.call 10) [.v 0] 1 (.seq (.seq (.op (.cmp .eql) [.v 1, .i 0] 1 (.ite (.v 3) (.op (.cmp .eql) [.v 2, .i 0] 1 (.jump 0 [.v 1, .v 2, .v 4])) (.jump 0 [.v 1, .v 2, .b false]))) (.ite (.v 2) (.ret [.i 1]) (.op (.cmp .eql) [.v 0, .i 0] 1 (.ite (.v 3) (.ret [.i 2]) (.op (.cmp .lss) [.v 0, .i 2047] 1 (.ite (.v 4) (.ret [.i 3]) (.op (.cmp .eql) [.v 1, .i 0] 1 (.ite (.v 5) (.ret [.i 4]) (.jump 0 []))))))))) (.ret [.i 5])))
noncomputable def c11 : Cfg := ⟨Tryz.prog, gl0, Es11, s11.npin, Tryz.f82, s11, {}⟩
set_option maxRecDepth 100000 in
theorem k11 : compile c11 = .ok t11 := by kernel_rfl
def F11 : PF := t11.fn Tb11
set_option maxRecDepth 100000 in
theorem o11 : Contract Tryz.prog gl0 e11.f e11.sg F11 := compile_ok (c := c11) n11 l11 mo0 Tryz.func82 (by kernel_rfl) k11
theorem w11 : Lawful F11 := T.fn_lawful l11 t11
def p11_0 : AS := ⟨[U], []⟩
def q11_0 : List AS := [⟨[J, I 1 5], []⟩]
set_option maxRecDepth 100000 in
def d11_0 : Cert := .op 0 [.op 0 [.seq [⟨[J], []⟩] (.seq [⟨[J, J, J, ⟨.bool, (some 1), none, .none⟩], []⟩, ⟨[H 18446744073709551615, J, J, ⟨.bool, none, (some 0), .none⟩], [(1, 0, 0)]⟩] (.op 0 [.ite (.op 0 [.leaf (.split 5 (.at 0) (.at 1))]) (.leaf (.at 1))]) [.ite (.leaf (.at 0)) (.absurd 3 3 0), .ite (.absurd 3 3 0) (.op 0 [.ite (.leaf (.at 0)) (.op 0 [.ite (.leaf (.at 0)) (.op 0 [.ite (.leaf (.at 0)) (.leaf (.at 0))])])])]) [.leaf (.at 0)]]]
set_option maxRecDepth 100000 in
theorem a11_0 : total S11 p11_0 q11_0 t11 d11_0 = true := by kernel_rfl
def x11 : List (AS × List AS) := [(p11_0, q11_0)]
theorem y11 : ∀ x ∈ x11, SumOk F11 x := all_cons (total_ok l11 z11 a11_0) (all_nil)
set_option maxRecDepth 100000 in
theorem n12 : Ents Tryz.prog gl0 (Es11 ++ [e11]) (Tb11 ++ [F11]) := Ents.snoc n11 rfl o11 rfl rfl
theorem l12 : ∀ G ∈ Tb11 ++ [F11], Lawful G := lawful_snoc l11 w11 rfl
theorem z12 : SumsOk (Tb11 ++ [F11]) (S11 ++ [x11]) := SumsOk.snoc z11 rfl y11 rfl rfl
/-- gimbal.word.Parts -/
def s12 : Sig := { args := [.c (.int (.u64) (.v 0))], heap := [], npin := 0, np := 1, res := .tup [{ agg := false, cs := [.int (.u64) (.v 0)] }, { agg := false, cs := [.int (.i64) (.v 1)] }], out := [], nr := 2 }
def e12 : Ent := ⟨119, s12⟩
def Es12 : List Ent := [e0, e1, e2, e3, e4, e5, e6, e7, e8, e9, e10, e11]
def Tb12 : List PF := [F0, F1, F2, F3, F4, F5, F6, F7, F8, F9, F10, F11]
def S12 : Sums := [x0, x1, x2, x3, x4, x5, x6, x7, x8, x9, x10, x11]
set_option maxRecDepth 100000 in
def t12 : T := .op (.call 11) [.v 0] 1 (.seq (.op (.cmp .eql) [.v 1, .i 2] 1 (.ite (.v 2) (.op (.call 10) [.v 0] 1 (.ret [.v 3, .i (-1074)])) (.op (.cmp .eql) [.v 1, .i 3] 1 (.ite (.v 3) (.op (.call 10) [.v 0] 1 (.op (.bin .or .u64) [.v 4, .i 4503599627370496] 1 (.op (.call 6) [.v 0] 1 (.op (.bin .sub .i64) [.v 6, .i 1075] 1 (.ret [.v 5, .v 7]))))) (.jump 0 []))))) (.ret [.i 0, .i 0]))
noncomputable def c12 : Cfg := ⟨Tryz.prog, gl0, Es12, s12.npin, Tryz.f119, s12, {}⟩
set_option maxRecDepth 100000 in
theorem k12 : compile c12 = .ok t12 := by kernel_rfl
def F12 : PF := t12.fn Tb12
set_option maxRecDepth 100000 in
theorem o12 : Contract Tryz.prog gl0 e12.f e12.sg F12 := compile_ok (c := c12) n12 l12 mo0 Tryz.func119 (by kernel_rfl) k12
theorem w12 : Lawful F12 := T.fn_lawful l12 t12
def p12_0 : AS := ⟨[U], []⟩
def q12_0 : List AS := [⟨[J, I 0 9007199254740991, I (-1075) 972], [(2, 0, 0)]⟩]
set_option maxRecDepth 100000 in
def d12_0 : Cert := .op 0 [.seq [⟨[K 0], []⟩] (.op 0 [.ite (.op 0 [.leaf (.at 0)]) (.op 0 [.ite (.op 0 [.op 0 [.op 0 [.op 0 [.leaf (.at 0)]]]]) (.leaf (.at 0))])]) [.leaf (.at 0)]]
set_option maxRecDepth 100000 in
theorem a12_0 : total S12 p12_0 q12_0 t12 d12_0 = true := by kernel_rfl
def x12 : List (AS × List AS) := [(p12_0, q12_0)]
theorem y12 : ∀ x ∈ x12, SumOk F12 x := all_cons (total_ok l12 z12 a12_0) (all_nil)
set_option maxRecDepth 100000 in
theorem n13 : Ents Tryz.prog gl0 (Es12 ++ [e12]) (Tb12 ++ [F12]) := Ents.snoc n12 rfl o12 rfl rfl
theorem l13 : ∀ G ∈ Tb12 ++ [F12], Lawful G := lawful_snoc l12 w12 rfl
theorem z13 : SumsOk (Tb12 ++ [F12]) (S12 ++ [x12]) := SumsOk.snoc z12 rfl y12 rfl rfl
/-- (gimbal.mat.Matrix).Clone -/
def s13 : Sig := { args := [.agg [.int (.i64) (.v 0), .int (.i64) (.v 1), .int (.i64) (.v 2), .slc 0]], heap := [some (.list (.int (.u64)) 1 (.v 3) false)], npin := 0, np := 4, res := .agg [.int (.i64) (.v 0), .int (.i64) (.v 1), .int (.i64) (.v 2), .slc 1], out := [none, some (.list (.int (.u64)) 1 (.v 3) true)], nr := 4 }
def e13 : Ent := ⟨61, s13⟩
def Es13 : List Ent := [e0, e1, e2, e3, e4, e5, e6, e7, e8, e9, e10, e11, e12]
def Tb13 : List PF := [F0, F1, F2, F3, F4, F5, F6, F7, F8, F9, F10, F11, F12]
def S13 : Sums := [x0, x1, x2, x3, x4, x5, x6, x7, x8, x9, x10, x11, x12]
set_option maxRecDepth 100000 in
def t13 : T := .op (.call 0) [.v 0, .v 1] 4 (.seq (.loop [.v 4, .i 0, .v 3, .v 0, .v 1, .v 2, .i 0, .i 0, .i 0, .nil, .v 7, .v 4, .v 5, .v 6] (.op (.cmp .lss) [.v 1, .v 0] 1 (.ite (.v 14) (.seq (.seq (.loop [.v 1, .v 0, .v 1, .v 12, .i 0, .v 2, .v 3, .v 4, .v 5, .v 6, .v 7, .v 8, .v 9, .v 10, .v 11, .v 12, .v 13] (.op (.cmp .lss) [.v 4, .v 3] 1 (.ite (.v 17) (.seq (.op (.call 5) [.v 6, .v 7, .v 8, .v 5, .v 0, .v 4] 1 (.op (.call 2) [.v 14, .v 15, .v 16, .v 13, .v 0, .v 4, .v 18] 1 (.jump 0 [.v 0, .v 1, .v 2, .v 3, .v 4, .v 5, .v 6, .v 7, .v 8, .v 9, .v 10, .v 11, .v 12, .v 19, .v 14, .v 15, .v 16]))) (.op (.bin .add .i64) [.v 4, .i 1] 1 (.jump 0 [.v 0, .v 1, .v 2, .v 3, .v 17, .v 5, .v 6, .v 7, .v 8, .v 9, .v 10, .v 11, .v 12, .v 13, .v 14, .v 15, .v 16]))) (.jump 1 [.v 1, .v 2, .v 5, .v 6, .v 7, .v 8, .v 9, .v 10, .v 11, .v 12, .v 13, .v 14, .v 15, .v 16])))) (.jump 0 [.v 0, .v 1, .v 2, .v 3, .v 4, .v 5, .v 6, .v 7, .v 8, .v 9, .v 10, .v 11, .v 12, .v 13])) (.op (.bin .add .i64) [.v 1, .i 1] 1 (.jump 0 [.v 0, .v 14, .v 2, .v 3, .v 4, .v 5, .v 6, .v 7, .v 8, .v 9, .v 10, .v 11, .v 12, .v 13]))) (.jump 1 [.v 6, .v 7, .v 8, .v 9, .v 10, .v 11, .v 12, .v 13])))) (.ret [.v 5, .v 6, .v 7, .v 4]))
noncomputable def c13 : Cfg := ⟨Tryz.prog, gl0, Es13, s13.npin, Tryz.f61, s13, {}⟩
set_option maxRecDepth 100000 in
theorem k13 : compile c13 = .ok t13 := by kernel_rfl
def F13 : PF := t13.fn Tb13
set_option maxRecDepth 100000 in
theorem o13 : Contract Tryz.prog gl0 e13.f e13.sg F13 := compile_ok (c := c13) n13 l13 mo0 Tryz.func61 (by kernel_rfl) k13
theorem w13 : Lawful F13 := T.fn_lawful l13 t13
def p13_0 : AS := ⟨[I 0 4096, I 0 4096, I 0 1099511627776, Y (some 0) (some 1099511627776)], []⟩
def q13_0 : List AS := [⟨[J, J, J, Y none none, I 0 4096, I 0 4096, I 0 4096, Y (some 0) (some 16777216)], [(0, 4, 0), (4, 0, 0), (1, 5, 0), (5, 1, 0), (1, 6, 0), (6, 1, 0)]⟩]
set_option maxRecDepth 100000 in
def d13_0 : Cert := .op 0 [.seq [⟨[I 0 4096, I 0 4096, J, Y none none, J, J, J, N 1 1 0 none none, Y (some 0) (some 16777216), J, J, J], [(0, 9, 0), (9, 0, 0), (1, 10, 0), (10, 1, 0), (1, 11, 0), (11, 1, 0)]⟩] (.loop ⟨[H 4096, I 0 4096, I 0 1099511627776, Y (some 0) (some 1099511627776), I 0 0, J, I 0 4096, Y none none, J, J, J, I 0 0, I 0 0, I 0 0, N 1 1 0 (some 0) (some 0), Y (some 0) (some 16777216), J, J, J], [(0, 5, 0), (5, 0, 0), (6, 0, 0), (3, 7, 0), (7, 3, 0), (0, 8, 0), (8, 0, 0), (1, 9, 0), (9, 1, 0), (2, 10, 0), (10, 2, 0), (0, 16, 0), (16, 0, 0), (1, 17, 0), (17, 1, 0), (1, 18, 0), (18, 1, 0)]⟩ 1 true 0 (.op 0 [.ite (.seq [⟨[H 4096, I 0 4096, I 0 1099511627776, Y (some 0) (some 1099511627776), I 0 0, J, J, I 0 4095, Y none none, J, J, J, I 0 0, I 0 0, I 0 0, N 1 1 0 (some 0) (some 0), Y (some 0) (some 16777216), J, J, J], [(5, 0, -1), (0, 6, 0), (6, 0, 0), (5, 7, 0), (7, 5, 0), (3, 8, 0), (8, 3, 0), (0, 9, 0), (9, 0, 0), (1, 10, 0), (10, 1, 0), (2, 11, 0), (11, 2, 0), (0, 17, 0), (17, 0, 0), (1, 18, 0), (18, 1, 0), (1, 19, 0), (19, 1, 0)]⟩] (.seq [⟨[H 4096, I 0 4096, I 0 1099511627776, Y (some 0) (some 1099511627776), I 0 0, K 0, J, J, Y none none, J, J, J, I 0 0, I 0 0, I 0 0, N 1 1 0 (some 0) (some 0), Y (some 0) (some 16777216), J, J, J], [(5, 0, -1), (0, 6, 0), (6, 0, 0), (5, 7, 0), (7, 5, 0), (3, 8, 0), (8, 3, 0), (0, 9, 0), (9, 0, 0), (1, 10, 0), (10, 1, 0), (2, 11, 0), (11, 2, 0), (0, 17, 0), (17, 0, 0), (1, 18, 0), (18, 1, 0), (1, 19, 0), (19, 1, 0)]⟩] (.loop ⟨[H 4096, H 4096, I 0 1099511627776, Y (some 0) (some 1099511627776), I 0 0, K 0, I 0 0, J, J, J, J, I 0 4096, Y none none, J, J, J, I 0 0, I 0 0, I 0 0, N 1 1 0 (some 0) (some 0), Y (some 0) (some 16777216), J, J, J], [(5, 0, -1), (5, 7, 0), (7, 5, 0), (0, 8, 0), (8, 0, 0), (5, 9, 0), (9, 5, 0), (1, 10, 0), (10, 1, 0), (11, 1, 0), (3, 12, 0), (12, 3, 0), (0, 13, 0), (13, 0, 0), (1, 14, 0), (14, 1, 0), (2, 15, 0), (15, 2, 0), (0, 21, 0), (21, 0, 0), (1, 22, 0), (22, 1, 0), (1, 23, 0), (23, 1, 0)]⟩ 4 true 0 (.op 0 [.ite (.seq [⟨[H 4096, H 4096, I 0 1099511627776, Y (some 0) (some 1099511627776), I 0 0, K 0, I 0 0, J, J, J, J, J, I 0 4095, Y none none, J, J, J, I 0 0, I 0 0, I 0 0, N 1 1 0 (some 0) (some 0), Y (some 0) (some 16777216), J, J, J], [(5, 0, -1), (7, 1, -1), (5, 8, 0), (8, 5, 0), (0, 9, 0), (9, 0, 0), (5, 10, 0), (10, 5, 0), (1, 11, 0), (11, 1, 0), (7, 12, 0), (12, 7, 0), (3, 13, 0), (13, 3, 0), (0, 14, 0), (14, 0, 0), (1, 15, 0), (15, 1, 0), (2, 16, 0), (16, 2, 0), (0, 22, 0), (22, 0, 0), (1, 23, 0), (23, 1, 0), (1, 24, 0), (24, 1, 0)]⟩] (.op 0 [.op 0 [.leaf (.at 0)]]) [.op 0 [.leaf (.at 0)]]) (.leaf (.at 0))])) [.leaf (.at 0)]) [.op 0 [.leaf (.at 0)]]) (.leaf (.at 0))])) [.leaf (.at 0)]]
set_option maxRecDepth 100000 in
theorem a13_0 : total S13 p13_0 q13_0 t13 d13_0 = true := by kernel_rfl
def x13 : List (AS × List AS) := [(p13_0, q13_0)]
theorem y13 : ∀ x ∈ x13, SumOk F13 x := all_cons (total_ok l13 z13 a13_0) (all_nil)
set_option maxRecDepth 100000 in
theorem n14 : Ents Tryz.prog gl0 (Es13 ++ [e13]) (Tb13 ++ [F13]) := Ents.snoc n13 rfl o13 rfl rfl
theorem l14 : ∀ G ∈ Tb13 ++ [F13], Lawful G := lawful_snoc l13 w13 rfl
theorem z14 : SumsOk (Tb13 ++ [F13]) (S13 ++ [x13]) := SumsOk.snoc z13 rfl y13 rfl rfl
/-- gimbal.word.Signals -/
def s14 : Sig := { args := [.c (.int (.u64) (.v 0))], heap := [], npin := 0, np := 1, res := .c (.bool (.v 0)), out := [], nr := 1 }
def e14 : Ent := ⟨118, s14⟩
def Es14 : List Ent := [e0, e1, e2, e3, e4, e5, e6, e7, e8, e9, e10, e11, e12, e13]
def Tb14 : List PF := [F0, F1, F2, F3, F4, F5, F6, F7, F8, F9, F10, F11, F12, F13]
def S14 : Sums := [x0, x1, x2, x3, x4, x5, x6, x7, x8, x9, x10, x11, x12, x13]
set_option maxRecDepth 100000 in
def t14 : T := .seq (.op (.call 11) [.v 0] 1 (.op (.cmp .eql) [.v 1, .i 5] 1 (.ite (.v 2) (.op (.bin .shr .u64) [.v 0, .i 51] 1 (.op (.bin .and .u64) [.v 3, .i 1] 1 (.op (.cmp .eql) [.v 4, .i 0] 1 (.jump 0 [.v 5])))) (.jump 0 [.b false])))) (.ret [.v 0])
noncomputable def c14 : Cfg := ⟨Tryz.prog, gl0, Es14, s14.npin, Tryz.f118, s14, {}⟩
set_option maxRecDepth 100000 in
theorem k14 : compile c14 = .ok t14 := by kernel_rfl
def F14 : PF := t14.fn Tb14
set_option maxRecDepth 100000 in
theorem o14 : Contract Tryz.prog gl0 e14.f e14.sg F14 := compile_ok (c := c14) n14 l14 mo0 Tryz.func118 (by kernel_rfl) k14
theorem w14 : Lawful F14 := T.fn_lawful l14 t14
def p14_0 : AS := ⟨[U], []⟩
def q14_0 : List AS := [⟨[J, B 0 1], []⟩]
set_option maxRecDepth 100000 in
def d14_0 : Cert := .seq [⟨[J, B 0 1], []⟩] (.op 0 [.op 0 [.ite (.op 0 [.op 0 [.op 0 [.leaf (.split 6 (.at 0) (.at 0))]]]) (.leaf (.at 0))]]) [.leaf (.at 0)]
set_option maxRecDepth 100000 in
theorem a14_0 : total S14 p14_0 q14_0 t14 d14_0 = true := by kernel_rfl
def x14 : List (AS × List AS) := [(p14_0, q14_0)]
theorem y14 : ∀ x ∈ x14, SumOk F14 x := all_cons (total_ok l14 z14 a14_0) (all_nil)
set_option maxRecDepth 100000 in
theorem n15 : Ents Tryz.prog gl0 (Es14 ++ [e14]) (Tb14 ++ [F14]) := Ents.snoc n14 rfl o14 rfl rfl
theorem l15 : ∀ G ∈ Tb14 ++ [F14], Lawful G := lawful_snoc l14 w14 rfl
theorem z15 : SumsOk (Tb14 ++ [F14]) (S14 ++ [x14]) := SumsOk.snoc z14 rfl y14 rfl rfl
/-- gimbal.word.Neg -/
def s15 : Sig := { args := [.c (.int (.u64) (.v 0))], heap := [], npin := 0, np := 1, res := .c (.bool (.v 0)), out := [], nr := 1 }
def e15 : Ent := ⟨29, s15⟩
def Es15 : List Ent := [e0, e1, e2, e3, e4, e5, e6, e7, e8, e9, e10, e11, e12, e13, e14]
def Tb15 : List PF := [F0, F1, F2, F3, F4, F5, F6, F7, F8, F9, F10, F11, F12, F13, F14]
def S15 : Sums := [x0, x1, x2, x3, x4, x5, x6, x7, x8, x9, x10, x11, x12, x13, x14]
set_option maxRecDepth 100000 in
def t15 : T := .op (.bin .shr .u64) [.v 0, .i 63] 1 (.op (.cmp .eql) [.v 1, .i 1] 1 (.ret [.v 2]))
noncomputable def c15 : Cfg := ⟨Tryz.prog, gl0, Es15, s15.npin, Tryz.f29, s15, {}⟩
set_option maxRecDepth 100000 in
theorem k15 : compile c15 = .ok t15 := by kernel_rfl
def F15 : PF := t15.fn Tb15
set_option maxRecDepth 100000 in
theorem o15 : Contract Tryz.prog gl0 e15.f e15.sg F15 := compile_ok (c := c15) n15 l15 mo0 Tryz.func29 (by kernel_rfl) k15
theorem w15 : Lawful F15 := T.fn_lawful l15 t15
def p15_0 : AS := ⟨[U], []⟩
def q15_0 : List AS := [⟨[J, B 0 1], []⟩]
set_option maxRecDepth 100000 in
def d15_0 : Cert := .op 0 [.op 0 [.leaf (.split 3 (.at 0) (.at 0))]]
set_option maxRecDepth 100000 in
theorem a15_0 : total S15 p15_0 q15_0 t15 d15_0 = true := by kernel_rfl
def x15 : List (AS × List AS) := [(p15_0, q15_0)]
theorem y15 : ∀ x ∈ x15, SumOk F15 x := all_cons (total_ok l15 z15 a15_0) (all_nil)
set_option maxRecDepth 100000 in
theorem n16 : Ents Tryz.prog gl0 (Es15 ++ [e15]) (Tb15 ++ [F15]) := Ents.snoc n15 rfl o15 rfl rfl
theorem l16 : ∀ G ∈ Tb15 ++ [F15], Lawful G := lawful_snoc l15 w15 rfl
theorem z16 : SumsOk (Tb15 ++ [F15]) (S15 ++ [x15]) := SumsOk.snoc z15 rfl y15 rfl rfl
/-- (gimbal.wide.Wide).Zero -/
def s16 : Sig := { args := [.agg [.int (.u64) (.v 0), .int (.u64) (.v 1)]], heap := [], npin := 0, np := 2, res := .c (.bool (.v 0)), out := [], nr := 1 }
def e16 : Ent := ⟨172, s16⟩
def Es16 : List Ent := [e0, e1, e2, e3, e4, e5, e6, e7, e8, e9, e10, e11, e12, e13, e14, e15]
def Tb16 : List PF := [F0, F1, F2, F3, F4, F5, F6, F7, F8, F9, F10, F11, F12, F13, F14, F15]
def S16 : Sums := [x0, x1, x2, x3, x4, x5, x6, x7, x8, x9, x10, x11, x12, x13, x14, x15]
set_option maxRecDepth 100000 in
def t16 : T := .op (.bin .or .u64) [.v 0, .v 1] 1 (.op (.cmp .eql) [.v 2, .i 0] 1 (.ret [.v 3]))
noncomputable def c16 : Cfg := ⟨Tryz.prog, gl0, Es16, s16.npin, Tryz.f172, s16, {}⟩
set_option maxRecDepth 100000 in
theorem k16 : compile c16 = .ok t16 := by kernel_rfl
def F16 : PF := t16.fn Tb16
set_option maxRecDepth 100000 in
theorem o16 : Contract Tryz.prog gl0 e16.f e16.sg F16 := compile_ok (c := c16) n16 l16 mo0 Tryz.func172 (by kernel_rfl) k16
theorem w16 : Lawful F16 := T.fn_lawful l16 t16
def p16_0 : AS := ⟨[U, U], []⟩
def q16_0 : List AS := [⟨[J, J, B 0 1], []⟩]
set_option maxRecDepth 100000 in
def d16_0 : Cert := .op 0 [.op 0 [.leaf (.split 5 (.at 0) (.at 0))]]
set_option maxRecDepth 100000 in
theorem a16_0 : total S16 p16_0 q16_0 t16 d16_0 = true := by kernel_rfl
def x16 : List (AS × List AS) := [(p16_0, q16_0)]
theorem y16 : ∀ x ∈ x16, SumOk F16 x := all_cons (total_ok l16 z16 a16_0) (all_nil)
set_option maxRecDepth 100000 in
theorem n17 : Ents Tryz.prog gl0 (Es16 ++ [e16]) (Tb16 ++ [F16]) := Ents.snoc n16 rfl o16 rfl rfl
theorem l17 : ∀ G ∈ Tb16 ++ [F16], Lawful G := lawful_snoc l16 w16 rfl
theorem z17 : SumsOk (Tb16 ++ [F16]) (S16 ++ [x16]) := SumsOk.snoc z16 rfl y16 rfl rfl
/-- gimbal.word.Make -/
def s17 : Sig := { args := [.c (.bool (.v 0)), .c (.int (.i64) (.v 1)), .c (.int (.u64) (.v 2))], heap := [], npin := 0, np := 3, res := .c (.int (.u64) (.v 0)), out := [], nr := 1 }
def e17 : Ent := ⟨167, s17⟩
def Es17 : List Ent := [e0, e1, e2, e3, e4, e5, e6, e7, e8, e9, e10, e11, e12, e13, e14, e15, e16]
def Tb17 : List PF := [F0, F1, F2, F3, F4, F5, F6, F7, F8, F9, F10, F11, F12, F13, F14, F15, F16]
def S17 : Sums := [x0, x1, x2, x3, x4, x5, x6, x7, x8, x9, x10, x11, x12, x13, x14, x15, x16]
set_option maxRecDepth 100000 in
def t17 : T := .op (.conv .u64) [.v 1] 1 (.op (.bin .and .u64) [.v 3, .i 2047] 1 (.op (.bin .shl .u64) [.v 4, .i 52] 1 (.op (.bin .and .u64) [.v 2, .i 4503599627370495] 1 (.op (.bin .or .u64) [.v 5, .v 6] 1 (.seq (.ite (.v 0) (.op (.bin .or .u64) [.v 7, .i 9223372036854775808] 1 (.jump 0 [.v 8])) (.jump 0 [.v 7])) (.ret [.v 0]))))))
noncomputable def c17 : Cfg := ⟨Tryz.prog, gl0, Es17, s17.npin, Tryz.f167, s17, {}⟩
set_option maxRecDepth 100000 in
theorem k17 : compile c17 = .ok t17 := by kernel_rfl
def F17 : PF := t17.fn Tb17
set_option maxRecDepth 100000 in
theorem o17 : Contract Tryz.prog gl0 e17.f e17.sg F17 := compile_ok (c := c17) n17 l17 mo0 Tryz.func167 (by kernel_rfl) k17
theorem w17 : Lawful F17 := T.fn_lawful l17 t17
def p17_0 : AS := ⟨[B 0 1, Z, U], []⟩
def q17_0 : List AS := [⟨[B0, J, J, U], []⟩]
set_option maxRecDepth 100000 in
def d17_0 : Cert := .op 0 [.op 0 [.op 0 [.op 0 [.op 0 [.seq [⟨[B0, J, J, U], []⟩] (.ite (.op 0 [.leaf (.at 0)]) (.leaf (.at 0))) [.leaf (.at 0)]]]]]]
set_option maxRecDepth 100000 in
theorem a17_0 : total S17 p17_0 q17_0 t17 d17_0 = true := by kernel_rfl
def x17 : List (AS × List AS) := [(p17_0, q17_0)]
theorem y17 : ∀ x ∈ x17, SumOk F17 x := all_cons (total_ok l17 z17 a17_0) (all_nil)
set_option maxRecDepth 100000 in
theorem n18 : Ents Tryz.prog gl0 (Es17 ++ [e17]) (Tb17 ++ [F17]) := Ents.snoc n17 rfl o17 rfl rfl
theorem l18 : ∀ G ∈ Tb17 ++ [F17], Lawful G := lawful_snoc l17 w17 rfl
theorem z18 : SumsOk (Tb17 ++ [F17]) (S17 ++ [x17]) := SumsOk.snoc z17 rfl y17 rfl rfl
end YtjbacabjgdfmdaaGreatDoor.Gp
end Go.Proofs

/- What the program's functions do, and that they end, part 1: made by a program of this session. -/
namespace Go.Proofs
open Go Gm
namespace YtjbacabjgdfmdaaGreatDoor.Gp
/-- math.bits.Len64 -/
def s18 : Sig := { args := [.c (.int (.u64) (.v 0))], heap := [], npin := 0, np := 1, res := .c (.int (.i64) (.v 0)), out := [], nr := 1 }
def e18 : Ent := ⟨138, s18⟩
def Es18 : List Ent := [e0, e1, e2, e3, e4, e5, e6, e7, e8, e9, e10, e11, e12, e13, e14, e15, e16, e17]
def Tb18 : List PF := [F0, F1, F2, F3, F4, F5, F6, F7, F8, F9, F10, F11, F12, F13, F14, F15, F16, F17]
def S18 : Sums := [x0, x1, x2, x3, x4, x5, x6, x7, x8, x9, x10, x11, x12, x13, x14, x15, x16, x17]
set_option maxRecDepth 100000 in
def t18 : T := .op (.cmp .geq) [.v 0, .i 4294967296] 1 (.seq (.ite (.v 1) (.op (.bin .shr .u64) [.v 0, .i 32] 1 (.jump 0 [.v 2, .i 32])) (.jump 0 [.v 0, .i 0])) (.op (.cmp .geq) [.v 0, .i 65536] 1 (.seq (.ite (.v 2) (.op (.bin .shr .u64) [.v 0, .i 16] 1 (.op (.bin .add .i64) [.v 1, .i 16] 1 (.jump 0 [.v 3, .v 4]))) (.jump 0 [.v 0, .v 1])) (.op (.cmp .geq) [.v 0, .i 256] 1 (.seq (.ite (.v 2) (.op (.bin .shr .u64) [.v 0, .i 8] 1 (.op (.bin .add .i64) [.v 1, .i 8] 1 (.jump 0 [.v 3, .v 4]))) (.jump 0 [.v 0, .v 1])) (.op (.conv .u8) [.v 0] 1 (.op (.tab [0, 1, 2, 2, 3, 3, 3, 3, 4, 4, 4, 4, 4, 4, 4, 4, 5, 5, 5, 5, 5, 5, 5, 5, 5, 5, 5, 5, 5, 5, 5, 5, 6, 6, 6, 6, 6, 6, 6, 6, 6, 6, 6, 6, 6, 6, 6, 6, 6, 6, 6, 6, 6, 6, 6, 6, 6, 6, 6, 6, 6, 6, 6, 6, 7, 7, 7, 7, 7, 7, 7, 7, 7, 7, 7, 7, 7, 7, 7, 7, 7, 7, 7, 7, 7, 7, 7, 7, 7, 7, 7, 7, 7, 7, 7, 7, 7, 7, 7, 7, 7, 7, 7, 7, 7, 7, 7, 7, 7, 7, 7, 7, 7, 7, 7, 7, 7, 7, 7, 7, 7, 7, 7, 7, 7, 7, 7, 7, 8, 8, 8, 8, 8, 8, 8, 8, 8, 8, 8, 8, 8, 8, 8, 8, 8, 8, 8, 8, 8, 8, 8, 8, 8, 8, 8, 8, 8, 8, 8, 8, 8, 8, 8, 8, 8, 8, 8, 8, 8, 8, 8, 8, 8, 8, 8, 8, 8, 8, 8, 8, 8, 8, 8, 8, 8, 8, 8, 8, 8, 8, 8, 8, 8, 8, 8, 8, 8, 8, 8, 8, 8, 8, 8, 8, 8, 8, 8, 8, 8, 8, 8, 8, 8, 8, 8, 8, 8, 8, 8, 8, 8, 8, 8, 8, 8, 8, 8, 8, 8, 8, 8, 8, 8, 8, 8, 8, 8, 8, 8, 8, 8, 8, 8, 8, 8, 8, 8, 8, 8, 8, 8, 8, 8, 8, 8, 8]) [.v 2] 1 (.op (.conv .i64) [.v 3] 1 (.op (.bin .add .i64) [.v 1, .v 4] 1 (.ret [.v 5]))))))))))
noncomputable def c18 : Cfg := ⟨Tryz.prog, gl0, Es18, s18.npin, Tryz.f138, s18, {}⟩
set_option maxRecDepth 100000 in
theorem k18 : compile c18 = .ok t18 := by kernel_rfl
def F18 : PF := t18.fn Tb18
set_option maxRecDepth 100000 in
theorem o18 : Contract Tryz.prog gl0 e18.f e18.sg F18 := compile_ok (c := c18) n18 l18 mo0 Tryz.func138 (by kernel_rfl) k18
theorem w18 : Lawful F18 := T.fn_lawful l18 t18
def p18_0 : AS := ⟨[I 0 9007199254740991], []⟩
def q18_0 : List AS := [⟨[J, I 0 53], []⟩]
set_option maxRecDepth 100000 in
def d18_0 : Cert := .op 0 [.seq [⟨[J, H 2097151, I 32 32], []⟩, ⟨[J, J, I 0 0], []⟩] (.ite (.op 0 [.leaf (.at 0)]) (.leaf (.at 1))) [.op 0 [.seq [⟨[J, I 1 31, I 48 48], []⟩, ⟨[J, J, I 32 32], []⟩] (.ite (.op 0 [.op 0 [.leaf (.at 0)]]) (.leaf (.at 1))) [.op 0 [.seq [⟨[J, I 1 31, I 48 48], []⟩] (.ite (.absurd 1 1 0) (.leaf (.at 0))) [.op 0 [.op 0 [.op 0 [.op 0 [.leaf (.at 0)]]]]]], .op 0 [.seq [⟨[J, J, I 40 40], []⟩, ⟨[J, J, I 32 32], []⟩] (.ite (.op 0 [.op 0 [.leaf (.at 0)]]) (.leaf (.at 1))) [.op 0 [.op 0 [.op 0 [.op 0 [.leaf (.at 0)]]]], .op 0 [.op 0 [.op 0 [.op 0 [.leaf (.at 0)]]]]]]]], .op 0 [.seq [⟨[J, J, I 16 16], []⟩, ⟨[J, J, I 0 0], []⟩] (.ite (.op 0 [.op 0 [.leaf (.at 0)]]) (.leaf (.at 1))) [.op 0 [.seq [⟨[J, J, I 24 24], []⟩, ⟨[J, J, I 16 16], []⟩] (.ite (.op 0 [.op 0 [.leaf (.at 0)]]) (.leaf (.at 1))) [.op 0 [.op 0 [.op 0 [.op 0 [.leaf (.at 0)]]]], .op 0 [.op 0 [.op 0 [.op 0 [.leaf (.at 0)]]]]]], .op 0 [.seq [⟨[J, J, I 8 8], []⟩, ⟨[J, J, I 0 0], []⟩] (.ite (.op 0 [.op 0 [.leaf (.at 0)]]) (.leaf (.at 1))) [.op 0 [.op 0 [.op 0 [.op 0 [.leaf (.at 0)]]]], .op 0 [.op 0 [.op 0 [.op 0 [.leaf (.at 0)]]]]]]]]]]
set_option maxRecDepth 100000 in
theorem a18_0 : total S18 p18_0 q18_0 t18 d18_0 = true := by kernel_rfl
def p18_1 : AS := ⟨[U], []⟩
def q18_1 : List AS := [⟨[J, I 0 64], []⟩]
set_option maxRecDepth 100000 in
def d18_1 : Cert := .op 0 [.seq [⟨[J, J, I 32 32], []⟩, ⟨[J, J, I 0 0], []⟩] (.ite (.op 0 [.leaf (.at 0)]) (.leaf (.at 1))) [.op 0 [.seq [⟨[J, J, I 48 48], []⟩, ⟨[J, J, I 32 32], []⟩] (.ite (.op 0 [.op 0 [.leaf (.at 0)]]) (.leaf (.at 1))) [.op 0 [.seq [⟨[J, J, I 56 56], []⟩, ⟨[J, J, I 48 48], []⟩] (.ite (.op 0 [.op 0 [.leaf (.at 0)]]) (.leaf (.at 1))) [.op 0 [.op 0 [.op 0 [.op 0 [.leaf (.at 0)]]]], .op 0 [.op 0 [.op 0 [.op 0 [.leaf (.at 0)]]]]]], .op 0 [.seq [⟨[J, J, I 40 40], []⟩, ⟨[J, J, I 32 32], []⟩] (.ite (.op 0 [.op 0 [.leaf (.at 0)]]) (.leaf (.at 1))) [.op 0 [.op 0 [.op 0 [.op 0 [.leaf (.at 0)]]]], .op 0 [.op 0 [.op 0 [.op 0 [.leaf (.at 0)]]]]]]]], .op 0 [.seq [⟨[J, J, I 16 16], []⟩, ⟨[J, J, I 0 0], []⟩] (.ite (.op 0 [.op 0 [.leaf (.at 0)]]) (.leaf (.at 1))) [.op 0 [.seq [⟨[J, J, I 24 24], []⟩, ⟨[J, J, I 16 16], []⟩] (.ite (.op 0 [.op 0 [.leaf (.at 0)]]) (.leaf (.at 1))) [.op 0 [.op 0 [.op 0 [.op 0 [.leaf (.at 0)]]]], .op 0 [.op 0 [.op 0 [.op 0 [.leaf (.at 0)]]]]]], .op 0 [.seq [⟨[J, J, I 8 8], []⟩, ⟨[J, J, I 0 0], []⟩] (.ite (.op 0 [.op 0 [.leaf (.at 0)]]) (.leaf (.at 1))) [.op 0 [.op 0 [.op 0 [.op 0 [.leaf (.at 0)]]]], .op 0 [.op 0 [.op 0 [.op 0 [.leaf (.at 0)]]]]]]]]]]
set_option maxRecDepth 100000 in
theorem a18_1 : total S18 p18_1 q18_1 t18 d18_1 = true := by kernel_rfl
def x18 : List (AS × List AS) := [(p18_0, q18_0), (p18_1, q18_1), (lenP, lenQ)]
theorem y18 : ∀ x ∈ x18, SumOk F18 x := all_cons (total_ok l18 z18 a18_0) (all_cons (total_ok l18 z18 a18_1) (all_cons (len_ok (tb := Tb18)) all_nil))
set_option maxRecDepth 100000 in
theorem n19 : Ents Tryz.prog gl0 (Es18 ++ [e18]) (Tb18 ++ [F18]) := Ents.snoc n18 rfl o18 rfl rfl
theorem l19 : ∀ G ∈ Tb18 ++ [F18], Lawful G := lawful_snoc l18 w18 rfl
theorem z19 : SumsOk (Tb18 ++ [F18]) (S18 ++ [x18]) := SumsOk.snoc z18 rfl y18 rfl rfl
/-- (gimbal.wide.Wide).Len -/
def s19 : Sig := { args := [.agg [.int (.u64) (.v 0), .int (.u64) (.v 1)]], heap := [], npin := 0, np := 2, res := .c (.int (.i64) (.v 0)), out := [], nr := 1 }
def e19 : Ent := ⟨173, s19⟩
def Es19 : List Ent := [e0, e1, e2, e3, e4, e5, e6, e7, e8, e9, e10, e11, e12, e13, e14, e15, e16, e17, e18]
def Tb19 : List PF := [F0, F1, F2, F3, F4, F5, F6, F7, F8, F9, F10, F11, F12, F13, F14, F15, F16, F17, F18]
def S19 : Sums := [x0, x1, x2, x3, x4, x5, x6, x7, x8, x9, x10, x11, x12, x13, x14, x15, x16, x17, x18]
set_option maxRecDepth 100000 in
def t19 : T := .op (.cmp .neq) [.v 0, .i 0] 1 (.ite (.v 2) (.op (.call 18) [.v 0] 1 (.op (.bin .add .i64) [.i 64, .v 3] 1 (.ret [.v 4]))) (.op (.call 18) [.v 1] 1 (.ret [.v 3])))
noncomputable def c19 : Cfg := ⟨Tryz.prog, gl0, Es19, s19.npin, Tryz.f173, s19, {}⟩
set_option maxRecDepth 100000 in
theorem k19 : compile c19 = .ok t19 := by kernel_rfl
def F19 : PF := t19.fn Tb19
set_option maxRecDepth 100000 in
theorem o19 : Contract Tryz.prog gl0 e19.f e19.sg F19 := compile_ok (c := c19) n19 l19 mo0 Tryz.func173 (by kernel_rfl) k19
theorem w19 : Lawful F19 := T.fn_lawful l19 t19
def p19_0 : AS := ⟨[I 0 0, I 0 9007199254740991], []⟩
def q19_0 : List AS := [⟨[J, J, I 0 53], []⟩]
set_option maxRecDepth 100000 in
def d19_0 : Cert := .op 0 [.ite (.absurd 2 2 0) (.op 0 [.leaf (.at 0)])]
set_option maxRecDepth 100000 in
theorem a19_0 : total S19 p19_0 q19_0 t19 d19_0 = true := by kernel_rfl
def p19_1 : AS := ⟨[U, U], []⟩
def q19_1 : List AS := [⟨[J, J, I 0 128], []⟩]
set_option maxRecDepth 100000 in
def d19_1 : Cert := .op 0 [.ite (.op 1 [.op 0 [.leaf (.at 0)]]) (.op 1 [.leaf (.at 0)])]
set_option maxRecDepth 100000 in
theorem a19_1 : total S19 p19_1 q19_1 t19 d19_1 = true := by kernel_rfl
def x19 : List (AS × List AS) := [(p19_0, q19_0), (p19_1, q19_1)]
theorem y19 : ∀ x ∈ x19, SumOk F19 x := all_cons (total_ok l19 z19 a19_0) (all_cons (total_ok l19 z19 a19_1) (all_nil))
set_option maxRecDepth 100000 in
theorem n20 : Ents Tryz.prog gl0 (Es19 ++ [e19]) (Tb19 ++ [F19]) := Ents.snoc n19 rfl o19 rfl rfl
theorem l20 : ∀ G ∈ Tb19 ++ [F19], Lawful G := lawful_snoc l19 w19 rfl
theorem z20 : SumsOk (Tb19 ++ [F19]) (S19 ++ [x19]) := SumsOk.snoc z19 rfl y19 rfl rfl
/-- (gimbal.wide.Wide).Left -/
def s20 : Sig := { args := [.agg [.int (.u64) (.v 0), .int (.u64) (.v 1)], .c (.int (.i64) (.v 2))], heap := [], npin := 0, np := 3, res := .agg [.int (.u64) (.v 0), .int (.u64) (.v 1)], out := [], nr := 2 }
def e20 : Ent := ⟨139, s20⟩
def Es20 : List Ent := [e0, e1, e2, e3, e4, e5, e6, e7, e8, e9, e10, e11, e12, e13, e14, e15, e16, e17, e18, e19]
def Tb20 : List PF := [F0, F1, F2, F3, F4, F5, F6, F7, F8, F9, F10, F11, F12, F13, F14, F15, F16, F17, F18, F19]
def S20 : Sums := [x0, x1, x2, x3, x4, x5, x6, x7, x8, x9, x10, x11, x12, x13, x14, x15, x16, x17, x18, x19]
set_option maxRecDepth 100000 in
def t20 : T := .seq (.op (.cmp .leq) [.v 2, .i 0] 1 (.ite (.v 3) (.ret [.v 0, .v 1]) (.op (.cmp .geq) [.v 2, .i 128] 1 (.ite (.v 4) (.ret [.i 0, .i 0]) (.op (.cmp .geq) [.v 2, .i 64] 1 (.ite (.v 5) (.op (.bin .sub .i64) [.v 2, .i 64] 1 (.op (.bin .shl .u64) [.v 1, .v 6] 1 (.ret [.v 7, .i 0]))) (.jump 0 [.v 2, .v 0, .v 1, .i 0, .i 0]))))))) (.op (.bin .shl .u64) [.v 1, .v 0] 1 (.op (.bin .sub .i64) [.i 64, .v 0] 1 (.op (.bin .shr .u64) [.v 2, .v 6] 1 (.op (.bin .or .u64) [.v 5, .v 7] 1 (.op (.bin .shl .u64) [.v 2, .v 0] 1 (.ret [.v 8, .v 9]))))))
noncomputable def c20 : Cfg := ⟨Tryz.prog, gl0, Es20, s20.npin, Tryz.f139, s20, {}⟩
set_option maxRecDepth 100000 in
theorem k20 : compile c20 = .ok t20 := by kernel_rfl
def F20 : PF := t20.fn Tb20
set_option maxRecDepth 100000 in
theorem o20 : Contract Tryz.prog gl0 e20.f e20.sg F20 := compile_ok (c := c20) n20 l20 mo0 Tryz.func139 (by kernel_rfl) k20
theorem w20 : Lawful F20 := T.fn_lawful l20 t20
def p20_0 : AS := ⟨[U, U, Z], []⟩
def q20_0 : List AS := [⟨[J, J, J, U, U], []⟩]
set_option maxRecDepth 100000 in
def d20_0 : Cert := .seq [⟨[J, J, H 63, K 1, J, J, J, J], [(3, 2, 0)]⟩] (.op 0 [.ite (.leaf (.at 0)) (.op 0 [.ite (.leaf (.at 0)) (.op 0 [.ite (.op 0 [.op 0 [.leaf (.at 0)]]) (.leaf (.at 0))])])]) [.op 0 [.op 0 [.op 0 [.op 0 [.op 0 [.leaf (.at 0)]]]]]]
set_option maxRecDepth 100000 in
theorem a20_0 : total S20 p20_0 q20_0 t20 d20_0 = true := by kernel_rfl
def x20 : List (AS × List AS) := [(p20_0, q20_0)]
theorem y20 : ∀ x ∈ x20, SumOk F20 x := all_cons (total_ok l20 z20 a20_0) (all_nil)
set_option maxRecDepth 100000 in
theorem n21 : Ents Tryz.prog gl0 (Es20 ++ [e20]) (Tb20 ++ [F20]) := Ents.snoc n20 rfl o20 rfl rfl
theorem l21 : ∀ G ∈ Tb20 ++ [F20], Lawful G := lawful_snoc l20 w20 rfl
theorem z21 : SumsOk (Tb20 ++ [F20]) (S20 ++ [x20]) := SumsOk.snoc z20 rfl y20 rfl rfl
/-- (gimbal.wide.Wide).Right -/
def s21 : Sig := { args := [.agg [.int (.u64) (.v 0), .int (.u64) (.v 1)], .c (.int (.i64) (.v 2))], heap := [], npin := 0, np := 3, res := .tup [{ agg := true, cs := [.int (.u64) (.v 0), .int (.u64) (.v 1)] }, { agg := false, cs := [.bool (.v 2)] }], out := [], nr := 3 }
def e21 : Ent := ⟨174, s21⟩
def Es21 : List Ent := [e0, e1, e2, e3, e4, e5, e6, e7, e8, e9, e10, e11, e12, e13, e14, e15, e16, e17, e18, e19, e20]
def Tb21 : List PF := [F0, F1, F2, F3, F4, F5, F6, F7, F8, F9, F10, F11, F12, F13, F14, F15, F16, F17, F18, F19, F20]
def S21 : Sums := [x0, x1, x2, x3, x4, x5, x6, x7, x8, x9, x10, x11, x12, x13, x14, x15, x16, x17, x18, x19, x20]
set_option maxRecDepth 100000 in
def t21 : T := .seq (.op (.cmp .leq) [.v 2, .i 0] 1 (.ite (.v 3) (.ret [.v 0, .v 1, .b false]) (.op (.cmp .geq) [.v 2, .i 128] 1 (.seq (.ite (.v 4) (.jump 0 [.v 2, .v 0, .v 1, .i 0, .i 0, .i 0, .i 0]) (.op (.cmp .geq) [.v 2, .i 64] 1 (.seq (.ite (.v 5) (.op (.bin .sub .i64) [.v 2, .i 64] 1 (.op (.bin .shr .u64) [.v 0, .v 6] 1 (.jump 0 [.v 2, .v 0, .v 1, .i 0, .i 0, .i 0, .v 7]))) (.op (.bin .shr .u64) [.v 0, .v 2] 1 (.op (.bin .sub .i64) [.i 64, .v 2] 1 (.op (.bin .shl .u64) [.v 0, .v 7] 1 (.op (.bin .shr .u64) [.v 1, .v 2] 1 (.op (.bin .or .u64) [.v 8, .v 9] 1 (.jump 0 [.v 2, .v 0, .v 1, .i 0, .i 0, .v 6, .v 10]))))))) (.jump 0 [.v 0, .v 1, .v 2, .v 3, .v 4, .v 5, .v 6])))) (.jump 0 [.v 0, .v 1, .v 2, .v 3, .v 4, .v 5, .v 6]))))) (.seq (.op (.call 20) [.v 5, .v 6, .v 0] 2 (.op (.cmp .eql) [.v 7, .v 1] 1 (.op .band [.b true, .v 9] 1 (.op (.cmp .eql) [.v 8, .v 2] 1 (.op .band [.v 10, .v 11] 1 (.op .bnot [.v 12] 1 (.ite (.v 13) (.jump 0 [.b true, .v 5, .v 6]) (.op (.cmp .geq) [.v 0, .i 128] 1 (.ite (.v 14) (.op (.call 16) [.v 1, .v 2] 1 (.op .bnot [.v 15] 1 (.jump 0 [.v 16, .v 5, .v 6]))) (.jump 0 [.b false, .v 5, .v 6])))))))))) (.ret [.v 1, .v 2, .v 0]))
noncomputable def c21 : Cfg := ⟨Tryz.prog, gl0, Es21, s21.npin, Tryz.f174, s21, {}⟩
set_option maxRecDepth 100000 in
theorem k21 : compile c21 = .ok t21 := by kernel_rfl
def F21 : PF := t21.fn Tb21
set_option maxRecDepth 100000 in
theorem o21 : Contract Tryz.prog gl0 e21.f e21.sg F21 := compile_ok (c := c21) n21 l21 mo0 Tryz.func174 (by kernel_rfl) k21
theorem w21 : Lawful F21 := T.fn_lawful l21 t21
def p21_0 : AS := ⟨[U, U, Z], []⟩
def q21_0 : List AS := [⟨[J, J, J, U, U, B 0 1], [(3, 0, 0)]⟩]
set_option maxRecDepth 100000 in
def d21_0 : Cert := .seq [⟨[H 18446744073709551615, U, I 1 9223372036854775807, J, J, J, J, J, K 0, U], [(2, 3, 0), (3, 2, 0), (0, 4, 0), (4, 0, 0), (1, 5, 0), (5, 1, 0), (8, 0, 0)]⟩] (.op 0 [.ite (.leaf (.at 0)) (.op 0 [.seq [⟨[H 18446744073709551615, U, I 1 9223372036854775807, J, J, J, I 0 0, I 0 0, I 0 9223372036854775807, U], [(2, 3, 0), (3, 2, 0), (0, 4, 0), (4, 0, 0), (1, 5, 0), (5, 1, 0), (8, 0, 0)]⟩] (.ite (.leaf (.at 0)) (.op 0 [.seq [⟨[H 18446744073709551615, U, I 1 127, J, J, J, I 0 0, I 0 0, I 0 9223372036854775807, U], [(2, 3, 0), (3, 2, 0), (0, 4, 0), (4, 0, 0), (1, 5, 0), (5, 1, 0), (8, 0, 0)]⟩] (.ite (.op 0 [.op 0 [.leaf (.at 0)]]) (.op 0 [.op 0 [.op 0 [.op 0 [.op 0 [.leaf (.at 0)]]]]])) [.leaf (.at 0)]])) [.leaf (.at 0)]])]) [.seq [⟨[H 18446744073709551615, J, J, B 0 1, K 0, U], [(4, 0, 0)]⟩] (.op 0 [.op 0 [.op 0 [.op 0 [.op 0 [.op 0 [.ite (.leaf (.at 0)) (.op 0 [.ite (.op 0 [.op 0 [.leaf (.split 19 (.at 0) (.at 0))]]) (.leaf (.at 0))])]]]]]]) [.leaf (.at 0)]]
set_option maxRecDepth 100000 in
theorem a21_0 : total S21 p21_0 q21_0 t21 d21_0 = true := by kernel_rfl
def x21 : List (AS × List AS) := [(p21_0, q21_0)]
theorem y21 : ∀ x ∈ x21, SumOk F21 x := all_cons (total_ok l21 z21 a21_0) (all_nil)
set_option maxRecDepth 100000 in
theorem n22 : Ents Tryz.prog gl0 (Es21 ++ [e21]) (Tb21 ++ [F21]) := Ents.snoc n21 rfl o21 rfl rfl
theorem l22 : ∀ G ∈ Tb21 ++ [F21], Lawful G := lawful_snoc l21 w21 rfl
theorem z22 : SumsOk (Tb21 ++ [F21]) (S21 ++ [x21]) := SumsOk.snoc z21 rfl y21 rfl rfl
/-- gimbal.round.split -/
def s22 : Sig := { args := [.agg [.int (.u64) (.v 0), .int (.u64) (.v 1)], .c (.int (.i64) (.v 2)), .c (.bool (.v 3))], heap := [], npin := 0, np := 4, res := .tup [{ agg := false, cs := [.bool (.v 0)] }, { agg := false, cs := [.bool (.v 1)] }], out := [], nr := 2 }
def e22 : Ent := ⟨175, s22⟩
def Es22 : List Ent := [e0, e1, e2, e3, e4, e5, e6, e7, e8, e9, e10, e11, e12, e13, e14, e15, e16, e17, e18, e19, e20, e21]
def Tb22 : List PF := [F0, F1, F2, F3, F4, F5, F6, F7, F8, F9, F10, F11, F12, F13, F14, F15, F16, F17, F18, F19, F20, F21]
def S22 : Sums := [x0, x1, x2, x3, x4, x5, x6, x7, x8, x9, x10, x11, x12, x13, x14, x15, x16, x17, x18, x19, x20, x21]
set_option maxRecDepth 100000 in
def t22 : T := .op (.cmp .gtr) [.v 2, .i 128] 1 (.ite (.v 4) (.ret [.b false, .v 3]) (.op (.bin .sub .i64) [.v 2, .i 1] 1 (.op (.call 21) [.v 0, .v 1, .v 5] 3 (.op (.bin .and .u64) [.v 7, .i 1] 1 (.op (.cmp .eql) [.v 9, .i 1] 1 (.ret [.v 10, .v 8]))))))
noncomputable def c22 : Cfg := ⟨Tryz.prog, gl0, Es22, s22.npin, Tryz.f175, s22, {}⟩
set_option maxRecDepth 100000 in
theorem k22 : compile c22 = .ok t22 := by kernel_rfl
def F22 : PF := t22.fn Tb22
set_option maxRecDepth 100000 in
theorem o22 : Contract Tryz.prog gl0 e22.f e22.sg F22 := compile_ok (c := c22) n22 l22 mo0 Tryz.func175 (by kernel_rfl) k22
theorem w22 : Lawful F22 := T.fn_lawful l22 t22
def p22_0 : AS := ⟨[U, U, Z, B 0 1], []⟩
def q22_0 : List AS := [⟨[J, J, J, B0, B 0 1, B 0 1], []⟩]
set_option maxRecDepth 100000 in
def d22_0 : Cert := .op 0 [.ite (.leaf (.at 0)) (.op 0 [.op 0 [.op 0 [.op 0 [.leaf (.split 14 (.at 0) (.at 0))]]]])]
set_option maxRecDepth 100000 in
theorem a22_0 : total S22 p22_0 q22_0 t22 d22_0 = true := by kernel_rfl
def x22 : List (AS × List AS) := [(p22_0, q22_0)]
theorem y22 : ∀ x ∈ x22, SumOk F22 x := all_cons (total_ok l22 z22 a22_0) (all_nil)
set_option maxRecDepth 100000 in
theorem n23 : Ents Tryz.prog gl0 (Es22 ++ [e22]) (Tb22 ++ [F22]) := Ents.snoc n22 rfl o22 rfl rfl
theorem l23 : ∀ G ∈ Tb22 ++ [F22], Lawful G := lawful_snoc l22 w22 rfl
theorem z23 : SumsOk (Tb22 ++ [F22]) (S22 ++ [x22]) := SumsOk.snoc z22 rfl y22 rfl rfl
/-- math.bits.Add64 -/
def s23 : Sig := carrySig
def e23 : Ent := ⟨205, s23⟩
def Es23 : List Ent := [e0, e1, e2, e3, e4, e5, e6, e7, e8, e9, e10, e11, e12, e13, e14, e15, e16, e17, e18, e19, e20, e21, e22]
def Tb23 : List PF := [F0, F1, F2, F3, F4, F5, F6, F7, F8, F9, F10, F11, F12, F13, F14, F15, F16, F17, F18, F19, F20, F21, F22]
def S23 : Sums := [x0, x1, x2, x3, x4, x5, x6, x7, x8, x9, x10, x11, x12, x13, x14, x15, x16, x17, x18, x19, x20, x21, x22]
def F23 : PF := carryF addC
set_option maxRecDepth 100000 in
theorem o23 : Contract Tryz.prog gl0 e23.f e23.sg F23 := add64_ok Tryz.func205 (by kernel_rfl) (by kernel_rfl) (by kernel_rfl) (by kernel_rfl)
theorem w23 : Lawful F23 := carryF_lawful
def x23 : List (AS × List AS) := [(carP, [carQ])]
theorem y23 : ∀ x ∈ x23, SumOk F23 x := all_cons add_car all_nil
set_option maxRecDepth 100000 in
theorem n24 : Ents Tryz.prog gl0 (Es23 ++ [e23]) (Tb23 ++ [F23]) := Ents.snoc n23 rfl o23 rfl rfl
theorem l24 : ∀ G ∈ Tb23 ++ [F23], Lawful G := lawful_snoc l23 w23 rfl
theorem z24 : SumsOk (Tb23 ++ [F23]) (S23 ++ [x23]) := SumsOk.snoc z23 rfl y23 rfl rfl
/-- (gimbal.wide.Wide).Add -/
def s24 : Sig := { args := [.agg [.int (.u64) (.v 0), .int (.u64) (.v 1)], .agg [.int (.u64) (.v 2), .int (.u64) (.v 3)]], heap := [], npin := 0, np := 4, res := .tup [{ agg := true, cs := [.int (.u64) (.v 0), .int (.u64) (.v 1)] }, { agg := false, cs := [.bool (.v 2)] }], out := [], nr := 3 }
def e24 : Ent := ⟨171, s24⟩
def Es24 : List Ent := [e0, e1, e2, e3, e4, e5, e6, e7, e8, e9, e10, e11, e12, e13, e14, e15, e16, e17, e18, e19, e20, e21, e22, e23]
def Tb24 : List PF := [F0, F1, F2, F3, F4, F5, F6, F7, F8, F9, F10, F11, F12, F13, F14, F15, F16, F17, F18, F19, F20, F21, F22, F23]
def S24 : Sums := [x0, x1, x2, x3, x4, x5, x6, x7, x8, x9, x10, x11, x12, x13, x14, x15, x16, x17, x18, x19, x20, x21, x22, x23]
set_option maxRecDepth 100000 in
def t24 : T := .op (.call 23) [.v 1, .v 3, .i 0] 2 (.op (.call 23) [.v 0, .v 2, .v 5] 2 (.op (.cmp .eql) [.v 7, .i 1] 1 (.ret [.v 6, .v 4, .v 8])))
noncomputable def c24 : Cfg := ⟨Tryz.prog, gl0, Es24, s24.npin, Tryz.f171, s24, {}⟩
set_option maxRecDepth 100000 in
theorem k24 : compile c24 = .ok t24 := by kernel_rfl
def F24 : PF := t24.fn Tb24
set_option maxRecDepth 100000 in
theorem o24 : Contract Tryz.prog gl0 e24.f e24.sg F24 := compile_ok (c := c24) n24 l24 mo0 Tryz.func171 (by kernel_rfl) k24
theorem w24 : Lawful F24 := T.fn_lawful l24 t24
def p24_0 : AS := ⟨[U, U, U, U], []⟩
def q24_0 : List AS := [⟨[J, J, J, J, U, U, B 0 1], []⟩]
set_option maxRecDepth 100000 in
def d24_0 : Cert := .op 0 [.op 0 [.op 0 [.leaf (.split 12 (.at 0) (.at 0))]]]
set_option maxRecDepth 100000 in
theorem a24_0 : total S24 p24_0 q24_0 t24 d24_0 = true := by kernel_rfl
def x24 : List (AS × List AS) := [(p24_0, q24_0)]
theorem y24 : ∀ x ∈ x24, SumOk F24 x := all_cons (total_ok l24 z24 a24_0) (all_nil)
set_option maxRecDepth 100000 in
theorem n25 : Ents Tryz.prog gl0 (Es24 ++ [e24]) (Tb24 ++ [F24]) := Ents.snoc n24 rfl o24 rfl rfl
theorem l25 : ∀ G ∈ Tb24 ++ [F24], Lawful G := lawful_snoc l24 w24 rfl
theorem z25 : SumsOk (Tb24 ++ [F24]) (S24 ++ [x24]) := SumsOk.snoc z24 rfl y24 rfl rfl
/-- gimbal.round.Round -/
def s25 : Sig := { args := [.c (.bool (.v 0)), .agg [.int (.u64) (.v 1), .int (.u64) (.v 2)], .c (.int (.i64) (.v 3)), .c (.bool (.v 4))], heap := [], npin := 0, np := 5, res := .tup [{ agg := false, cs := [.int (.u64) (.v 0)] }, { agg := false, cs := [.int (.u8) (.v 1)] }], out := [], nr := 2 }
def e25 : Ent := ⟨120, s25⟩
def Es25 : List Ent := [e0, e1, e2, e3, e4, e5, e6, e7, e8, e9, e10, e11, e12, e13, e14, e15, e16, e17, e18, e19, e20, e21, e22, e23, e24]
def Tb25 : List PF := [F0, F1, F2, F3, F4, F5, F6, F7, F8, F9, F10, F11, F12, F13, F14, F15, F16, F17, F18, F19, F20, F21, F22, F23, F24]
def S25 : Sums := [x0, x1, x2, x3, x4, x5, x6, x7, x8, x9, x10, x11, x12, x13, x14, x15, x16, x17, x18, x19, x20, x21, x22, x23, x24]
set_option maxRecDepth 100000 in
def t25 : T := .op .mn [.v 3, .i 100000] 1 (.op .mx [.i (-100000), .v 5] 1 (.op (.call 16) [.v 1, .v 2] 1 (.ite (.v 7) (.op .bnot [.v 4] 1 (.ite (.v 8) (.op (.call 17) [.v 0, .i 0, .i 0] 1 (.ret [.v 9, .i 0])) (.op (.call 17) [.v 0, .i 0, .i 0] 1 (.ret [.v 9, .i 3])))) (.op (.call 19) [.v 1, .v 2] 1 (.op (.bin .sub .i64) [.v 8, .i 53] 1 (.op (.call 19) [.v 1, .v 2] 1 (.op (.bin .add .i64) [.v 6, .v 10] 1 (.op (.cmp .lss) [.v 11, .i (-1021)] 1 (.op (.bin .add .i64) [.v 6, .v 9] 1 (.op (.cmp .lss) [.v 13, .i (-1074)] 1 (.seq (.ite (.v 14) (.op (.bin .sub .i64) [.i (-1074), .v 6] 1 (.jump 0 [.v 0, .v 6, .v 4, .v 15, .v 12, .v 1, .v 2])) (.jump 0 [.v 0, .v 6, .v 4, .v 9, .v 12, .v 1, .v 2])) (.op (.cmp .gtr) [.v 3, .i 0] 1 (.seq (.ite (.v 7) (.op (.call 21) [.v 5, .v 6, .v 3] 3 (.op (.call 22) [.v 5, .v 6, .v 3, .v 10] 2 (.seq (.ite (.v 11) (.jump 0 [.v 0, .v 1, .v 2, .v 3, .v 4, .b true, .b true, .v 12, .v 5, .v 6, .v 8, .v 9]) (.ite (.v 12) (.jump 0 [.v 0, .v 1, .v 2, .v 3, .v 4, .b true, .b false, .b true, .v 5, .v 6, .v 8, .v 9]) (.jump 0 [.v 0, .v 1, .v 2, .v 3, .v 4, .v 2, .b false, .b false, .v 5, .v 6, .v 8, .v 9]))) (.seq (.ite (.v 6) (.ite (.v 7) (.jump 0 [.v 0, .v 1, .v 3, .v 4, .v 5, .b true, .v 10, .v 11]) (.ite (.v 2) (.jump 0 [.v 0, .v 1, .v 3, .v 4, .v 5, .b true, .v 10, .v 11]) (.op (.bin .and .u64) [.v 11, .i 1] 1 (.op (.cmp .eql) [.v 12, .i 1] 1 (.jump 0 [.v 0, .v 1, .v 3, .v 4, .v 5, .v 13, .v 10, .v 11]))))) (.jump 0 [.v 0, .v 1, .v 3, .v 4, .v 5, .b false, .v 10, .v 11])) (.seq (.ite (.v 5) (.op (.call 24) [.v 6, .v 7, .i 0, .i 1] 3 (.jump 0 [.v 0, .v 1, .v 2, .v 3, .v 4, .v 8, .v 9])) (.jump 0 [.v 0, .v 1, .v 2, .v 3, .v 4, .v 6, .v 7])) (.jump 0 [.v 0, .v 1, .v 2, .v 3, .v 4, .v 5, .v 6])))))) (.seq (.op (.cmp .lss) [.v 3, .i 0] 1 (.ite (.v 8) (.op .bnot [.v 2] 1 (.jump 0 [.v 0, .v 1, .v 3, .v 4, .v 2, .v 9, .v 5, .v 6])) (.jump 0 [.v 0, .v 1, .v 3, .v 4, .v 2, .b false, .v 5, .v 6]))) (.seq (.ite (.v 5) (.op (.neg .i64) [.v 2] 1 (.op (.call 20) [.v 6, .v 7, .v 8] 2 (.jump 0 [.v 0, .v 1, .v 2, .v 3, .v 4, .v 9, .v 10]))) (.op (.cmp .lss) [.v 2, .i 0] 1 (.seq (.ite (.v 8) (.op (.neg .i64) [.v 2] 1 (.op (.call 20) [.v 6, .v 7, .v 9] 2 (.jump 0 [.v 0, .v 1, .v 2, .v 3, .v 4, .v 10, .v 11]))) (.jump 0 [.v 0, .v 1, .v 2, .v 3, .v 4, .v 6, .v 7])) (.jump 0 [.v 0, .v 1, .v 2, .v 3, .v 4, .v 5, .v 6])))) (.jump 0 [.v 0, .v 1, .v 2, .v 3, .v 4, .v 5, .v 6])))) (.op (.bin .add .i64) [.v 1, .v 2] 1 (.op (.cmp .eql) [.v 6, .i 9007199254740992] 1 (.seq (.ite (.v 8) (.op (.bin .shr .u64) [.v 6, .i 1] 1 (.op (.bin .add .i64) [.v 7, .i 1] 1 (.jump 0 [.v 0, .v 10, .v 3, .v 4, .v 9]))) (.jump 0 [.v 0, .v 7, .v 3, .v 4, .v 6])) (.seq (.ite (.v 3) (.seq (.ite (.v 2) (.jump 0 [.v 0, .v 1, .v 4, .i 3]) (.jump 0 [.v 0, .v 1, .v 4, .i 1])) (.jump 0 [.v 0, .v 1, .v 2, .v 3])) (.jump 0 [.v 0, .v 1, .v 4, .i 0])) (.seq (.op (.cmp .lss) [.v 2, .i 4503599627370496] 1 (.ite (.v 4) (.op (.call 17) [.v 0, .i 0, .v 2] 1 (.ret [.v 5, .v 3])) (.op (.bin .add .i64) [.v 1, .i 1075] 1 (.op (.cmp .geq) [.v 5, .i 2047] 1 (.ite (.v 6) (.op (.call 17) [.v 0, .i 2047, .i 0] 1 (.op (.bin .or .u8) [.v 3, .i 4] 1 (.op (.bin .or .u8) [.v 8, .i 1] 1 (.ret [.v 7, .v 9])))) (.jump 0 [.v 0, .v 1, .v 2, .v 3])))))) (.op (.bin .add .i64) [.v 1, .i 1075] 1 (.op (.call 17) [.v 0, .v 4, .v 2] 1 (.ret [.v 5, .v 3])))))))))))))))))))))
noncomputable def c25 : Cfg := ⟨Tryz.prog, gl0, Es25, s25.npin, Tryz.f120, s25, {}⟩
set_option maxRecDepth 100000 in
theorem k25 : compile c25 = .ok t25 := by kernel_rfl
def F25 : PF := t25.fn Tb25
set_option maxRecDepth 100000 in
theorem o25 : Contract Tryz.prog gl0 e25.f e25.sg F25 := compile_ok (c := c25) n25 l25 mo0 Tryz.func120 (by kernel_rfl) k25
theorem w25 : Lawful F25 := T.fn_lawful l25 t25
def p25_0 : AS := ⟨[B 0 1, U, U, Z, B 0 1], []⟩
def q25_0 : List AS := [⟨[B0, J, J, J, B0, U, I 0 7], []⟩]
set_option maxRecDepth 100000 in
def d25_0 : Cert := .op 0 [.op 0 [.op 0 [.ite (.op 0 [.ite (.op 0 [.leaf (.at 0)]) (.op 0 [.leaf (.at 0)])]) (.op 1 [.op 0 [.op 1 [.op 0 [.op 0 [.op 0 [.op 0 [.seq [⟨[B 0 1, U, U, Z, B 0 1, B 0 1, I (-100000) (-1022), B 0 1, I (-101074) 98926, B 1 1, J, J], [(1, 10, 0), (10, 1, 0), (2, 11, 0), (11, 2, 0)]⟩, ⟨[B 0 1, U, U, Z, B 0 1, B 0 1, I (-1149) 100000, B 0 1, I (-101074) 98926, B 0 0, J, J], [(1, 10, 0), (10, 1, 0), (2, 11, 0), (11, 2, 0), (6, 8, 100053)]⟩] (.ite (.op 0 [.leaf (.split 17 (.at 0) (.at 1))]) (.leaf (.split 17 (.at 0) (.at 1)))) [.op 0 [.seq [⟨[B 0 1, U, U, Z, B 0 1, B 0 1, I (-100000) (-1022), I 0 98926, ⟨.bool, (some 1), none, .none⟩, B0, J, U], []⟩, ⟨[B0, J, J, J, B0, B 0 1, I (-100000) (-1022), I (-101074) (-1), B0, ⟨.bool, none, (some 0), .none⟩, J, U], []⟩, ⟨[B 0 1, U, U, Z, B 0 1, B 0 1, I (-100000) (-1022), I (-101074) (-1), ⟨.bool, (some 1), none, .none⟩, ⟨.bool, (some 1), none, .none⟩, J, U], []⟩] (.ite (.op 0 [.op 0 [.seq [⟨[B 0 1, H 18446744073709551615, U, Z, B 0 1, B 0 1, I (-100000) (-1022), B0, I 1 98926, B 1 1, B 0 1, B0, B0, J, J, K 0, U], [(15, 1, 0)]⟩] (.ite (.leaf (.at 0)) (.ite (.leaf (.at 0)) (.leaf (.at 0)))) [.seq [⟨[B 0 1, H 18446744073709551615, U, Z, B 0 1, B 0 1, I (-100000) (-1022), I 1 98926, B 1 1, B 0 1, B0, K 0, U], [(11, 1, 0)]⟩] (.ite (.ite (.leaf (.at 0)) (.ite (.leaf (.at 0)) (.op 0 [.op 0 [.leaf (.split 18 (.at 0) (.at 0))]]))) (.leaf (.at 0))) [.seq [⟨[B 0 1, U, U, Z, B 0 1, B 0 1, I (-100000) (-1022), I 1 98926, B 1 1, B 0 1, U, U], []⟩] (.ite (.op 0 [.leaf (.at 0)]) (.leaf (.at 0))) [.leaf (.at 0)]]]]]) (.seq [⟨[B 0 1, U, U, Z, B 0 1, B 0 1, I (-100000) (-1022), I (-101074) (-1), B 1 1, B 0 0, ⟨.bool, (some 1), none, .none⟩, J, J], [(1, 11, 0), (11, 1, 0), (2, 12, 0), (12, 2, 0)]⟩, ⟨[B 0 1, U, U, Z, B 0 1, B 0 1, I (-100000) (-1022), I (-101074) (-1), B 1 1, B 1 1, ⟨.bool, none, (some 0), .none⟩, J, J], [(1, 11, 0), (11, 1, 0), (2, 12, 0), (12, 2, 0)]⟩, ⟨[B 0 1, U, U, Z, B 0 1, B 0 1, I (-100000) (-1022), I 0 0, B 1 1, B 0 1, ⟨.bool, none, (some 0), .none⟩, J, J], [(1, 11, 0), (11, 1, 0), (2, 12, 0), (12, 2, 0)]⟩] (.op 0 [.ite (.op 0 [.leaf (.split 14 (.at 0) (.at 1))]) (.leaf (.at 2))]) [.seq [⟨[B 0 1, U, U, Z, B 0 1, B 0 1, I (-100000) (-1022), I (-101074) (-1), B 1 1, B 0 0, U, U], []⟩] (.ite (.op 0 [.op 0 [.leaf (.at 0)]]) (.absurd 10 10 0)) [.leaf (.at 1)], .seq [⟨[B 0 1, U, U, Z, B 0 1, B 0 1, I (-100000) (-1022), I (-101074) (-1), B 1 1, B 1 1, U, U], []⟩] (.ite (.absurd 10 10 0) (.op 0 [.seq [⟨[B 0 1, U, U, Z, B 0 1, B 0 1, I (-100000) (-1022), I (-101074) (-1), B 1 1, B 1 1, U, U], []⟩] (.ite (.op 0 [.op 0 [.leaf (.at 0)]]) (.absurd 7 7 0)) [.leaf (.at 0)]])) [.leaf (.at 2)], .seq [⟨[B 0 1, U, U, Z, B 0 1, B 0 1, I (-100000) (-1022), I 0 0, B 1 1, B 0 1, J, J], [(1, 10, 0), (10, 1, 0), (2, 11, 0), (11, 2, 0)]⟩] (.ite (.absurd 10 10 0) (.op 0 [.seq [⟨[B 0 1, U, U, Z, B 0 1, B 0 1, I (-100000) (-1022), I 0 0, B 1 1, B 0 1, J, J], [(1, 10, 0), (10, 1, 0), (2, 11, 0), (11, 2, 0)]⟩] (.ite (.absurd 7 7 0) (.leaf (.at 0))) [.leaf (.at 0)]])) [.leaf (.at 0)]])) [.op 0 [.op 0 [.seq [⟨[B 0 1, U, U, Z, B 0 1, B 0 1, I (-100000) 97905, ⟨.bool, (some 1), none, .none⟩, B0, U], []⟩] (.ite (.op 0 [.op 0 [.leaf (.at 0)]]) (.leaf (.at 0))) [.seq [⟨[B0, J, J, J, B0, B 0 1, J, U, I 0 3], []⟩] (.ite (.seq [⟨[B 0 1, U, U, Z, B 0 1, B 0 1, I (-100000) 97905, U, I 3 3], []⟩] (.ite (.leaf (.at 0)) (.absurd 7 7 0)) [.leaf (.at 0)]) (.leaf (.at 0))) [.seq [⟨[B0, J, J, J, B0, B 0 1, J, I 4503599627370496 18446744073709551615, I 0 3], []⟩] (.op 0 [.ite (.op 0 [.leaf (.at 0)]) (.op 0 [.op 0 [.ite (.op 0 [.op 0 [.op 0 [.leaf (.at 0)]]]) (.leaf (.at 0))]])]) [.op 0 [.op 0 [.leaf (.at 0)]]]]]]], .op 0 [.op 0 [.seq [⟨[B0, J, J, J, B0, B 0 1, I (-201074) (-1022), B0, ⟨.bool, none, (some 0), .none⟩, U], []⟩] (.ite (.op 0 [.op 0 [.leaf (.at 0)]]) (.leaf (.at 0))) [.seq [⟨[B0, J, J, J, B0, B 0 1, I (-201074) (-1022), U, I 0 0], []⟩] (.ite (.absurd 8 8 0) (.leaf (.at 0))) [.seq [⟨[B0, J, J, J, B0, B 0 1, J, I 4503599627370496 18446744073709551615, I 0 0], []⟩] (.op 0 [.ite (.op 0 [.leaf (.at 0)]) (.op 0 [.op 0 [.ite (.absurd 10 10 0) (.leaf (.at 0))]])]) [.op 0 [.op 0 [.leaf (.at 0)]]]]]]], .op 0 [.op 0 [.seq [⟨[B 0 1, U, U, Z, B 0 1, B 0 1, I (-201074) (-1022), ⟨.bool, (some 1), none, .none⟩, ⟨.bool, (some 1), none, .none⟩, U], []⟩] (.ite (.op 0 [.op 0 [.leaf (.at 0)]]) (.leaf (.at 0))) [.seq [⟨[B0, J, J, J, B0, B 0 1, I (-201074) (-1022), U, I 3 3], []⟩] (.ite (.seq [⟨[B 0 1, U, U, Z, B 0 1, B 0 1, I (-201074) (-1022), U, I 3 3], []⟩] (.ite (.leaf (.at 0)) (.absurd 7 7 0)) [.leaf (.at 0)]) (.absurd 8 8 0)) [.seq [⟨[B0, J, J, J, B0, B 0 1, J, I 4503599627370496 18446744073709551615, I 3 3], []⟩] (.op 0 [.ite (.op 0 [.leaf (.at 0)]) (.op 0 [.op 0 [.ite (.absurd 10 10 0) (.leaf (.at 0))]])]) [.op 0 [.op 0 [.leaf (.at 0)]]]]]]]]], .op 0 [.seq [⟨[B 0 1, U, U, Z, B 0 1, B 0 1, I (-1149) 100000, I 0 98926, ⟨.bool, none, (some 0), .none⟩, B0, J, U], []⟩, ⟨[B0, J, J, J, B0, B 0 1, J, J, B0, ⟨.bool, none, (some 0), .none⟩, J, U], []⟩, ⟨[B 0 1, U, U, Z, B 0 1, B 0 1, I (-1149) 100000, I (-101074) (-1), ⟨.bool, none, (some 0), .none⟩, ⟨.bool, (some 1), none, .none⟩, J, U], []⟩] (.ite (.op 0 [.op 0 [.seq [⟨[B 0 1, H 18446744073709551615, U, Z, B 0 1, B 0 1, I (-1149) 100000, B0, I 1 98926, B 0 0, B 0 1, B0, B0, J, J, K 0, U], [(15, 1, 0)]⟩] (.ite (.leaf (.at 0)) (.ite (.leaf (.at 0)) (.leaf (.at 0)))) [.seq [⟨[B 0 1, H 18446744073709551615, U, Z, B 0 1, B 0 1, I (-1149) 100000, I 1 98926, B 0 0, B 0 1, B0, K 0, U], [(11, 1, 0)]⟩] (.ite (.ite (.leaf (.at 0)) (.ite (.leaf (.at 0)) (.op 0 [.op 0 [.leaf (.split 18 (.at 0) (.at 0))]]))) (.leaf (.at 0))) [.seq [⟨[B 0 1, U, U, Z, B 0 1, B 0 1, I (-1149) 100000, I 1 98926, B 0 0, B 0 1, U, U], []⟩] (.ite (.op 0 [.leaf (.at 0)]) (.leaf (.at 0))) [.leaf (.at 0)]]]]]) (.seq [⟨[B 0 1, U, U, Z, B 0 1, B 0 1, I (-1149) 100000, I (-101074) (-1), B 0 0, B 0 0, ⟨.bool, (some 1), none, .none⟩, J, J], [(6, 7, 100053), (1, 11, 0), (11, 1, 0), (2, 12, 0), (12, 2, 0)]⟩, ⟨[B 0 1, U, U, Z, B 0 1, B 0 1, I (-1149) 100000, I (-101074) (-1), B 0 0, B 1 1, ⟨.bool, none, (some 0), .none⟩, J, J], [(6, 7, 100053), (1, 11, 0), (11, 1, 0), (2, 12, 0), (12, 2, 0)]⟩, ⟨[B 0 1, U, U, Z, B 0 1, B 0 1, I (-1149) 100000, I 0 0, B 0 0, B 0 1, ⟨.bool, none, (some 0), .none⟩, J, J], [(1, 11, 0), (11, 1, 0), (2, 12, 0), (12, 2, 0)]⟩] (.op 0 [.ite (.op 0 [.leaf (.split 14 (.at 0) (.at 1))]) (.leaf (.at 2))]) [.seq [⟨[B 0 1, U, U, Z, B 0 1, B 0 1, I (-1149) 100000, I (-101074) (-1), B 0 0, B 0 0, U, U], [(6, 7, 100053)]⟩] (.ite (.op 0 [.op 0 [.leaf (.at 0)]]) (.absurd 10 10 0)) [.leaf (.at 1)], .seq [⟨[B 0 1, U, U, Z, B 0 1, B 0 1, I (-1149) 100000, I (-101074) (-1), B 0 0, B 1 1, U, U], [(6, 7, 100053)]⟩] (.ite (.absurd 10 10 0) (.op 0 [.seq [⟨[B 0 1, U, U, Z, B 0 1, B 0 1, I (-1149) 100000, I (-101074) (-1), B 0 0, B 1 1, U, U], [(6, 7, 100053)]⟩] (.ite (.op 0 [.op 0 [.leaf (.at 0)]]) (.absurd 7 7 0)) [.leaf (.at 0)]])) [.leaf (.at 2)], .seq [⟨[B 0 1, U, U, Z, B 0 1, B 0 1, I (-1149) 100000, I 0 0, B 0 0, B 0 1, J, J], [(1, 10, 0), (10, 1, 0), (2, 11, 0), (11, 2, 0)]⟩] (.ite (.absurd 10 10 0) (.op 0 [.seq [⟨[B 0 1, U, U, Z, B 0 1, B 0 1, I (-1149) 100000, I 0 0, B 0 0, B 0 1, J, J], [(1, 10, 0), (10, 1, 0), (2, 11, 0), (11, 2, 0)]⟩] (.ite (.absurd 7 7 0) (.leaf (.at 0))) [.leaf (.at 0)]])) [.leaf (.at 0)]])) [.op 0 [.op 0 [.seq [⟨[B 0 1, U, U, Z, B 0 1, B 0 1, I (-1149) 198927, ⟨.bool, none, (some 0), .none⟩, B0, U], []⟩] (.ite (.op 0 [.op 0 [.leaf (.at 0)]]) (.leaf (.at 0))) [.seq [⟨[B0, J, J, J, B0, B 0 1, J, U, I 0 1], []⟩] (.ite (.seq [⟨[B 0 1, U, U, Z, B 0 1, B 0 1, I (-1149) 198927, U, I 1 1], []⟩] (.ite (.absurd 7 7 0) (.leaf (.at 0))) [.leaf (.at 0)]) (.leaf (.at 0))) [.seq [⟨[B0, J, J, J, B0, B 0 1, J, I 4503599627370496 18446744073709551615, I 0 1], []⟩] (.op 0 [.ite (.op 0 [.leaf (.at 0)]) (.op 0 [.op 0 [.ite (.op 0 [.op 0 [.op 0 [.leaf (.at 0)]]]) (.leaf (.at 0))]])]) [.op 0 [.op 0 [.leaf (.at 0)]]]]]]], .op 0 [.op 0 [.seq [⟨[B0, J, J, J, B0, B 0 1, J, B0, ⟨.bool, none, (some 0), .none⟩, U], []⟩] (.ite (.op 0 [.op 0 [.leaf (.at 0)]]) (.leaf (.at 0))) [.seq [⟨[B0, J, J, J, B0, B 0 1, J, U, I 0 0], []⟩] (.ite (.absurd 8 8 0) (.leaf (.at 0))) [.seq [⟨[B0, J, J, J, B0, B 0 1, J, I 4503599627370496 18446744073709551615, I 0 0], []⟩] (.op 0 [.ite (.op 0 [.leaf (.at 0)]) (.op 0 [.op 0 [.ite (.op 0 [.op 0 [.op 0 [.leaf (.at 0)]]]) (.leaf (.at 0))]])]) [.op 0 [.op 0 [.leaf (.at 0)]]]]]]], .op 0 [.op 0 [.seq [⟨[B 0 1, U, U, Z, B 0 1, B 0 1, I (-102223) 100000, ⟨.bool, none, (some 0), .none⟩, ⟨.bool, (some 1), none, .none⟩, U], []⟩] (.ite (.op 0 [.op 0 [.leaf (.at 0)]]) (.leaf (.at 0))) [.seq [⟨[B0, J, J, J, B0, B 0 1, J, U, I 1 1], []⟩] (.ite (.seq [⟨[B 0 1, U, U, Z, B 0 1, B 0 1, I (-102223) 100000, U, I 1 1], []⟩] (.ite (.absurd 7 7 0) (.leaf (.at 0))) [.leaf (.at 0)]) (.absurd 8 8 0)) [.seq [⟨[B0, J, J, J, B0, B 0 1, J, I 4503599627370496 18446744073709551615, I 1 1], []⟩] (.op 0 [.ite (.op 0 [.leaf (.at 0)]) (.op 0 [.op 0 [.ite (.op 0 [.op 0 [.op 0 [.leaf (.at 0)]]]) (.leaf (.at 0))]])]) [.op 0 [.op 0 [.leaf (.at 0)]]]]]]]]]]]]]]]]])]]]
set_option maxRecDepth 100000 in
theorem a25_0 : total S25 p25_0 q25_0 t25 d25_0 = true := by kernel_rfl
def x25 : List (AS × List AS) := [(p25_0, q25_0)]
theorem y25 : ∀ x ∈ x25, SumOk F25 x := all_cons (total_ok l25 z25 a25_0) (all_nil)
set_option maxRecDepth 100000 in
theorem n26 : Ents Tryz.prog gl0 (Es25 ++ [e25]) (Tb25 ++ [F25]) := Ents.snoc n25 rfl o25 rfl rfl
theorem l26 : ∀ G ∈ Tb25 ++ [F25], Lawful G := lawful_snoc l25 w25 rfl
theorem z26 : SumsOk (Tb25 ++ [F25]) (S25 ++ [x25]) := SumsOk.snoc z25 rfl y25 rfl rfl
/-- gimbal.more.Scale -/
def s26 : Sig := { args := [.c (.int (.u64) (.v 0)), .c (.int (.i64) (.v 1))], heap := [], npin := 0, np := 2, res := .tup [{ agg := false, cs := [.int (.u64) (.v 0)] }, { agg := false, cs := [.int (.u8) (.v 1)] }], out := [], nr := 2 }
def e26 : Ent := ⟨66, s26⟩
def Es26 : List Ent := [e0, e1, e2, e3, e4, e5, e6, e7, e8, e9, e10, e11, e12, e13, e14, e15, e16, e17, e18, e19, e20, e21, e22, e23, e24, e25]
def Tb26 : List PF := [F0, F1, F2, F3, F4, F5, F6, F7, F8, F9, F10, F11, F12, F13, F14, F15, F16, F17, F18, F19, F20, F21, F22, F23, F24, F25]
def S26 : Sums := [x0, x1, x2, x3, x4, x5, x6, x7, x8, x9, x10, x11, x12, x13, x14, x15, x16, x17, x18, x19, x20, x21, x22, x23, x24, x25]
set_option maxRecDepth 100000 in
def t26 : T := .op (.call 11) [.v 0] 1 (.seq (.op (.cmp .eql) [.v 2, .i 5] 1 (.ite (.v 3) (.op (.call 14) [.v 0] 1 (.ite (.v 4) (.ret [.i 9221120237041090560, .i 16]) (.ret [.i 9221120237041090560, .i 0]))) (.op (.cmp .eql) [.v 2, .i 4] 1 (.seq (.ite (.v 4) (.jump 0 [.v 0, .v 1, .b true]) (.op (.cmp .eql) [.v 2, .i 1] 1 (.jump 0 [.v 0, .v 1, .v 5]))) (.ite (.v 2) (.ret [.v 0, .i 0]) (.jump 0 [.v 0, .v 1])))))) (.op (.call 12) [.v 0] 2 (.op (.call 15) [.v 0] 1 (.op .mn [.v 1, .i 10000] 1 (.op .mx [.i (-10000), .v 5] 1 (.op (.bin .add .i64) [.v 3, .v 6] 1 (.op (.call 25) [.v 4, .i 0, .v 2, .v 7, .b false] 2 (.ret [.v 8, .v 9]))))))))
noncomputable def c26 : Cfg := ⟨Tryz.prog, gl0, Es26, s26.npin, Tryz.f66, s26, {}⟩
set_option maxRecDepth 100000 in
theorem k26 : compile c26 = .ok t26 := by kernel_rfl
def F26 : PF := t26.fn Tb26
set_option maxRecDepth 100000 in
theorem o26 : Contract Tryz.prog gl0 e26.f e26.sg F26 := compile_ok (c := c26) n26 l26 mo0 Tryz.func66 (by kernel_rfl) k26
theorem w26 : Lawful F26 := T.fn_lawful l26 t26
def p26_0 : AS := ⟨[U, Z], []⟩
def q26_0 : List AS := [⟨[J, J, U, I 0 16], []⟩]
set_option maxRecDepth 100000 in
def d26_0 : Cert := .op 0 [.seq [⟨[U, J, J, J], [(0, 2, 0), (2, 0, 0)]⟩] (.op 0 [.ite (.op 0 [.ite (.leaf (.at 0)) (.leaf (.at 0))]) (.op 0 [.seq [⟨[U, Z, J, J, B0], [(0, 2, 0), (2, 0, 0), (1, 3, 0), (3, 1, 0)]⟩] (.ite (.leaf (.at 0)) (.op 0 [.leaf (.split 7 (.at 0) (.at 0))])) [.ite (.leaf (.at 0)) (.leaf (.at 0))]])]) [.op 0 [.op 0 [.op 0 [.op 0 [.op 0 [.op 0 [.leaf (.at 0)]]]]]]]]
set_option maxRecDepth 100000 in
theorem a26_0 : total S26 p26_0 q26_0 t26 d26_0 = true := by kernel_rfl
def x26 : List (AS × List AS) := [(p26_0, q26_0)]
theorem y26 : ∀ x ∈ x26, SumOk F26 x := all_cons (total_ok l26 z26 a26_0) (all_nil)
set_option maxRecDepth 100000 in
theorem n27 : Ents Tryz.prog gl0 (Es26 ++ [e26]) (Tb26 ++ [F26]) := Ents.snoc n26 rfl o26 rfl rfl
theorem l27 : ∀ G ∈ Tb26 ++ [F26], Lawful G := lawful_snoc l26 w26 rfl
theorem z27 : SumsOk (Tb26 ++ [F26]) (S26 ++ [x26]) := SumsOk.snoc z26 rfl y26 rfl rfl
/-- (gimbal.mat.Matrix).Scale -/
def s27 : Sig := { args := [.agg [.int (.i64) (.v 0), .int (.i64) (.v 1), .int (.i64) (.v 2), .slc 0], .c (.int (.i64) (.v 4))], heap := [some (.list (.int (.u64)) 1 (.v 3) false)], npin := 0, np := 5, res := .tup [{ agg := true, cs := [.int (.i64) (.v 0), .int (.i64) (.v 1), .int (.i64) (.v 2), .slc 1] }, { agg := false, cs := [.int (.u8) (.v 4)] }], out := [none, some (.list (.int (.u64)) 1 (.v 3) true)], nr := 5 }
def e27 : Ent := ⟨16, s27⟩
def Es27 : List Ent := [e0, e1, e2, e3, e4, e5, e6, e7, e8, e9, e10, e11, e12, e13, e14, e15, e16, e17, e18, e19, e20, e21, e22, e23, e24, e25, e26]
def Tb27 : List PF := [F0, F1, F2, F3, F4, F5, F6, F7, F8, F9, F10, F11, F12, F13, F14, F15, F16, F17, F18, F19, F20, F21, F22, F23, F24, F25, F26]
def S27 : Sums := [x0, x1, x2, x3, x4, x5, x6, x7, x8, x9, x10, x11, x12, x13, x14, x15, x16, x17, x18, x19, x20, x21, x22, x23, x24, x25, x26]
set_option maxRecDepth 100000 in
def t27 : T := .op (.call 13) [.v 0, .v 1, .v 2, .v 3] 4 (.op (.len 1) [.v 8] 1 (.seq (.loop [.v 4, .i 0, .v 9, .i 0, .i 0, .i 0, .i 0, .nil, .v 8, .v 5, .v 6, .v 7] (.op (.cmp .lss) [.v 3, .v 2] 1 (.ite (.v 12) (.seq (.op (.chk 1) [.v 8, .v 3] 0 (.op (.get 1 0) [.v 8, .v 3] 1 (.op (.call 26) [.v 13, .v 0] 2 (.op (.bin .or .u8) [.v 1, .v 15] 1 (.op (.chk 1) [.v 8, .v 3] 0 (.op (.set 1 0) [.v 8, .v 3, .v 14] 1 (.jump 0 [.v 0, .v 16, .v 2, .v 3, .v 4, .v 5, .v 6, .v 7, .v 17, .v 9, .v 10, .v 11]))))))) (.op (.bin .add .i64) [.v 3, .i 1] 1 (.jump 0 [.v 0, .v 1, .v 2, .v 12, .v 4, .v 5, .v 6, .v 7, .v 8, .v 9, .v 10, .v 11]))) (.jump 1 [.v 1, .v 4, .v 5, .v 6, .v 7, .v 8, .v 9, .v 10, .v 11])))) (.ret [.v 6, .v 7, .v 8, .v 5, .v 0])))
noncomputable def c27 : Cfg := ⟨Tryz.prog, gl0, Es27, s27.npin, Tryz.f16, s27, {}⟩
set_option maxRecDepth 100000 in
theorem k27 : compile c27 = .ok t27 := by kernel_rfl
def F27 : PF := t27.fn Tb27
set_option maxRecDepth 100000 in
theorem o27 : Contract Tryz.prog gl0 e27.f e27.sg F27 := compile_ok (c := c27) n27 l27 mo0 Tryz.func16 (by kernel_rfl) k27
theorem w27 : Lawful F27 := T.fn_lawful l27 t27
def x27 : List (AS × List AS) := []
theorem y27 : ∀ x ∈ x27, SumOk F27 x := all_nil
set_option maxRecDepth 100000 in
theorem n28 : Ents Tryz.prog gl0 (Es27 ++ [e27]) (Tb27 ++ [F27]) := Ents.snoc n27 rfl o27 rfl rfl
theorem l28 : ∀ G ∈ Tb27 ++ [F27], Lawful G := lawful_snoc l27 w27 rfl
theorem z28 : SumsOk (Tb27 ++ [F27]) (S27 ++ [x27]) := SumsOk.snoc z27 rfl y27 rfl rfl
/-- (gimbal.mat.Matrix).Unit -/
def s28 : Sig := { args := [.agg [.int (.i64) (.v 0), .int (.i64) (.v 1), .int (.i64) (.v 2), .slc 0]], heap := [some (.list (.int (.u64)) 1 (.v 3) false)], npin := 0, np := 4, res := .tup [{ agg := true, cs := [.int (.i64) (.v 0), .int (.i64) (.v 1), .int (.i64) (.v 2), .slc 1] }, { agg := false, cs := [.int (.i64) (.v 4)] }], out := [none, some (.list (.int (.u64)) 1 (.v 3) true)], nr := 5 }
def e28 : Ent := ⟨93, s28⟩
def Es28 : List Ent := [e0, e1, e2, e3, e4, e5, e6, e7, e8, e9, e10, e11, e12, e13, e14, e15, e16, e17, e18, e19, e20, e21, e22, e23, e24, e25, e26, e27]
def Tb28 : List PF := [F0, F1, F2, F3, F4, F5, F6, F7, F8, F9, F10, F11, F12, F13, F14, F15, F16, F17, F18, F19, F20, F21, F22, F23, F24, F25, F26, F27]
def S28 : Sums := [x0, x1, x2, x3, x4, x5, x6, x7, x8, x9, x10, x11, x12, x13, x14, x15, x16, x17, x18, x19, x20, x21, x22, x23, x24, x25, x26, x27]
set_option maxRecDepth 100000 in
def t28 : T := .seq (.loop [.i 0, .v 0, .i 0, .v 3, .v 0, .v 1, .v 2, .i 0, .i 0, .i 0, .nil] (.op (.cmp .lss) [.v 2, .v 1] 1 (.ite (.v 11) (.seq (.seq (.loop [.v 0, .v 2, .v 1, .v 2, .v 5, .i 0, .v 3, .v 4, .v 5, .v 6, .v 7, .v 8, .v 9, .v 10] (.op (.cmp .lss) [.v 5, .v 4] 1 (.ite (.v 14) (.seq (.op (.call 5) [.v 7, .v 8, .v 9, .v 6, .v 1, .v 5] 1 (.op (.call 9) [.v 15] 1 (.op .mx [.v 0, .v 16] 1 (.jump 0 [.v 17, .v 1, .v 2, .v 3, .v 4, .v 5, .v 6, .v 7, .v 8, .v 9, .v 10, .v 11, .v 12, .v 13])))) (.op (.bin .add .i64) [.v 5, .i 1] 1 (.jump 0 [.v 0, .v 1, .v 2, .v 3, .v 4, .v 14, .v 6, .v 7, .v 8, .v 9, .v 10, .v 11, .v 12, .v 13]))) (.jump 1 [.v 0, .v 2, .v 3, .v 6, .v 7, .v 8, .v 9, .v 10, .v 11, .v 12, .v 13])))) (.jump 0 [.v 0, .v 1, .v 2, .v 3, .v 4, .v 5, .v 6, .v 7, .v 8, .v 9, .v 10])) (.op (.bin .add .i64) [.v 2, .i 1] 1 (.jump 0 [.v 0, .v 1, .v 11, .v 3, .v 4, .v 5, .v 6, .v 7, .v 8, .v 9, .v 10]))) (.jump 1 [.v 0, .v 3, .v 4, .v 5, .v 6, .v 7, .v 8, .v 9, .v 10])))) (.op (.call 12) [.v 0] 2 (.op (.cmp .eql) [.v 9, .i 0] 1 (.ite (.v 11) (.op (.call 13) [.v 2, .v 3, .v 4, .v 1] 4 (.ret [.v 12, .v 13, .v 14, .v 15, .i 0])) (.seq (.loop [.v 9, .v 10, .v 1, .v 2, .v 3, .v 4, .v 5, .v 6, .v 7, .v 8] (.op (.cmp .gtr) [.v 0, .i 1] 1 (.ite (.v 10) (.seq (.op (.bin .shr .u64) [.v 0, .i 1] 1 (.op (.bin .add .i64) [.v 1, .i 1] 1 (.jump 0 [.v 11, .v 12, .v 2, .v 3, .v 4, .v 5, .v 6, .v 7, .v 8, .v 9]))) (.jump 0 [.v 0, .v 1, .v 2, .v 3, .v 4, .v 5, .v 6, .v 7, .v 8, .v 9])) (.jump 1 [.v 1, .v 2, .v 3, .v 4, .v 5, .v 6, .v 7, .v 8, .v 9])))) (.op (.neg .i64) [.v 0] 1 (.op (.call 27) [.v 2, .v 3, .v 4, .v 1, .v 9] 5 (.ret [.v 10, .v 11, .v 12, .v 13, .v 0])))))))
noncomputable def c28 : Cfg := ⟨Tryz.prog, gl0, Es28, s28.npin, Tryz.f93, s28, {}⟩
set_option maxRecDepth 100000 in
theorem k28 : compile c28 = .ok t28 := by kernel_rfl
def F28 : PF := t28.fn Tb28
set_option maxRecDepth 100000 in
theorem o28 : Contract Tryz.prog gl0 e28.f e28.sg F28 := compile_ok (c := c28) n28 l28 mo0 Tryz.func93 (by kernel_rfl) k28
theorem w28 : Lawful F28 := T.fn_lawful l28 t28
def x28 : List (AS × List AS) := []
theorem y28 : ∀ x ∈ x28, SumOk F28 x := all_nil
set_option maxRecDepth 100000 in
theorem n29 : Ents Tryz.prog gl0 (Es28 ++ [e28]) (Tb28 ++ [F28]) := Ents.snoc n28 rfl o28 rfl rfl
theorem l29 : ∀ G ∈ Tb28 ++ [F28], Lawful G := lawful_snoc l28 w28 rfl
theorem z29 : SumsOk (Tb28 ++ [F28]) (S28 ++ [x28]) := SumsOk.snoc z28 rfl y28 rfl rfl
/-- gimbal.mat.One -/
def s29 : Sig := { args := [.c (.int (.i64) (.v 0))], heap := [], npin := 0, np := 1, res := .agg [.int (.i64) (.v 0), .int (.i64) (.v 1), .int (.i64) (.v 2), .slc 0], out := [some (.list (.int (.u64)) 1 (.v 3) true)], nr := 4 }
def e29 : Ent := ⟨121, s29⟩
def Es29 : List Ent := [e0, e1, e2, e3, e4, e5, e6, e7, e8, e9, e10, e11, e12, e13, e14, e15, e16, e17, e18, e19, e20, e21, e22, e23, e24, e25, e26, e27, e28]
def Tb29 : List PF := [F0, F1, F2, F3, F4, F5, F6, F7, F8, F9, F10, F11, F12, F13, F14, F15, F16, F17, F18, F19, F20, F21, F22, F23, F24, F25, F26, F27, F28]
def S29 : Sums := [x0, x1, x2, x3, x4, x5, x6, x7, x8, x9, x10, x11, x12, x13, x14, x15, x16, x17, x18, x19, x20, x21, x22, x23, x24, x25, x26, x27, x28]
set_option maxRecDepth 100000 in
def t29 : T := .op (.call 0) [.v 0, .v 0] 4 (.seq (.loop [.v 1, .i 0, .i 0, .i 0, .i 0, .nil, .v 4, .v 1, .v 2, .v 3] (.op (.cmp .lss) [.v 1, .v 0] 1 (.ite (.v 10) (.seq (.op (.call 2) [.v 7, .v 8, .v 9, .v 6, .v 1, .v 1, .i 4607182418800017408] 1 (.jump 0 [.v 0, .v 1, .v 2, .v 3, .v 4, .v 5, .v 11, .v 7, .v 8, .v 9])) (.op (.bin .add .i64) [.v 1, .i 1] 1 (.jump 0 [.v 0, .v 10, .v 2, .v 3, .v 4, .v 5, .v 6, .v 7, .v 8, .v 9]))) (.jump 1 [.v 2, .v 3, .v 4, .v 5, .v 6, .v 7, .v 8, .v 9])))) (.ret [.v 5, .v 6, .v 7, .v 4]))
noncomputable def c29 : Cfg := ⟨Tryz.prog, gl0, Es29, s29.npin, Tryz.f121, s29, {}⟩
set_option maxRecDepth 100000 in
theorem k29 : compile c29 = .ok t29 := by kernel_rfl
def F29 : PF := t29.fn Tb29
set_option maxRecDepth 100000 in
theorem o29 : Contract Tryz.prog gl0 e29.f e29.sg F29 := compile_ok (c := c29) n29 l29 mo0 Tryz.func121 (by kernel_rfl) k29
theorem w29 : Lawful F29 := T.fn_lawful l29 t29
def x29 : List (AS × List AS) := []
theorem y29 : ∀ x ∈ x29, SumOk F29 x := all_nil
set_option maxRecDepth 100000 in
theorem n30 : Ents Tryz.prog gl0 (Es29 ++ [e29]) (Tb29 ++ [F29]) := Ents.snoc n29 rfl o29 rfl rfl
theorem l30 : ∀ G ∈ Tb29 ++ [F29], Lawful G := lawful_snoc l29 w29 rfl
theorem z30 : SumsOk (Tb29 ++ [F29]) (S29 ++ [x29]) := SumsOk.snoc z29 rfl y29 rfl rfl
end YtjbacabjgdfmdaaGreatDoor.Gp
end Go.Proofs

/- What the program's functions do, and that they end, part 2: made by a program of this session. -/
namespace Go.Proofs
open Go Gm
namespace YtjbacabjgdfmdaaGreatDoor.Gp
/-- gimbal.order.Greatest -/
def s30 : Sig := { args := [.c (.slc 0)], heap := [some (.list (.int (.u64)) 1 (.v 0) false)], npin := 0, np := 1, res := .tup [{ agg := false, cs := [.int (.u64) (.v 0)] }, { agg := false, cs := [.int (.i64) (.v 1)] }], out := [none], nr := 2 }
def e30 : Ent := ⟨143, s30⟩
def Es30 : List Ent := [e0, e1, e2, e3, e4, e5, e6, e7, e8, e9, e10, e11, e12, e13, e14, e15, e16, e17, e18, e19, e20, e21, e22, e23, e24, e25, e26, e27, e28, e29]
def Tb30 : List PF := [F0, F1, F2, F3, F4, F5, F6, F7, F8, F9, F10, F11, F12, F13, F14, F15, F16, F17, F18, F19, F20, F21, F22, F23, F24, F25, F26, F27, F28, F29]
def S30 : Sums := [x0, x1, x2, x3, x4, x5, x6, x7, x8, x9, x10, x11, x12, x13, x14, x15, x16, x17, x18, x19, x20, x21, x22, x23, x24, x25, x26, x27, x28, x29]
set_option maxRecDepth 100000 in
def t30 : T := .op (.len 1) [.v 0] 1 (.seq (.loop [.i 0, .i (-1), .v 1, .i 0, .v 0] (.op (.cmp .lss) [.v 3, .v 2] 1 (.ite (.v 5) (.seq (.op (.chk 1) [.v 4, .v 3] 0 (.op (.get 1 0) [.v 4, .v 3] 1 (.op (.call 11) [.v 6] 1 (.op (.cmp .eql) [.v 7, .i 5] 1 (.ite (.v 8) (.ret [.i 9221120237041090560, .v 3]) (.seq (.op (.cmp .lss) [.v 1, .i 0] 1 (.ite (.v 9) (.jump 0 [.v 0, .v 1, .v 3, .v 6, .v 2, .v 3, .b true, .v 4]) (.op (.call 9) [.v 6] 1 (.op (.cmp .gtr) [.v 10, .v 0] 1 (.jump 0 [.v 0, .v 1, .v 3, .v 6, .v 2, .v 3, .v 11, .v 4]))))) (.seq (.ite (.v 6) (.op (.call 9) [.v 3] 1 (.jump 0 [.v 8, .v 2, .v 4, .v 5, .v 7])) (.jump 0 [.v 0, .v 1, .v 4, .v 5, .v 7])) (.jump 0 [.v 0, .v 1, .v 2, .v 3, .v 4])))))))) (.op (.bin .add .i64) [.v 3, .i 1] 1 (.jump 0 [.v 0, .v 1, .v 2, .v 5, .v 4]))) (.jump 1 [.v 0, .v 1])))) (.ret [.v 0, .v 1]))
noncomputable def c30 : Cfg := ⟨Tryz.prog, gl0, Es30, s30.npin, Tryz.f143, s30, {}⟩
set_option maxRecDepth 100000 in
theorem k30 : compile c30 = .ok t30 := by kernel_rfl
def F30 : PF := t30.fn Tb30
set_option maxRecDepth 100000 in
theorem o30 : Contract Tryz.prog gl0 e30.f e30.sg F30 := compile_ok (c := c30) n30 l30 mo0 Tryz.func143 (by kernel_rfl) k30
theorem w30 : Lawful F30 := T.fn_lawful l30 t30
def x30 : List (AS × List AS) := []
theorem y30 : ∀ x ∈ x30, SumOk F30 x := all_nil
set_option maxRecDepth 100000 in
theorem n31 : Ents Tryz.prog gl0 (Es30 ++ [e30]) (Tb30 ++ [F30]) := Ents.snoc n30 rfl o30 rfl rfl
theorem l31 : ∀ G ∈ Tb30 ++ [F30], Lawful G := lawful_snoc l30 w30 rfl
theorem z31 : SumsOk (Tb30 ++ [F30]) (S30 ++ [x30]) := SumsOk.snoc z30 rfl y30 rfl rfl
/-- gimbal.vec.Power -/
def s31 : Sig := { args := [.c (.slc 0)], heap := [some (.list (.int (.u64)) 1 (.v 0) false)], npin := 0, np := 1, res := .tup [{ agg := false, cs := [.int (.i64) (.v 0)] }, { agg := false, cs := [.bool (.v 1)] }], out := [none], nr := 2 }
def e31 : Ent := ⟨142, s31⟩
def Es31 : List Ent := [e0, e1, e2, e3, e4, e5, e6, e7, e8, e9, e10, e11, e12, e13, e14, e15, e16, e17, e18, e19, e20, e21, e22, e23, e24, e25, e26, e27, e28, e29, e30]
def Tb31 : List PF := [F0, F1, F2, F3, F4, F5, F6, F7, F8, F9, F10, F11, F12, F13, F14, F15, F16, F17, F18, F19, F20, F21, F22, F23, F24, F25, F26, F27, F28, F29, F30]
def S31 : Sums := [x0, x1, x2, x3, x4, x5, x6, x7, x8, x9, x10, x11, x12, x13, x14, x15, x16, x17, x18, x19, x20, x21, x22, x23, x24, x25, x26, x27, x28, x29, x30]
set_option maxRecDepth 100000 in
def t31 : T := .op (.call 30) [.v 0] 2 (.op (.call 12) [.v 1] 2 (.op (.cmp .eql) [.v 3, .i 0] 1 (.ite (.v 5) (.ret [.i 0, .b false]) (.seq (.loop [.v 3, .v 4] (.op (.cmp .gtr) [.v 0, .i 1] 1 (.ite (.v 2) (.seq (.op (.bin .shr .u64) [.v 0, .i 1] 1 (.op (.bin .add .i64) [.v 1, .i 1] 1 (.jump 0 [.v 3, .v 4]))) (.jump 0 [.v 0, .v 1])) (.jump 1 [.v 1])))) (.ret [.v 0, .b true])))))
noncomputable def c31 : Cfg := ⟨Tryz.prog, gl0, Es31, s31.npin, Tryz.f142, s31, {}⟩
set_option maxRecDepth 100000 in
theorem k31 : compile c31 = .ok t31 := by kernel_rfl
def F31 : PF := t31.fn Tb31
set_option maxRecDepth 100000 in
theorem o31 : Contract Tryz.prog gl0 e31.f e31.sg F31 := compile_ok (c := c31) n31 l31 mo0 Tryz.func142 (by kernel_rfl) k31
theorem w31 : Lawful F31 := T.fn_lawful l31 t31
def x31 : List (AS × List AS) := []
theorem y31 : ∀ x ∈ x31, SumOk F31 x := all_nil
set_option maxRecDepth 100000 in
theorem n32 : Ents Tryz.prog gl0 (Es31 ++ [e31]) (Tb31 ++ [F31]) := Ents.snoc n31 rfl o31 rfl rfl
theorem l32 : ∀ G ∈ Tb31 ++ [F31], Lawful G := lawful_snoc l31 w31 rfl
theorem z32 : SumsOk (Tb31 ++ [F31]) (S31 ++ [x31]) := SumsOk.snoc z31 rfl y31 rfl rfl
/-- gimbal.house.none -/
def s32 : Sig := { args := [.c (.int (.i64) (.v 0))], heap := [], npin := 0, np := 1, res := .agg [.slc 0, .int (.u64) (.v 1)], out := [some (.list (.int (.u64)) 1 (.v 0) true)], nr := 2 }
def e32 : Ent := ⟨176, s32⟩
def Es32 : List Ent := [e0, e1, e2, e3, e4, e5, e6, e7, e8, e9, e10, e11, e12, e13, e14, e15, e16, e17, e18, e19, e20, e21, e22, e23, e24, e25, e26, e27, e28, e29, e30, e31]
def Tb32 : List PF := [F0, F1, F2, F3, F4, F5, F6, F7, F8, F9, F10, F11, F12, F13, F14, F15, F16, F17, F18, F19, F20, F21, F22, F23, F24, F25, F26, F27, F28, F29, F30, F31]
def S32 : Sums := [x0, x1, x2, x3, x4, x5, x6, x7, x8, x9, x10, x11, x12, x13, x14, x15, x16, x17, x18, x19, x20, x21, x22, x23, x24, x25, x26, x27, x28, x29, x30, x31]
set_option maxRecDepth 100000 in
def t32 : T := .op (.mk 1) [.v 0, .v 0] 1 (.op (.cmp .gtr) [.v 0, .i 0] 1 (.seq (.ite (.v 2) (.op (.chk 1) [.v 1, .i 0] 0 (.op (.set 1 0) [.v 1, .i 0, .i 4607182418800017408] 1 (.jump 0 [.i 0, .nil, .v 3]))) (.jump 0 [.i 0, .nil, .v 1])) (.ret [.v 2, .i 0])))
noncomputable def c32 : Cfg := ⟨Tryz.prog, gl0, Es32, s32.npin, Tryz.f176, s32, {}⟩
set_option maxRecDepth 100000 in
theorem k32 : compile c32 = .ok t32 := by kernel_rfl
def F32 : PF := t32.fn Tb32
set_option maxRecDepth 100000 in
theorem o32 : Contract Tryz.prog gl0 e32.f e32.sg F32 := compile_ok (c := c32) n32 l32 mo0 Tryz.func176 (by kernel_rfl) k32
theorem w32 : Lawful F32 := T.fn_lawful l32 t32
def x32 : List (AS × List AS) := []
theorem y32 : ∀ x ∈ x32, SumOk F32 x := all_nil
set_option maxRecDepth 100000 in
theorem n33 : Ents Tryz.prog gl0 (Es32 ++ [e32]) (Tb32 ++ [F32]) := Ents.snoc n32 rfl o32 rfl rfl
theorem l33 : ∀ G ∈ Tb32 ++ [F32], Lawful G := lawful_snoc l32 w32 rfl
theorem z33 : SumsOk (Tb32 ++ [F32]) (S32 ++ [x32]) := SumsOk.snoc z32 rfl y32 rfl rfl
/-- gimbal.vec.Unit -/
def s33 : Sig := { args := [.c (.slc 0), .c (.int (.i64) (.v 1))], heap := [some (.list (.int (.u64)) 1 (.v 0) false)], npin := 0, np := 2, res := .c (.slc 1), out := [none, some (.list (.int (.u64)) 1 (.v 0) true)], nr := 1 }
def e33 : Ent := ⟨144, s33⟩
def Es33 : List Ent := [e0, e1, e2, e3, e4, e5, e6, e7, e8, e9, e10, e11, e12, e13, e14, e15, e16, e17, e18, e19, e20, e21, e22, e23, e24, e25, e26, e27, e28, e29, e30, e31, e32]
def Tb33 : List PF := [F0, F1, F2, F3, F4, F5, F6, F7, F8, F9, F10, F11, F12, F13, F14, F15, F16, F17, F18, F19, F20, F21, F22, F23, F24, F25, F26, F27, F28, F29, F30, F31, F32]
def S33 : Sums := [x0, x1, x2, x3, x4, x5, x6, x7, x8, x9, x10, x11, x12, x13, x14, x15, x16, x17, x18, x19, x20, x21, x22, x23, x24, x25, x26, x27, x28, x29, x30, x31, x32]
set_option maxRecDepth 100000 in
def t33 : T := .op .mn [.v 1, .i 20000] 1 (.op .mx [.i (-20000), .v 2] 1 (.op (.len 1) [.v 0] 1 (.seq (.loop [.v 3, .v 4, .i 0, .v 0, .nil] (.op (.cmp .lss) [.v 2, .v 1] 1 (.ite (.v 5) (.seq (.op (.chk 1) [.v 3, .v 2] 0 (.op (.get 1 0) [.v 3, .v 2] 1 (.op (.neg .i64) [.v 0] 1 (.op (.call 26) [.v 6, .v 7] 2 (.op .lit [.v 8] 1 (.op .app [.v 4, .v 10] 1 (.jump 0 [.v 0, .v 1, .v 2, .v 3, .v 11]))))))) (.op (.bin .add .i64) [.v 2, .i 1] 1 (.jump 0 [.v 0, .v 1, .v 5, .v 3, .v 4]))) (.jump 1 [.v 4])))) (.ret [.v 0]))))
noncomputable def c33 : Cfg := ⟨Tryz.prog, gl0, Es33, s33.npin, Tryz.f144, s33, {}⟩
set_option maxRecDepth 100000 in
theorem k33 : compile c33 = .ok t33 := by kernel_rfl
def F33 : PF := t33.fn Tb33
set_option maxRecDepth 100000 in
theorem o33 : Contract Tryz.prog gl0 e33.f e33.sg F33 := compile_ok (c := c33) n33 l33 mo0 Tryz.func144 (by kernel_rfl) k33
theorem w33 : Lawful F33 := T.fn_lawful l33 t33
def x33 : List (AS × List AS) := []
theorem y33 : ∀ x ∈ x33, SumOk F33 x := all_nil
set_option maxRecDepth 100000 in
theorem n34 : Ents Tryz.prog gl0 (Es33 ++ [e33]) (Tb33 ++ [F33]) := Ents.snoc n33 rfl o33 rfl rfl
theorem l34 : ∀ G ∈ Tb33 ++ [F33], Lawful G := lawful_snoc l33 w33 rfl
theorem z34 : SumsOk (Tb33 ++ [F33]) (S33 ++ [x33]) := SumsOk.snoc z33 rfl y33 rfl rfl
/-- gimbal.soft.nan -/
def s34 : Sig := { args := [.c (.slc 0)], heap := [some (.list (.int (.u64)) 1 (.v 0) false)], npin := 0, np := 1, res := .tup [{ agg := false, cs := [.int (.u64) (.v 0)] }, { agg := false, cs := [.int (.u8) (.v 1)] }, { agg := false, cs := [.bool (.v 2)] }], out := [none], nr := 3 }
def e34 : Ent := ⟨190, s34⟩
def Es34 : List Ent := [e0, e1, e2, e3, e4, e5, e6, e7, e8, e9, e10, e11, e12, e13, e14, e15, e16, e17, e18, e19, e20, e21, e22, e23, e24, e25, e26, e27, e28, e29, e30, e31, e32, e33]
def Tb34 : List PF := [F0, F1, F2, F3, F4, F5, F6, F7, F8, F9, F10, F11, F12, F13, F14, F15, F16, F17, F18, F19, F20, F21, F22, F23, F24, F25, F26, F27, F28, F29, F30, F31, F32, F33]
def S34 : Sums := [x0, x1, x2, x3, x4, x5, x6, x7, x8, x9, x10, x11, x12, x13, x14, x15, x16, x17, x18, x19, x20, x21, x22, x23, x24, x25, x26, x27, x28, x29, x30, x31, x32, x33]
set_option maxRecDepth 100000 in
def t34 : T := .op (.len 1) [.v 0] 1 (.seq (.loop [.i 0, .b false, .v 1, .i 0, .v 0] (.op (.cmp .lss) [.v 3, .v 2] 1 (.ite (.v 5) (.seq (.op (.chk 1) [.v 4, .v 3] 0 (.op (.get 1 0) [.v 4, .v 3] 1 (.op (.call 11) [.v 6] 1 (.op (.cmp .eql) [.v 7, .i 5] 1 (.seq (.ite (.v 8) (.op (.call 14) [.v 6] 1 (.seq (.ite (.v 9) (.jump 0 [.i 16, .b true, .v 2, .v 3, .v 4]) (.jump 0 [.v 0, .b true, .v 2, .v 3, .v 4])) (.jump 0 [.v 0, .v 1, .v 2, .v 3, .v 4]))) (.jump 0 [.v 0, .v 1, .v 2, .v 3, .v 4])) (.jump 0 [.v 0, .v 1, .v 2, .v 3, .v 4])))))) (.op (.bin .add .i64) [.v 3, .i 1] 1 (.jump 0 [.v 0, .v 1, .v 2, .v 5, .v 4]))) (.jump 1 [.v 0, .v 1])))) (.ret [.i 9221120237041090560, .v 0, .v 1]))
noncomputable def c34 : Cfg := ⟨Tryz.prog, gl0, Es34, s34.npin, Tryz.f190, s34, {}⟩
set_option maxRecDepth 100000 in
theorem k34 : compile c34 = .ok t34 := by kernel_rfl
def F34 : PF := t34.fn Tb34
set_option maxRecDepth 100000 in
theorem o34 : Contract Tryz.prog gl0 e34.f e34.sg F34 := compile_ok (c := c34) n34 l34 mo0 Tryz.func190 (by kernel_rfl) k34
theorem w34 : Lawful F34 := T.fn_lawful l34 t34
def p34_0 : AS := ⟨[Y (some 0) (some 1099511627776)], []⟩
def q34_0 : List AS := [⟨[Y none none, I 9221120237041090560 9221120237041090560, I 0 255, B 0 1], []⟩]
set_option maxRecDepth 100000 in
def d34_0 : Cert := .op 0 [.seq [⟨[Y none none, I 0 255, B 0 1], []⟩] (.loop ⟨[Y none (some 1099511627776), I 0 0, I 0 255, B 0 1, J, I 0 1099511627776, Y none none], [(0, 4, 0), (4, 0, 0), (5, 0, 0), (0, 6, 0), (6, 0, 0)]⟩ 3 true 0 (.op 0 [.ite (.seq [⟨[Y none (some 1099511627776), I 0 0, J, I 0 255, B 0 1, J, I 0 1099511627775, Y none none], [(2, 0, -1), (0, 5, 0), (5, 0, 0), (2, 6, 0), (6, 2, 0), (0, 7, 0), (7, 0, 0)]⟩] (.op 0 [.op 0 [.op 0 [.op 0 [.seq [⟨[Y none (some 1099511627776), I 0 0, K 0, I 0 255, B 0 1, J, J, Y none none], [(2, 0, -1), (0, 5, 0), (5, 0, 0), (2, 6, 0), (6, 2, 0), (0, 7, 0), (7, 0, 0)]⟩] (.ite (.op 0 [.seq [⟨[Y none (some 1099511627776), I 0 0, K 0, I 0 255, B 1 1, J, J, Y none none], [(2, 0, -1), (0, 5, 0), (5, 0, 0), (2, 6, 0), (6, 2, 0), (0, 7, 0), (7, 0, 0)]⟩] (.ite (.leaf (.at 0)) (.leaf (.at 0))) [.leaf (.at 0)]]) (.leaf (.at 0))) [.leaf (.at 0)]]]]]) [.op 0 [.leaf (.at 0)]]) (.leaf (.at 0))])) [.leaf (.at 0)]]
set_option maxRecDepth 100000 in
theorem a34_0 : total S34 p34_0 q34_0 t34 d34_0 = true := by kernel_rfl
def x34 : List (AS × List AS) := [(p34_0, q34_0)]
theorem y34 : ∀ x ∈ x34, SumOk F34 x := all_cons (total_ok l34 z34 a34_0) (all_nil)
set_option maxRecDepth 100000 in
theorem n35 : Ents Tryz.prog gl0 (Es34 ++ [e34]) (Tb34 ++ [F34]) := Ents.snoc n34 rfl o34 rfl rfl
theorem l35 : ∀ G ∈ Tb34 ++ [F34], Lawful G := lawful_snoc l34 w34 rfl
theorem z35 : SumsOk (Tb34 ++ [F34]) (S34 ++ [x34]) := SumsOk.snoc z34 rfl y34 rfl rfl
/-- math.bits.Mul64 -/
def s35 : Sig := { args := [.c (.int (.u64) (.v 0)), .c (.int (.u64) (.v 1))], heap := [], npin := 0, np := 2, res := .tup [{ agg := false, cs := [.int (.u64) (.v 0)] }, { agg := false, cs := [.int (.u64) (.v 1)] }], out := [], nr := 2 }
def e35 : Ent := ⟨213, s35⟩
def Es35 : List Ent := [e0, e1, e2, e3, e4, e5, e6, e7, e8, e9, e10, e11, e12, e13, e14, e15, e16, e17, e18, e19, e20, e21, e22, e23, e24, e25, e26, e27, e28, e29, e30, e31, e32, e33, e34]
def Tb35 : List PF := [F0, F1, F2, F3, F4, F5, F6, F7, F8, F9, F10, F11, F12, F13, F14, F15, F16, F17, F18, F19, F20, F21, F22, F23, F24, F25, F26, F27, F28, F29, F30, F31, F32, F33, F34]
def S35 : Sums := [x0, x1, x2, x3, x4, x5, x6, x7, x8, x9, x10, x11, x12, x13, x14, x15, x16, x17, x18, x19, x20, x21, x22, x23, x24, x25, x26, x27, x28, x29, x30, x31, x32, x33, x34]
set_option maxRecDepth 100000 in
def t35 : T := .op (.bin .and .u64) [.v 0, .i 4294967295] 1 (.op (.bin .shr .u64) [.v 0, .i 32] 1 (.op (.bin .and .u64) [.v 1, .i 4294967295] 1 (.op (.bin .shr .u64) [.v 1, .i 32] 1 (.op (.bin .mul .u64) [.v 2, .v 4] 1 (.op (.bin .mul .u64) [.v 3, .v 4] 1 (.op (.bin .shr .u64) [.v 6, .i 32] 1 (.op (.bin .add .u64) [.v 7, .v 8] 1 (.op (.bin .and .u64) [.v 9, .i 4294967295] 1 (.op (.bin .shr .u64) [.v 9, .i 32] 1 (.op (.bin .mul .u64) [.v 2, .v 5] 1 (.op (.bin .add .u64) [.v 10, .v 12] 1 (.op (.bin .mul .u64) [.v 3, .v 5] 1 (.op (.bin .add .u64) [.v 14, .v 11] 1 (.op (.bin .shr .u64) [.v 13, .i 32] 1 (.op (.bin .add .u64) [.v 15, .v 16] 1 (.op (.bin .mul .u64) [.v 0, .v 1] 1 (.ret [.v 17, .v 18])))))))))))))))))
noncomputable def c35 : Cfg := ⟨Tryz.prog, gl0, Es35, s35.npin, Tryz.f213, s35, {}⟩
set_option maxRecDepth 100000 in
theorem k35 : compile c35 = .ok t35 := by kernel_rfl
def F35 : PF := t35.fn Tb35
set_option maxRecDepth 100000 in
theorem o35 : Contract Tryz.prog gl0 e35.f e35.sg F35 := compile_ok (c := c35) n35 l35 mo0 Tryz.func213 (by kernel_rfl) k35
theorem w35 : Lawful F35 := T.fn_lawful l35 t35
def x35 : List (AS × List AS) := []
theorem y35 : ∀ x ∈ x35, SumOk F35 x := all_nil
set_option maxRecDepth 100000 in
theorem n36 : Ents Tryz.prog gl0 (Es35 ++ [e35]) (Tb35 ++ [F35]) := Ents.snoc n35 rfl o35 rfl rfl
theorem l36 : ∀ G ∈ Tb35 ++ [F35], Lawful G := lawful_snoc l35 w35 rfl
theorem z36 : SumsOk (Tb35 ++ [F35]) (S35 ++ [x35]) := SumsOk.snoc z35 rfl y35 rfl rfl
/-- gimbal.wide.Mul -/
def s36 : Sig := { args := [.c (.int (.u64) (.v 0)), .c (.int (.u64) (.v 1))], heap := [], npin := 0, np := 2, res := .agg [.int (.u64) (.v 0), .int (.u64) (.v 1)], out := [], nr := 2 }
def e36 : Ent := ⟨188, s36⟩
def Es36 : List Ent := [e0, e1, e2, e3, e4, e5, e6, e7, e8, e9, e10, e11, e12, e13, e14, e15, e16, e17, e18, e19, e20, e21, e22, e23, e24, e25, e26, e27, e28, e29, e30, e31, e32, e33, e34, e35]
def Tb36 : List PF := [F0, F1, F2, F3, F4, F5, F6, F7, F8, F9, F10, F11, F12, F13, F14, F15, F16, F17, F18, F19, F20, F21, F22, F23, F24, F25, F26, F27, F28, F29, F30, F31, F32, F33, F34, F35]
def S36 : Sums := [x0, x1, x2, x3, x4, x5, x6, x7, x8, x9, x10, x11, x12, x13, x14, x15, x16, x17, x18, x19, x20, x21, x22, x23, x24, x25, x26, x27, x28, x29, x30, x31, x32, x33, x34, x35]
set_option maxRecDepth 100000 in
def t36 : T := .op (.call 35) [.v 0, .v 1] 2 (.ret [.v 2, .v 3])
noncomputable def c36 : Cfg := ⟨Tryz.prog, gl0, Es36, s36.npin, Tryz.f188, s36, {}⟩
set_option maxRecDepth 100000 in
theorem k36 : compile c36 = .ok t36 := by kernel_rfl
def F36 : PF := t36.fn Tb36
set_option maxRecDepth 100000 in
theorem o36 : Contract Tryz.prog gl0 e36.f e36.sg F36 := compile_ok (c := c36) n36 l36 mo0 Tryz.func188 (by kernel_rfl) k36
theorem w36 : Lawful F36 := T.fn_lawful l36 t36
def x36 : List (AS × List AS) := []
theorem y36 : ∀ x ∈ x36, SumOk F36 x := all_nil
set_option maxRecDepth 100000 in
theorem n37 : Ents Tryz.prog gl0 (Es36 ++ [e36]) (Tb36 ++ [F36]) := Ents.snoc n36 rfl o36 rfl rfl
theorem l37 : ∀ G ∈ Tb36 ++ [F36], Lawful G := lawful_snoc l36 w36 rfl
theorem z37 : SumsOk (Tb36 ++ [F36]) (S36 ++ [x36]) := SumsOk.snoc z36 rfl y36 rfl rfl
/-- gimbal.soft.Mul -/
def s37 : Sig := { args := [.c (.int (.u64) (.v 0)), .c (.int (.u64) (.v 1))], heap := [], npin := 0, np := 2, res := .tup [{ agg := false, cs := [.int (.u64) (.v 0)] }, { agg := false, cs := [.int (.u8) (.v 1)] }], out := [], nr := 2 }
def e37 : Ent := ⟨141, s37⟩
def Es37 : List Ent := [e0, e1, e2, e3, e4, e5, e6, e7, e8, e9, e10, e11, e12, e13, e14, e15, e16, e17, e18, e19, e20, e21, e22, e23, e24, e25, e26, e27, e28, e29, e30, e31, e32, e33, e34, e35, e36]
def Tb37 : List PF := [F0, F1, F2, F3, F4, F5, F6, F7, F8, F9, F10, F11, F12, F13, F14, F15, F16, F17, F18, F19, F20, F21, F22, F23, F24, F25, F26, F27, F28, F29, F30, F31, F32, F33, F34, F35, F36]
def S37 : Sums := [x0, x1, x2, x3, x4, x5, x6, x7, x8, x9, x10, x11, x12, x13, x14, x15, x16, x17, x18, x19, x20, x21, x22, x23, x24, x25, x26, x27, x28, x29, x30, x31, x32, x33, x34, x35, x36]
set_option maxRecDepth 100000 in
def t37 : T := .op .lit [.v 0, .v 1] 1 (.op (.call 34) [.v 2] 3 (.ite (.v 5) (.ret [.v 3, .v 4]) (.op (.call 15) [.v 0] 1 (.op (.call 15) [.v 1] 1 (.op .bne [.v 6, .v 7] 1 (.op (.call 11) [.v 0] 1 (.op (.call 11) [.v 1] 1 (.seq (.seq (.op (.cmp .eql) [.v 9, .i 4] 1 (.ite (.v 11) (.op (.cmp .eql) [.v 10, .i 1] 1 (.ite (.v 12) (.jump 0 [.v 0, .v 1, .v 8, .v 9, .v 10, .b true]) (.op (.cmp .eql) [.v 9, .i 1] 1 (.ite (.v 13) (.op (.cmp .eql) [.v 10, .i 4] 1 (.jump 0 [.v 0, .v 1, .v 8, .v 9, .v 10, .v 14])) (.jump 0 [.v 0, .v 1, .v 8, .v 9, .v 10, .b false]))))) (.op (.cmp .eql) [.v 9, .i 1] 1 (.ite (.v 12) (.op (.cmp .eql) [.v 10, .i 4] 1 (.jump 0 [.v 0, .v 1, .v 8, .v 9, .v 10, .v 13])) (.jump 0 [.v 0, .v 1, .v 8, .v 9, .v 10, .b false]))))) (.ite (.v 5) (.ret [.i 9221120237041090560, .i 16]) (.seq (.op (.cmp .eql) [.v 3, .i 4] 1 (.ite (.v 6) (.jump 0 [.v 0, .v 1, .v 2, .b true]) (.op (.cmp .eql) [.v 4, .i 4] 1 (.jump 0 [.v 0, .v 1, .v 2, .v 7])))) (.ite (.v 3) (.op (.call 17) [.v 2, .i 2047, .i 0] 1 (.ret [.v 4, .i 0])) (.jump 0 [.v 0, .v 1, .v 2]))))) (.op (.call 12) [.v 0] 2 (.op (.call 12) [.v 1] 2 (.op (.call 36) [.v 3, .v 5] 2 (.op (.bin .add .i64) [.v 4, .v 6] 1 (.op (.call 25) [.v 2, .v 7, .v 8, .v 9, .b false] 2 (.ret [.v 10, .v 11]))))))))))))))
noncomputable def c37 : Cfg := ⟨Tryz.prog, gl0, Es37, s37.npin, Tryz.f141, s37, {}⟩
set_option maxRecDepth 100000 in
theorem k37 : compile c37 = .ok t37 := by kernel_rfl
def F37 : PF := t37.fn Tb37
set_option maxRecDepth 100000 in
theorem o37 : Contract Tryz.prog gl0 e37.f e37.sg F37 := compile_ok (c := c37) n37 l37 mo0 Tryz.func141 (by kernel_rfl) k37
theorem w37 : Lawful F37 := T.fn_lawful l37 t37
def x37 : List (AS × List AS) := []
theorem y37 : ∀ x ∈ x37, SumOk F37 x := all_nil
set_option maxRecDepth 100000 in
theorem n38 : Ents Tryz.prog gl0 (Es37 ++ [e37]) (Tb37 ++ [F37]) := Ents.snoc n37 rfl o37 rfl rfl
theorem l38 : ∀ G ∈ Tb37 ++ [F37], Lawful G := lawful_snoc l37 w37 rfl
theorem z38 : SumsOk (Tb37 ++ [F37]) (S37 ++ [x37]) := SumsOk.snoc z37 rfl y37 rfl rfl
/-- (gimbal.soft.Calc).note -/
def s38 : Sig := { args := [.c (.nilp), .c (.int (.u64) (.v 0)), .c (.int (.u8) (.v 1))], heap := [], npin := 0, np := 2, res := .c (.int (.u64) (.v 0)), out := [], nr := 1 }
def e38 : Ent := ⟨137, s38⟩
def Es38 : List Ent := [e0, e1, e2, e3, e4, e5, e6, e7, e8, e9, e10, e11, e12, e13, e14, e15, e16, e17, e18, e19, e20, e21, e22, e23, e24, e25, e26, e27, e28, e29, e30, e31, e32, e33, e34, e35, e36, e37]
def Tb38 : List PF := [F0, F1, F2, F3, F4, F5, F6, F7, F8, F9, F10, F11, F12, F13, F14, F15, F16, F17, F18, F19, F20, F21, F22, F23, F24, F25, F26, F27, F28, F29, F30, F31, F32, F33, F34, F35, F36, F37]
def S38 : Sums := [x0, x1, x2, x3, x4, x5, x6, x7, x8, x9, x10, x11, x12, x13, x14, x15, x16, x17, x18, x19, x20, x21, x22, x23, x24, x25, x26, x27, x28, x29, x30, x31, x32, x33, x34, x35, x36, x37]
set_option maxRecDepth 100000 in
def t38 : T := .ret [.v 0]
noncomputable def c38 : Cfg := ⟨Tryz.prog, gl0, Es38, s38.npin, Tryz.f137, s38, {}⟩
set_option maxRecDepth 100000 in
theorem k38 : compile c38 = .ok t38 := by kernel_rfl
def F38 : PF := t38.fn Tb38
set_option maxRecDepth 100000 in
theorem o38 : Contract Tryz.prog gl0 e38.f e38.sg F38 := compile_ok (c := c38) n38 l38 mo0 Tryz.func137 (by kernel_rfl) k38
theorem w38 : Lawful F38 := T.fn_lawful l38 t38
def x38 : List (AS × List AS) := []
theorem y38 : ∀ x ∈ x38, SumOk F38 x := all_nil
set_option maxRecDepth 100000 in
theorem n39 : Ents Tryz.prog gl0 (Es38 ++ [e38]) (Tb38 ++ [F38]) := Ents.snoc n38 rfl o38 rfl rfl
theorem l39 : ∀ G ∈ Tb38 ++ [F38], Lawful G := lawful_snoc l38 w38 rfl
theorem z39 : SumsOk (Tb38 ++ [F38]) (S38 ++ [x38]) := SumsOk.snoc z38 rfl y38 rfl rfl
/-- (gimbal.soft.Calc).note -/
def s39 : Sig := { args := [.c (.ptr 0 0), .c (.int (.u64) (.v 1)), .c (.int (.u8) (.v 2))], heap := [some (.cells [.int (.u8) (.v 0)])], npin := 1, np := 3, res := .c (.int (.u64) (.v 0)), out := [some (.cells [.int (.u8) (.v 1)])], nr := 2 }
def e39 : Ent := ⟨137, s39⟩
def Es39 : List Ent := [e0, e1, e2, e3, e4, e5, e6, e7, e8, e9, e10, e11, e12, e13, e14, e15, e16, e17, e18, e19, e20, e21, e22, e23, e24, e25, e26, e27, e28, e29, e30, e31, e32, e33, e34, e35, e36, e37, e38]
def Tb39 : List PF := [F0, F1, F2, F3, F4, F5, F6, F7, F8, F9, F10, F11, F12, F13, F14, F15, F16, F17, F18, F19, F20, F21, F22, F23, F24, F25, F26, F27, F28, F29, F30, F31, F32, F33, F34, F35, F36, F37, F38]
def S39 : Sums := [x0, x1, x2, x3, x4, x5, x6, x7, x8, x9, x10, x11, x12, x13, x14, x15, x16, x17, x18, x19, x20, x21, x22, x23, x24, x25, x26, x27, x28, x29, x30, x31, x32, x33, x34, x35, x36, x37, x38]
set_option maxRecDepth 100000 in
def t39 : T := .op (.bin .or .u8) [.v 0, .v 2] 1 (.ret [.v 1, .v 3])
noncomputable def c39 : Cfg := ⟨Tryz.prog, gl0, Es39, s39.npin, Tryz.f137, s39, {}⟩
set_option maxRecDepth 100000 in
theorem k39 : compile c39 = .ok t39 := by kernel_rfl
def F39 : PF := t39.fn Tb39
set_option maxRecDepth 100000 in
theorem o39 : Contract Tryz.prog gl0 e39.f e39.sg F39 := compile_ok (c := c39) n39 l39 mo0 Tryz.func137 (by kernel_rfl) k39
theorem w39 : Lawful F39 := T.fn_lawful l39 t39
def p39_0 : AS := ⟨[I 0 255, U, I 0 255], []⟩
def q39_0 : List AS := [⟨[J, J, J, U, I 0 255], [(1, 3, 0), (3, 1, 0)]⟩]
set_option maxRecDepth 100000 in
def d39_0 : Cert := .op 0 [.leaf (.at 0)]
set_option maxRecDepth 100000 in
theorem a39_0 : total S39 p39_0 q39_0 t39 d39_0 = true := by kernel_rfl
def x39 : List (AS × List AS) := [(p39_0, q39_0)]
theorem y39 : ∀ x ∈ x39, SumOk F39 x := all_cons (total_ok l39 z39 a39_0) (all_nil)
set_option maxRecDepth 100000 in
theorem n40 : Ents Tryz.prog gl0 (Es39 ++ [e39]) (Tb39 ++ [F39]) := Ents.snoc n39 rfl o39 rfl rfl
theorem l40 : ∀ G ∈ Tb39 ++ [F39], Lawful G := lawful_snoc l39 w39 rfl
theorem z40 : SumsOk (Tb39 ++ [F39]) (S39 ++ [x39]) := SumsOk.snoc z39 rfl y39 rfl rfl
/-- (gimbal.soft.Calc).Mul -/
def s40 : Sig := { args := [.c (.nilp), .c (.int (.u64) (.v 0)), .c (.int (.u64) (.v 1))], heap := [], npin := 0, np := 2, res := .c (.int (.u64) (.v 0)), out := [], nr := 1 }
def e40 : Ent := ⟨85, s40⟩
def Es40 : List Ent := [e0, e1, e2, e3, e4, e5, e6, e7, e8, e9, e10, e11, e12, e13, e14, e15, e16, e17, e18, e19, e20, e21, e22, e23, e24, e25, e26, e27, e28, e29, e30, e31, e32, e33, e34, e35, e36, e37, e38, e39]
def Tb40 : List PF := [F0, F1, F2, F3, F4, F5, F6, F7, F8, F9, F10, F11, F12, F13, F14, F15, F16, F17, F18, F19, F20, F21, F22, F23, F24, F25, F26, F27, F28, F29, F30, F31, F32, F33, F34, F35, F36, F37, F38, F39]
def S40 : Sums := [x0, x1, x2, x3, x4, x5, x6, x7, x8, x9, x10, x11, x12, x13, x14, x15, x16, x17, x18, x19, x20, x21, x22, x23, x24, x25, x26, x27, x28, x29, x30, x31, x32, x33, x34, x35, x36, x37, x38, x39]
set_option maxRecDepth 100000 in
def t40 : T := .op (.call 37) [.v 0, .v 1] 2 (.op (.call 38) [.v 2, .v 3] 1 (.ret [.v 4]))
noncomputable def c40 : Cfg := ⟨Tryz.prog, gl0, Es40, s40.npin, Tryz.f85, s40, {}⟩
set_option maxRecDepth 100000 in
theorem k40 : compile c40 = .ok t40 := by kernel_rfl
def F40 : PF := t40.fn Tb40
set_option maxRecDepth 100000 in
theorem o40 : Contract Tryz.prog gl0 e40.f e40.sg F40 := compile_ok (c := c40) n40 l40 mo0 Tryz.func85 (by kernel_rfl) k40
theorem w40 : Lawful F40 := T.fn_lawful l40 t40
def x40 : List (AS × List AS) := []
theorem y40 : ∀ x ∈ x40, SumOk F40 x := all_nil
set_option maxRecDepth 100000 in
theorem n41 : Ents Tryz.prog gl0 (Es40 ++ [e40]) (Tb40 ++ [F40]) := Ents.snoc n40 rfl o40 rfl rfl
theorem l41 : ∀ G ∈ Tb40 ++ [F40], Lawful G := lawful_snoc l40 w40 rfl
theorem z41 : SumsOk (Tb40 ++ [F40]) (S40 ++ [x40]) := SumsOk.snoc z40 rfl y40 rfl rfl
/-- (gimbal.soft.Calc).Mul -/
def s41 : Sig := { args := [.c (.ptr 0 0), .c (.int (.u64) (.v 1)), .c (.int (.u64) (.v 2))], heap := [some (.cells [.int (.u8) (.v 0)])], npin := 1, np := 3, res := .c (.int (.u64) (.v 0)), out := [some (.cells [.int (.u8) (.v 1)])], nr := 2 }
def e41 : Ent := ⟨85, s41⟩
def Es41 : List Ent := [e0, e1, e2, e3, e4, e5, e6, e7, e8, e9, e10, e11, e12, e13, e14, e15, e16, e17, e18, e19, e20, e21, e22, e23, e24, e25, e26, e27, e28, e29, e30, e31, e32, e33, e34, e35, e36, e37, e38, e39, e40]
def Tb41 : List PF := [F0, F1, F2, F3, F4, F5, F6, F7, F8, F9, F10, F11, F12, F13, F14, F15, F16, F17, F18, F19, F20, F21, F22, F23, F24, F25, F26, F27, F28, F29, F30, F31, F32, F33, F34, F35, F36, F37, F38, F39, F40]
def S41 : Sums := [x0, x1, x2, x3, x4, x5, x6, x7, x8, x9, x10, x11, x12, x13, x14, x15, x16, x17, x18, x19, x20, x21, x22, x23, x24, x25, x26, x27, x28, x29, x30, x31, x32, x33, x34, x35, x36, x37, x38, x39, x40]
set_option maxRecDepth 100000 in
def t41 : T := .op (.call 37) [.v 1, .v 2] 2 (.op (.call 39) [.v 0, .v 3, .v 4] 2 (.ret [.v 5, .v 6]))
noncomputable def c41 : Cfg := ⟨Tryz.prog, gl0, Es41, s41.npin, Tryz.f85, s41, {}⟩
set_option maxRecDepth 100000 in
theorem k41 : compile c41 = .ok t41 := by kernel_rfl
def F41 : PF := t41.fn Tb41
set_option maxRecDepth 100000 in
theorem o41 : Contract Tryz.prog gl0 e41.f e41.sg F41 := compile_ok (c := c41) n41 l41 mo0 Tryz.func85 (by kernel_rfl) k41
theorem w41 : Lawful F41 := T.fn_lawful l41 t41
def x41 : List (AS × List AS) := []
theorem y41 : ∀ x ∈ x41, SumOk F41 x := all_nil
set_option maxRecDepth 100000 in
theorem n42 : Ents Tryz.prog gl0 (Es41 ++ [e41]) (Tb41 ++ [F41]) := Ents.snoc n41 rfl o41 rfl rfl
theorem l42 : ∀ G ∈ Tb41 ++ [F41], Lawful G := lawful_snoc l41 w41 rfl
theorem z42 : SumsOk (Tb41 ++ [F41]) (S41 ++ [x41]) := SumsOk.snoc z41 rfl y41 rfl rfl
/-- math.bits.Sub64 -/
def s42 : Sig := carrySig
def e42 : Ent := ⟨232, s42⟩
def Es42 : List Ent := [e0, e1, e2, e3, e4, e5, e6, e7, e8, e9, e10, e11, e12, e13, e14, e15, e16, e17, e18, e19, e20, e21, e22, e23, e24, e25, e26, e27, e28, e29, e30, e31, e32, e33, e34, e35, e36, e37, e38, e39, e40, e41]
def Tb42 : List PF := [F0, F1, F2, F3, F4, F5, F6, F7, F8, F9, F10, F11, F12, F13, F14, F15, F16, F17, F18, F19, F20, F21, F22, F23, F24, F25, F26, F27, F28, F29, F30, F31, F32, F33, F34, F35, F36, F37, F38, F39, F40, F41]
def S42 : Sums := [x0, x1, x2, x3, x4, x5, x6, x7, x8, x9, x10, x11, x12, x13, x14, x15, x16, x17, x18, x19, x20, x21, x22, x23, x24, x25, x26, x27, x28, x29, x30, x31, x32, x33, x34, x35, x36, x37, x38, x39, x40, x41]
def F42 : PF := carryF subC64
set_option maxRecDepth 100000 in
theorem o42 : Contract Tryz.prog gl0 e42.f e42.sg F42 := sub64_ok Tryz.func232 (by kernel_rfl) (by kernel_rfl) (by kernel_rfl) (by kernel_rfl)
theorem w42 : Lawful F42 := carryF_lawful
def x42 : List (AS × List AS) := [(carP, [carQ])]
theorem y42 : ∀ x ∈ x42, SumOk F42 x := all_cons sub_car all_nil
set_option maxRecDepth 100000 in
theorem n43 : Ents Tryz.prog gl0 (Es42 ++ [e42]) (Tb42 ++ [F42]) := Ents.snoc n42 rfl o42 rfl rfl
theorem l43 : ∀ G ∈ Tb42 ++ [F42], Lawful G := lawful_snoc l42 w42 rfl
theorem z43 : SumsOk (Tb42 ++ [F42]) (S42 ++ [x42]) := SumsOk.snoc z42 rfl y42 rfl rfl
/-- (gimbal.wide.Wide).Sub -/
def s43 : Sig := { args := [.agg [.int (.u64) (.v 0), .int (.u64) (.v 1)], .agg [.int (.u64) (.v 2), .int (.u64) (.v 3)]], heap := [], npin := 0, np := 4, res := .tup [{ agg := true, cs := [.int (.u64) (.v 0), .int (.u64) (.v 1)] }, { agg := false, cs := [.bool (.v 2)] }], out := [], nr := 3 }
def e43 : Ent := ⟨208, s43⟩
def Es43 : List Ent := [e0, e1, e2, e3, e4, e5, e6, e7, e8, e9, e10, e11, e12, e13, e14, e15, e16, e17, e18, e19, e20, e21, e22, e23, e24, e25, e26, e27, e28, e29, e30, e31, e32, e33, e34, e35, e36, e37, e38, e39, e40, e41, e42]
def Tb43 : List PF := [F0, F1, F2, F3, F4, F5, F6, F7, F8, F9, F10, F11, F12, F13, F14, F15, F16, F17, F18, F19, F20, F21, F22, F23, F24, F25, F26, F27, F28, F29, F30, F31, F32, F33, F34, F35, F36, F37, F38, F39, F40, F41, F42]
def S43 : Sums := [x0, x1, x2, x3, x4, x5, x6, x7, x8, x9, x10, x11, x12, x13, x14, x15, x16, x17, x18, x19, x20, x21, x22, x23, x24, x25, x26, x27, x28, x29, x30, x31, x32, x33, x34, x35, x36, x37, x38, x39, x40, x41, x42]
set_option maxRecDepth 100000 in
def t43 : T := .op (.call 42) [.v 1, .v 3, .i 0] 2 (.op (.call 42) [.v 0, .v 2, .v 5] 2 (.op (.cmp .eql) [.v 7, .i 1] 1 (.ret [.v 6, .v 4, .v 8])))
noncomputable def c43 : Cfg := ⟨Tryz.prog, gl0, Es43, s43.npin, Tryz.f208, s43, {}⟩
set_option maxRecDepth 100000 in
theorem k43 : compile c43 = .ok t43 := by kernel_rfl
def F43 : PF := t43.fn Tb43
set_option maxRecDepth 100000 in
theorem o43 : Contract Tryz.prog gl0 e43.f e43.sg F43 := compile_ok (c := c43) n43 l43 mo0 Tryz.func208 (by kernel_rfl) k43
theorem w43 : Lawful F43 := T.fn_lawful l43 t43
def p43_0 : AS := ⟨[U, U, U, U], []⟩
def q43_0 : List AS := [⟨[J, J, J, J, U, U, B 0 1], []⟩]
set_option maxRecDepth 100000 in
def d43_0 : Cert := .op 0 [.op 0 [.op 0 [.leaf (.split 12 (.at 0) (.at 0))]]]
set_option maxRecDepth 100000 in
theorem a43_0 : total S43 p43_0 q43_0 t43 d43_0 = true := by kernel_rfl
def x43 : List (AS × List AS) := [(p43_0, q43_0)]
theorem y43 : ∀ x ∈ x43, SumOk F43 x := all_cons (total_ok l43 z43 a43_0) (all_nil)
set_option maxRecDepth 100000 in
theorem n44 : Ents Tryz.prog gl0 (Es43 ++ [e43]) (Tb43 ++ [F43]) := Ents.snoc n43 rfl o43 rfl rfl
theorem l44 : ∀ G ∈ Tb43 ++ [F43], Lawful G := lawful_snoc l43 w43 rfl
theorem z44 : SumsOk (Tb43 ++ [F43]) (S43 ++ [x43]) := SumsOk.snoc z43 rfl y43 rfl rfl
/-- gimbal.soft.Add -/
def s44 : Sig := { args := [.c (.int (.u64) (.v 0)), .c (.int (.u64) (.v 1))], heap := [], npin := 0, np := 2, res := .tup [{ agg := false, cs := [.int (.u64) (.v 0)] }, { agg := false, cs := [.int (.u8) (.v 1)] }], out := [], nr := 2 }
def e44 : Ent := ⟨179, s44⟩
def Es44 : List Ent := [e0, e1, e2, e3, e4, e5, e6, e7, e8, e9, e10, e11, e12, e13, e14, e15, e16, e17, e18, e19, e20, e21, e22, e23, e24, e25, e26, e27, e28, e29, e30, e31, e32, e33, e34, e35, e36, e37, e38, e39, e40, e41, e42, e43]
def Tb44 : List PF := [F0, F1, F2, F3, F4, F5, F6, F7, F8, F9, F10, F11, F12, F13, F14, F15, F16, F17, F18, F19, F20, F21, F22, F23, F24, F25, F26, F27, F28, F29, F30, F31, F32, F33, F34, F35, F36, F37, F38, F39, F40, F41, F42, F43]
def S44 : Sums := [x0, x1, x2, x3, x4, x5, x6, x7, x8, x9, x10, x11, x12, x13, x14, x15, x16, x17, x18, x19, x20, x21, x22, x23, x24, x25, x26, x27, x28, x29, x30, x31, x32, x33, x34, x35, x36, x37, x38, x39, x40, x41, x42, x43]
set_option maxRecDepth 100000 in
def t44 : T := .op .lit [.v 0, .v 1] 1 (.op (.call 34) [.v 2] 3 (.ite (.v 5) (.ret [.v 3, .v 4]) (.op (.call 11) [.v 0] 1 (.op (.call 11) [.v 1] 1 (.seq (.seq (.op (.cmp .eql) [.v 6, .i 4] 1 (.ite (.v 8) (.op (.cmp .eql) [.v 7, .i 4] 1 (.ite (.v 9) (.op (.cmp .neq) [.v 0, .v 1] 1 (.jump 0 [.v 0, .v 1, .v 6, .v 7, .v 10])) (.jump 0 [.v 0, .v 1, .v 6, .v 7, .b false]))) (.jump 0 [.v 0, .v 1, .v 6, .v 7, .b false]))) (.ite (.v 4) (.ret [.i 9221120237041090560, .i 16]) (.op (.cmp .eql) [.v 2, .i 4] 1 (.ite (.v 5) (.ret [.v 0, .i 0]) (.op (.cmp .eql) [.v 3, .i 4] 1 (.ite (.v 6) (.ret [.v 1, .i 0]) (.seq (.op (.cmp .eql) [.v 2, .i 1] 1 (.ite (.v 7) (.op (.cmp .eql) [.v 3, .i 1] 1 (.jump 0 [.v 0, .v 1, .v 2, .v 3, .v 8])) (.jump 0 [.v 0, .v 1, .v 2, .v 3, .b false]))) (.ite (.v 4) (.op (.bin .and .u64) [.v 0, .v 1] 1 (.ret [.v 5, .i 0])) (.op (.cmp .eql) [.v 2, .i 1] 1 (.ite (.v 5) (.ret [.v 1, .i 0]) (.op (.cmp .eql) [.v 3, .i 1] 1 (.ite (.v 6) (.ret [.v 0, .i 0]) (.jump 0 [.v 0, .v 1]))))))))))))) (.op (.call 9) [.v 0] 1 (.op (.call 9) [.v 1] 1 (.op (.cmp .lss) [.v 2, .v 3] 1 (.seq (.ite (.v 4) (.jump 0 [.v 1, .v 0]) (.jump 0 [.v 0, .v 1])) (.op (.call 12) [.v 0] 2 (.op (.call 12) [.v 1] 2 (.op (.call 20) [.i 0, .v 2, .i 64] 2 (.op (.call 20) [.i 0, .v 4, .i 64] 2 (.op (.bin .sub .i64) [.v 3, .v 5] 1 (.op (.call 21) [.v 8, .v 9, .v 10] 3 (.op (.call 15) [.v 0] 1 (.op (.call 15) [.v 1] 1 (.op .beq [.v 14, .v 15] 1 (.ite (.v 16) (.op (.call 24) [.v 6, .v 7, .v 11, .v 12] 3 (.op (.call 15) [.v 0] 1 (.op (.bin .sub .i64) [.v 3, .i 64] 1 (.op (.call 25) [.v 20, .v 17, .v 18, .v 21, .v 13] 2 (.ret [.v 22, .v 23]))))) (.seq (.ite (.v 13) (.op (.call 24) [.v 11, .v 12, .i 0, .i 1] 3 (.jump 0 [.v 0, .v 3, .b true, .v 6, .v 7, .v 17, .v 18])) (.jump 0 [.v 0, .v 3, .b false, .v 6, .v 7, .v 11, .v 12])) (.op (.call 43) [.v 3, .v 4, .v 5, .v 6] 3 (.seq (.op (.call 16) [.v 7, .v 8] 1 (.ite (.v 10) (.op .bnot [.v 2] 1 (.jump 0 [.v 0, .v 1, .v 2, .v 11, .v 7, .v 8])) (.jump 0 [.v 0, .v 1, .v 2, .b false, .v 7, .v 8]))) (.ite (.v 3) (.ret [.i 0, .i 0]) (.op (.call 15) [.v 0] 1 (.op (.bin .sub .i64) [.v 1, .i 64] 1 (.op (.call 25) [.v 6, .v 4, .v 5, .v 7, .v 2] 2 (.ret [.v 8, .v 9])))))))))))))))))))))))))))
noncomputable def c44 : Cfg := ⟨Tryz.prog, gl0, Es44, s44.npin, Tryz.f179, s44, {}⟩
set_option maxRecDepth 100000 in
theorem k44 : compile c44 = .ok t44 := by kernel_rfl
def F44 : PF := t44.fn Tb44
set_option maxRecDepth 100000 in
theorem o44 : Contract Tryz.prog gl0 e44.f e44.sg F44 := compile_ok (c := c44) n44 l44 mo0 Tryz.func179 (by kernel_rfl) k44
theorem w44 : Lawful F44 := T.fn_lawful l44 t44
def p44_0 : AS := ⟨[U, U], []⟩
def q44_0 : List AS := [⟨[J, J, U, I 0 255], []⟩]
set_option maxRecDepth 100000 in
def d44_0 : Cert := .op 1 [.op 0 [.ite (.leaf (.at 0)) (.op 0 [.op 0 [.seq [⟨[U, U, J, J], [(0, 2, 0), (2, 0, 0), (1, 3, 0), (3, 1, 0)]⟩] (.seq [⟨[J, J, J, J, J, J, ⟨.bool, (some 1), none, .none⟩], []⟩, ⟨[U, U, J, J, J, J, ⟨.bool, none, (some 0), .none⟩], [(0, 2, 0), (2, 0, 0), (1, 3, 0), (3, 1, 0)]⟩] (.op 0 [.ite (.op 0 [.ite (.op 0 [.leaf (.split 12 (.at 0) (.at 1))]) (.leaf (.at 1))]) (.leaf (.at 1))]) [.ite (.leaf (.at 0)) (.absurd 6 6 0), .ite (.absurd 6 6 0) (.op 0 [.ite (.leaf (.at 0)) (.op 0 [.ite (.leaf (.at 0)) (.seq [⟨[J, J, J, J, J, J, ⟨.bool, (some 1), none, .none⟩], []⟩, ⟨[U, U, J, J, J, J, ⟨.bool, none, (some 0), .none⟩], [(0, 2, 0), (2, 0, 0), (1, 3, 0), (3, 1, 0)]⟩] (.op 0 [.ite (.op 0 [.leaf (.split 10 (.at 0) (.at 1))]) (.leaf (.at 1))]) [.ite (.op 0 [.leaf (.at 0)]) (.absurd 6 6 0), .ite (.absurd 6 6 0) (.op 0 [.ite (.leaf (.at 0)) (.op 0 [.ite (.leaf (.at 0)) (.leaf (.at 0))])])])])])]) [.op 0 [.op 0 [.op 0 [.seq [⟨[J, J, U, U], []⟩] (.ite (.leaf (.at 0)) (.leaf (.at 0))) [.op 0 [.op 0 [.op 0 [.op 0 [.op 0 [.op 0 [.op 0 [.op 0 [.op 0 [.ite (.op 0 [.op 0 [.op 0 [.op 0 [.leaf (.at 0)]]]]) (.seq [⟨[J, J, U, J, B 0 1, U, U, U, U], []⟩] (.ite (.op 0 [.leaf (.at 0)]) (.leaf (.at 0))) [.op 0 [.seq [⟨[J, J, U, J, B 0 1, B0, U, U], []⟩] (.op 0 [.ite (.op 0 [.leaf (.split 13 (.at 0) (.at 0))]) (.leaf (.at 0))]) [.ite (.leaf (.at 0)) (.op 0 [.op 0 [.op 0 [.leaf (.at 0)]]])]]])]]]]]]]]]]]]]]]])]]
set_option maxRecDepth 100000 in
theorem a44_0 : total S44 p44_0 q44_0 t44 d44_0 = true := by kernel_rfl
def x44 : List (AS × List AS) := [(p44_0, q44_0)]
theorem y44 : ∀ x ∈ x44, SumOk F44 x := all_cons (total_ok l44 z44 a44_0) (all_nil)
set_option maxRecDepth 100000 in
theorem n45 : Ents Tryz.prog gl0 (Es44 ++ [e44]) (Tb44 ++ [F44]) := Ents.snoc n44 rfl o44 rfl rfl
theorem l45 : ∀ G ∈ Tb44 ++ [F44], Lawful G := lawful_snoc l44 w44 rfl
theorem z45 : SumsOk (Tb44 ++ [F44]) (S44 ++ [x44]) := SumsOk.snoc z44 rfl y44 rfl rfl
/-- (gimbal.soft.Calc).Add -/
def s45 : Sig := { args := [.c (.nilp), .c (.int (.u64) (.v 0)), .c (.int (.u64) (.v 1))], heap := [], npin := 0, np := 2, res := .c (.int (.u64) (.v 0)), out := [], nr := 1 }
def e45 : Ent := ⟨124, s45⟩
def Es45 : List Ent := [e0, e1, e2, e3, e4, e5, e6, e7, e8, e9, e10, e11, e12, e13, e14, e15, e16, e17, e18, e19, e20, e21, e22, e23, e24, e25, e26, e27, e28, e29, e30, e31, e32, e33, e34, e35, e36, e37, e38, e39, e40, e41, e42, e43, e44]
def Tb45 : List PF := [F0, F1, F2, F3, F4, F5, F6, F7, F8, F9, F10, F11, F12, F13, F14, F15, F16, F17, F18, F19, F20, F21, F22, F23, F24, F25, F26, F27, F28, F29, F30, F31, F32, F33, F34, F35, F36, F37, F38, F39, F40, F41, F42, F43, F44]
def S45 : Sums := [x0, x1, x2, x3, x4, x5, x6, x7, x8, x9, x10, x11, x12, x13, x14, x15, x16, x17, x18, x19, x20, x21, x22, x23, x24, x25, x26, x27, x28, x29, x30, x31, x32, x33, x34, x35, x36, x37, x38, x39, x40, x41, x42, x43, x44]
set_option maxRecDepth 100000 in
def t45 : T := .op (.call 44) [.v 0, .v 1] 2 (.op (.call 38) [.v 2, .v 3] 1 (.ret [.v 4]))
noncomputable def c45 : Cfg := ⟨Tryz.prog, gl0, Es45, s45.npin, Tryz.f124, s45, {}⟩
set_option maxRecDepth 100000 in
theorem k45 : compile c45 = .ok t45 := by kernel_rfl
def F45 : PF := t45.fn Tb45
set_option maxRecDepth 100000 in
theorem o45 : Contract Tryz.prog gl0 e45.f e45.sg F45 := compile_ok (c := c45) n45 l45 mo0 Tryz.func124 (by kernel_rfl) k45
theorem w45 : Lawful F45 := T.fn_lawful l45 t45
def x45 : List (AS × List AS) := []
theorem y45 : ∀ x ∈ x45, SumOk F45 x := all_nil
set_option maxRecDepth 100000 in
theorem n46 : Ents Tryz.prog gl0 (Es45 ++ [e45]) (Tb45 ++ [F45]) := Ents.snoc n45 rfl o45 rfl rfl
theorem l46 : ∀ G ∈ Tb45 ++ [F45], Lawful G := lawful_snoc l45 w45 rfl
theorem z46 : SumsOk (Tb45 ++ [F45]) (S45 ++ [x45]) := SumsOk.snoc z45 rfl y45 rfl rfl
/-- (gimbal.soft.Calc).Add -/
def s46 : Sig := { args := [.c (.ptr 0 0), .c (.int (.u64) (.v 1)), .c (.int (.u64) (.v 2))], heap := [some (.cells [.int (.u8) (.v 0)])], npin := 1, np := 3, res := .c (.int (.u64) (.v 0)), out := [some (.cells [.int (.u8) (.v 1)])], nr := 2 }
def e46 : Ent := ⟨124, s46⟩
def Es46 : List Ent := [e0, e1, e2, e3, e4, e5, e6, e7, e8, e9, e10, e11, e12, e13, e14, e15, e16, e17, e18, e19, e20, e21, e22, e23, e24, e25, e26, e27, e28, e29, e30, e31, e32, e33, e34, e35, e36, e37, e38, e39, e40, e41, e42, e43, e44, e45]
def Tb46 : List PF := [F0, F1, F2, F3, F4, F5, F6, F7, F8, F9, F10, F11, F12, F13, F14, F15, F16, F17, F18, F19, F20, F21, F22, F23, F24, F25, F26, F27, F28, F29, F30, F31, F32, F33, F34, F35, F36, F37, F38, F39, F40, F41, F42, F43, F44, F45]
def S46 : Sums := [x0, x1, x2, x3, x4, x5, x6, x7, x8, x9, x10, x11, x12, x13, x14, x15, x16, x17, x18, x19, x20, x21, x22, x23, x24, x25, x26, x27, x28, x29, x30, x31, x32, x33, x34, x35, x36, x37, x38, x39, x40, x41, x42, x43, x44, x45]
set_option maxRecDepth 100000 in
def t46 : T := .op (.call 44) [.v 1, .v 2] 2 (.op (.call 39) [.v 0, .v 3, .v 4] 2 (.ret [.v 5, .v 6]))
noncomputable def c46 : Cfg := ⟨Tryz.prog, gl0, Es46, s46.npin, Tryz.f124, s46, {}⟩
set_option maxRecDepth 100000 in
theorem k46 : compile c46 = .ok t46 := by kernel_rfl
def F46 : PF := t46.fn Tb46
set_option maxRecDepth 100000 in
theorem o46 : Contract Tryz.prog gl0 e46.f e46.sg F46 := compile_ok (c := c46) n46 l46 mo0 Tryz.func124 (by kernel_rfl) k46
theorem w46 : Lawful F46 := T.fn_lawful l46 t46
def p46_0 : AS := ⟨[I 0 255, U, U], []⟩
def q46_0 : List AS := [⟨[J, J, J, U, I 0 255], []⟩]
set_option maxRecDepth 100000 in
def d46_0 : Cert := .op 0 [.op 0 [.leaf (.at 0)]]
set_option maxRecDepth 100000 in
theorem a46_0 : total S46 p46_0 q46_0 t46 d46_0 = true := by kernel_rfl
def x46 : List (AS × List AS) := [(p46_0, q46_0)]
theorem y46 : ∀ x ∈ x46, SumOk F46 x := all_cons (total_ok l46 z46 a46_0) (all_nil)
set_option maxRecDepth 100000 in
theorem n47 : Ents Tryz.prog gl0 (Es46 ++ [e46]) (Tb46 ++ [F46]) := Ents.snoc n46 rfl o46 rfl rfl
theorem l47 : ∀ G ∈ Tb46 ++ [F46], Lawful G := lawful_snoc l46 w46 rfl
theorem z47 : SumsOk (Tb46 ++ [F46]) (S46 ++ [x46]) := SumsOk.snoc z46 rfl y46 rfl rfl
/-- (gimbal.wide.Wide).Cmp -/
def s47 : Sig := { args := [.agg [.int (.u64) (.v 0), .int (.u64) (.v 1)], .agg [.int (.u64) (.v 2), .int (.u64) (.v 3)]], heap := [], npin := 0, np := 4, res := .c (.int (.i64) (.v 0)), out := [], nr := 1 }
def e47 : Ent := ⟨189, s47⟩
def Es47 : List Ent := [e0, e1, e2, e3, e4, e5, e6, e7, e8, e9, e10, e11, e12, e13, e14, e15, e16, e17, e18, e19, e20, e21, e22, e23, e24, e25, e26, e27, e28, e29, e30, e31, e32, e33, e34, e35, e36, e37, e38, e39, e40, e41, e42, e43, e44, e45, e46]
def Tb47 : List PF := [F0, F1, F2, F3, F4, F5, F6, F7, F8, F9, F10, F11, F12, F13, F14, F15, F16, F17, F18, F19, F20, F21, F22, F23, F24, F25, F26, F27, F28, F29, F30, F31, F32, F33, F34, F35, F36, F37, F38, F39, F40, F41, F42, F43, F44, F45, F46]
def S47 : Sums := [x0, x1, x2, x3, x4, x5, x6, x7, x8, x9, x10, x11, x12, x13, x14, x15, x16, x17, x18, x19, x20, x21, x22, x23, x24, x25, x26, x27, x28, x29, x30, x31, x32, x33, x34, x35, x36, x37, x38, x39, x40, x41, x42, x43, x44, x45, x46]
set_option maxRecDepth 100000 in
def t47 : T := .seq (.seq (.op (.cmp .lss) [.v 0, .v 2] 1 (.ite (.v 4) (.jump 0 [.b true, .v 0, .v 1, .v 2, .v 3]) (.op (.cmp .eql) [.v 0, .v 2] 1 (.ite (.v 5) (.op (.cmp .lss) [.v 1, .v 3] 1 (.jump 0 [.v 6, .v 0, .v 1, .v 2, .v 3])) (.jump 0 [.b false, .v 0, .v 1, .v 2, .v 3]))))) (.ite (.v 0) (.ret [.i (-1)]) (.op (.cmp .eql) [.v 1, .v 3] 1 (.op .band [.b true, .v 5] 1 (.op (.cmp .eql) [.v 2, .v 4] 1 (.op .band [.v 6, .v 7] 1 (.ite (.v 8) (.ret [.i 0]) (.jump 0 [])))))))) (.ret [.i 1])
noncomputable def c47 : Cfg := ⟨Tryz.prog, gl0, Es47, s47.npin, Tryz.f189, s47, {}⟩
set_option maxRecDepth 100000 in
theorem k47 : compile c47 = .ok t47 := by kernel_rfl
def F47 : PF := t47.fn Tb47
set_option maxRecDepth 100000 in
theorem o47 : Contract Tryz.prog gl0 e47.f e47.sg F47 := compile_ok (c := c47) n47 l47 mo0 Tryz.func189 (by kernel_rfl) k47
theorem w47 : Lawful F47 := T.fn_lawful l47 t47
def x47 : List (AS × List AS) := []
theorem y47 : ∀ x ∈ x47, SumOk F47 x := all_nil
set_option maxRecDepth 100000 in
theorem n48 : Ents Tryz.prog gl0 (Es47 ++ [e47]) (Tb47 ++ [F47]) := Ents.snoc n47 rfl o47 rfl rfl
theorem l48 : ∀ G ∈ Tb47 ++ [F47], Lawful G := lawful_snoc l47 w47 rfl
theorem z48 : SumsOk (Tb47 ++ [F47]) (S47 ++ [x47]) := SumsOk.snoc z47 rfl y47 rfl rfl
/-- (gimbal.wide.Wide).Sqrt -/
def s48 : Sig := { args := [.agg [.int (.u64) (.v 0), .int (.u64) (.v 1)]], heap := [], npin := 0, np := 2, res := .tup [{ agg := false, cs := [.int (.u64) (.v 0)] }, { agg := false, cs := [.bool (.v 1)] }], out := [], nr := 2 }
def e48 : Ent := ⟨140, s48⟩
def Es48 : List Ent := [e0, e1, e2, e3, e4, e5, e6, e7, e8, e9, e10, e11, e12, e13, e14, e15, e16, e17, e18, e19, e20, e21, e22, e23, e24, e25, e26, e27, e28, e29, e30, e31, e32, e33, e34, e35, e36, e37, e38, e39, e40, e41, e42, e43, e44, e45, e46, e47]
def Tb48 : List PF := [F0, F1, F2, F3, F4, F5, F6, F7, F8, F9, F10, F11, F12, F13, F14, F15, F16, F17, F18, F19, F20, F21, F22, F23, F24, F25, F26, F27, F28, F29, F30, F31, F32, F33, F34, F35, F36, F37, F38, F39, F40, F41, F42, F43, F44, F45, F46, F47]
def S48 : Sums := [x0, x1, x2, x3, x4, x5, x6, x7, x8, x9, x10, x11, x12, x13, x14, x15, x16, x17, x18, x19, x20, x21, x22, x23, x24, x25, x26, x27, x28, x29, x30, x31, x32, x33, x34, x35, x36, x37, x38, x39, x40, x41, x42, x43, x44, x45, x46, x47]
set_option maxRecDepth 100000 in
def t48 : T := .seq (.loop [.i 0, .i 63, .v 0, .v 1] (.op (.cmp .geq) [.v 1, .i 0] 1 (.ite (.v 4) (.seq (.op (.bin .shl .u64) [.i 1, .v 1] 1 (.op (.bin .or .u64) [.v 0, .v 5] 1 (.op (.call 36) [.v 6, .v 6] 2 (.op (.call 47) [.v 7, .v 8, .v 2, .v 3] 1 (.op (.cmp .leq) [.v 9, .i 0] 1 (.seq (.ite (.v 10) (.jump 0 [.v 6, .v 1, .v 2, .v 3]) (.jump 0 [.v 0, .v 1, .v 2, .v 3])) (.jump 0 [.v 0, .v 1, .v 2, .v 3]))))))) (.op (.bin .sub .i64) [.v 1, .i 1] 1 (.jump 0 [.v 0, .v 4, .v 2, .v 3]))) (.jump 1 [.v 0, .v 2, .v 3])))) (.op (.call 36) [.v 0, .v 0] 2 (.op (.cmp .eql) [.v 3, .v 1] 1 (.op .band [.b true, .v 5] 1 (.op (.cmp .eql) [.v 4, .v 2] 1 (.op .band [.v 6, .v 7] 1 (.ret [.v 0, .v 8]))))))
noncomputable def c48 : Cfg := ⟨Tryz.prog, gl0, Es48, s48.npin, Tryz.f140, s48, {}⟩
set_option maxRecDepth 100000 in
theorem k48 : compile c48 = .ok t48 := by kernel_rfl
def F48 : PF := t48.fn Tb48
set_option maxRecDepth 100000 in
theorem o48 : Contract Tryz.prog gl0 e48.f e48.sg F48 := compile_ok (c := c48) n48 l48 mo0 Tryz.func140 (by kernel_rfl) k48
theorem w48 : Lawful F48 := T.fn_lawful l48 t48
def x48 : List (AS × List AS) := []
theorem y48 : ∀ x ∈ x48, SumOk F48 x := all_nil
set_option maxRecDepth 100000 in
theorem n49 : Ents Tryz.prog gl0 (Es48 ++ [e48]) (Tb48 ++ [F48]) := Ents.snoc n48 rfl o48 rfl rfl
theorem l49 : ∀ G ∈ Tb48 ++ [F48], Lawful G := lawful_snoc l48 w48 rfl
theorem z49 : SumsOk (Tb48 ++ [F48]) (S48 ++ [x48]) := SumsOk.snoc z48 rfl y48 rfl rfl
end YtjbacabjgdfmdaaGreatDoor.Gp
end Go.Proofs

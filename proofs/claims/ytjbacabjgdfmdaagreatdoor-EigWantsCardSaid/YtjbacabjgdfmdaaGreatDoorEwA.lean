/- The law of what a rule wants holds of the functions that the program's code is. -/
import Derived.Test.YtjbacabjgdfmdaaGreatDoorF3
import Derived.Test.YtjbacabjgdfmdaaGreatDoorK9
import Derived.Test.YtjbacabjgdfmdaaGreatDoorTie
import Derived.Test.YtjbacabjgdfmdaaGreatDoorCards
import Derived.SevenTiedAt
import Derived.Stop.Joined
namespace Go.Proofs
open Go Gm
namespace YtjbacabjgdfmdaaGreatDoor.Gp

theorem less_some {a b : Int} (ha : u64 a) (hb : u64 b) : ∃ x, ∀ k, F74 [.int a, .int b] k = k [.bool x] := by
  obtain ⟨rs, h1, A, h2, h3⟩ := y74 (p74_0, q74_0) (List.mem_singleton.2 rfl) [.int a, .int b] ⟨rfl, slots_cons (U_arg ha) (slots_cons (U_arg hb) slots_nil), fun a b c hm => (by cases hm)⟩
  have h2' := List.mem_singleton.1 h2
  subst h2'
  have h4 : rs.length = 1 := by have := h3.len; simp at this; omega
  match rs, h4, h1, h3 with
  | [p], _, h1, h3 =>
    obtain ⟨x, rfl, _, _⟩ := slot_bool (h3.slot 2 _ p rfl rfl)
    exact ⟨x, fun k => law_k w74 h1 k⟩

theorem hypot_some {a b : Int} (ha : u64 a) (hb : u64 b) : ∃ h f, u64 h ∧ ∀ k, F78 [.int a, .int b] k = k [.int h, .int f] := by
  obtain ⟨rs, h1, A, h2, h3⟩ := y78 (p78_0, q78_0) (List.mem_singleton.2 rfl) [.int a, .int b] ⟨rfl, slots_cons (U_arg ha) (slots_cons (U_arg hb) slots_nil), fun a b c hm => (by cases hm)⟩
  have h2' := List.mem_singleton.1 h2
  subst h2'
  have h4 : rs.length = 2 := by have := h3.len; simp at this; omega
  match rs, h4, h1, h3 with
  | [p, q], _, h1, h3 =>
    obtain ⟨x, rfl, hx⟩ := slot_U (h3.slot 2 _ p rfl rfl)
    obtain ⟨y, rfl, _, _⟩ := slot_int (h3.slot 3 _ q rfl rfl)
    exact ⟨x, y, hx, fun k => law_k w78 h1 k⟩

theorem ev_eq (a b : Int) : ev (.cmp .eql) [.int a, .int b] = some [.bool (a == b)] := rfl
theorem ev_beq_self (a : Bool) : ev .beq [.bool a, .bool a] = some [.bool true] := by simp [ev]
theorem no_beq : ∀ i, Prim.beq ≠ .call i := fun i h => by cases h

section
variable {tb : List PF} {fH fL fW fHead : PF} {kind bound re im h f : Int} {x1 x2 : Bool}

/-- which ones a rule wants -/
def want (kind : Int) (x1 x2 : Bool) : Bool := bif kind == 2 then x1 else bif kind == 3 then x2 else false

theorem wants_eq {t : T} (h78 : tb[78]? = some fH) (h74 : tb[74]? = some fL) (hH : ∀ k, fH [.int re, .int im] k = k [.int h, .int f])
    (h1 : ∀ k, fL [.int re, .int bound] k = k [.bool x1]) (h2 : ∀ k, fL [.int h, .int bound] k = k [.bool x2]) (k : KF)
    (ht : t = .seq (.op (.cmp .eql) [.v 0, .i 2] 1 (.ite (.v 4) (.op (.call 74) [.v 2, .v 1] 1 (.ret [.v 5])) (.op (.cmp .eql) [.v 0, .i 3] 1 (.ite (.v 5) (.op (.call 78) [.v 2, .v 3] 2 (.op (.call 74) [.v 6, .v 1] 1 (.ret [.v 8]))) (.jump 0 []))))) (.ret [.b false])) :
    evalK tb t [.int kind, .int bound, .int re, .int im] k [] = k [.bool (want kind x1 x2)] := by
  subst ht
  unfold want
  refine Eq.trans evalK_seqk ?_
  refine Eq.trans (evalK_primk (ev_eq _ _) no_cmp rfl rfl) ?_
  simp only [List.cons_append, List.nil_append]
  cases hk : (kind == 2) with
  | true =>
    refine Eq.trans (evalK_tt rfl) ?_
    refine Eq.trans (evalK_callk h74 h1 rfl rfl) ?_
    simp only [List.cons_append, List.nil_append]
    exact evalK_retk rfl
  | false =>
    refine Eq.trans (evalK_ff rfl) ?_
    refine Eq.trans (evalK_primk (ev_eq _ _) no_cmp rfl rfl) ?_
    simp only [List.cons_append, List.nil_append]
    cases hk' : (kind == 3) with
    | true =>
      refine Eq.trans (evalK_tt rfl) ?_
      refine Eq.trans (evalK_callk h78 hH rfl rfl) ?_
      simp only [List.cons_append, List.nil_append]
      refine Eq.trans (evalK_callk h74 h2 rfl rfl) ?_
      simp only [List.cons_append, List.nil_append]
      exact evalK_retk rfl
    | false =>
      refine Eq.trans (evalK_ff rfl) ?_
      refine Eq.trans (evalK_jump0 rfl) ?_
      exact evalK_retk rfl

theorem law_true {t : T} (h126 : tb[126]? = some fHead) (h100 : tb[100]? = some fW) (h78 : tb[78]? = some fH) (h74 : tb[74]? = some fL) (hHead : ∀ k, fHead [] k = k [.bool true])
    (hH : ∀ k, fH [.int re, .int im] k = k [.int h, .int f]) (h1 : ∀ k, fL [.int re, .int bound] k = k [.bool x1]) (h2 : ∀ k, fL [.int h, .int bound] k = k [.bool x2])
    (hW : ∀ k, fW [.int kind, .int bound, .int re, .int im] k = k [.bool (want kind x1 x2)])
    (ht : t = .op (.call 126) [] 1 (.op .bnot [.v 4] 1 (.ite (.v 5) (.ret [.b false]) (.op (.call 78) [.v 2, .v 3] 2 (.seq (.op (.cmp .eql) [.v 0, .i 2] 1 (.ite (.v 8) (.op (.call 74) [.v 2, .v 1] 1 (.ite (.v 9) (.jump 0 [.b true, .v 0, .v 1, .v 2, .v 3]) (.op (.cmp .eql) [.v 0, .i 3] 1 (.ite (.v 10) (.op (.call 74) [.v 6, .v 1] 1 (.jump 0 [.v 11, .v 0, .v 1, .v 2, .v 3])) (.jump 0 [.b false, .v 0, .v 1, .v 2, .v 3]))))) (.op (.cmp .eql) [.v 0, .i 3] 1 (.ite (.v 9) (.op (.call 74) [.v 6, .v 1] 1 (.jump 0 [.v 10, .v 0, .v 1, .v 2, .v 3])) (.jump 0 [.b false, .v 0, .v 1, .v 2, .v 3]))))) (.op (.call 100) [.v 1, .v 2, .v 3, .v 4] 1 (.op .beq [.v 5, .v 0] 1 (.ret [.v 6])))))))) :
    evalK tb t [.int kind, .int bound, .int re, .int im] some [] = some [.bool true] := by
  subst ht
  have fin : ∀ b, b = want kind x1 x2 → evalK tb (.op (.call 100) [.v 1, .v 2, .v 3, .v 4] 1 (.op .beq [.v 5, .v 0] 1 (.ret [.v 6]))) [.bool b, .int kind, .int bound, .int re, .int im] some [] = some [.bool true] := by
    intro b hb
    refine Eq.trans (evalK_callk h100 hW rfl rfl) ?_
    simp only [List.cons_append, List.nil_append]
    rw [hb]
    refine Eq.trans (evalK_primk (ev_beq_self _) no_beq rfl rfl) ?_
    simp only [List.cons_append, List.nil_append]
    exact evalK_retk rfl
  refine Eq.trans (evalK_callk h126 hHead rfl rfl) ?_
  simp only [List.cons_append, List.nil_append]
  refine Eq.trans (evalK_primk (rs := [.bool false]) rfl no_bnot rfl rfl) ?_
  simp only [List.cons_append, List.nil_append]
  refine Eq.trans (evalK_ff rfl) ?_
  refine Eq.trans (evalK_callk h78 hH rfl rfl) ?_
  simp only [List.cons_append, List.nil_append]
  refine Eq.trans evalK_seqk ?_
  refine Eq.trans (evalK_primk (ev_eq _ _) no_cmp rfl rfl) ?_
  simp only [List.cons_append, List.nil_append]
  cases hk : (kind == 2) with
  | true =>
    refine Eq.trans (evalK_tt rfl) ?_
    refine Eq.trans (evalK_callk h74 h1 rfl rfl) ?_
    simp only [List.cons_append, List.nil_append]
    cases hx : x1 with
    | true =>
      refine Eq.trans (evalK_tt rfl) ?_
      refine Eq.trans (evalK_jump0 rfl) ?_
      exact fin _ (by unfold want; rw [hk, hx]; rfl)
    | false =>
      refine Eq.trans (evalK_ff rfl) ?_
      refine Eq.trans (evalK_primk (ev_eq _ _) no_cmp rfl rfl) ?_
      simp only [List.cons_append, List.nil_append]
      have hk3 : (kind == 3) = false := by
        have := eq_of_beq hk
        subst this
        rfl
      rw [hk3]
      refine Eq.trans (evalK_ff rfl) ?_
      refine Eq.trans (evalK_jump0 rfl) ?_
      exact fin _ (by unfold want; rw [hk, hx]; rfl)
  | false =>
    refine Eq.trans (evalK_ff rfl) ?_
    refine Eq.trans (evalK_primk (ev_eq _ _) no_cmp rfl rfl) ?_
    simp only [List.cons_append, List.nil_append]
    cases hk' : (kind == 3) with
    | true =>
      refine Eq.trans (evalK_tt rfl) ?_
      refine Eq.trans (evalK_callk h74 h2 rfl rfl) ?_
      simp only [List.cons_append, List.nil_append]
      refine Eq.trans (evalK_jump0 rfl) ?_
      exact fin _ (by unfold want; rw [hk, hk']; rfl)
    | false =>
      refine Eq.trans (evalK_ff rfl) ?_
      refine Eq.trans (evalK_jump0 rfl) ?_
      exact fin _ (by unfold want; rw [hk, hk']; rfl)
end

theorem wants_f100 {kind bound re im h f : Int} {x1 x2 : Bool} (hH : ∀ k, F78 [.int re, .int im] k = k [.int h, .int f])
    (h1 : ∀ k, F74 [.int re, .int bound] k = k [.bool x1]) (h2 : ∀ k, F74 [.int h, .int bound] k = k [.bool x2]) (k : KF) : F100 [.int kind, .int bound, .int re, .int im] k = k [.bool (want kind x1 x2)] := by
  show evalK Tb100 t100 [.int kind, .int bound, .int re, .int im] k [] = _
  exact wants_eq (tb := Tb100) (fH := F78) (fL := F74) rfl rfl hH h1 h2 k rfl

theorem wants_law {kind bound re im : Int} (_ : i64 kind) (hb : u64 bound) (hr : u64 re) (hi : u64 im) : F127 [.int kind, .int bound, .int re, .int im] some = some [.bool true] := by
  obtain ⟨h, f, hh, hH⟩ := hypot_some hr hi
  obtain ⟨x1, h1⟩ := less_some hr hb
  obtain ⟨x2, h2⟩ := less_some hh hb
  show evalK Tb127 t127 [.int kind, .int bound, .int re, .int im] some [] = _
  exact law_true (tb := Tb127) (fHead := F126) (fW := F100) (fH := F78) (fL := F74) rfl rfl rfl rfl (law_k w126 h126) hH h1 h2
    (fun k => wants_f100 hH h1 h2 k) rfl

end YtjbacabjgdfmdaaGreatDoor.Gp
end Go.Proofs

/- EigWants: whatever the rule and the number, the law returns true, and the input reads as it did; the tables of trailing zeros and of what errors mean lie as the program's text lays them (the card ties that). -/
namespace Go.Proofs.YtjbacabjgdfmdaaGreatDoor
open Go.ChangeShapes Go.WideShapes Go.ChangeAt Go.RowKit Go.Joins Go.Deep

theorem own : ownKnob Tryz.prog.godebug = none := by kernel_rfl
theorem gMeans : Tryz.prog.globalNamed "gimbal/eig.means" = some 0 := by kernel_rfl
theorem gTab : Tryz.prog.globalNamed "math/bits.deBruijn32tab" = some 1 := by kernel_rfl
theorem tMeans : (Tryz.prog.globals[0]?).map (·.type) = some 206 := by kernel_rfl
theorem tTab : (Tryz.prog.globals[1]?).map (·.type) = some 257 := by kernel_rfl
theorem uMeans : Tryz.prog.underlying 206 = some (.array 10 3) := by kernel_rfl
theorem uTab : Tryz.prog.underlying 257 = some (.array 32 5) := by kernel_rfl
theorem u5 : Tryz.prog.underlying 5 = some (.int .u8) := by kernel_rfl
theorem c5 : Tryz.prog.cellsOf 5 = 1 := by kernel_rfl
theorem c3 : Tryz.prog.cellsOf 3 = 1 := by kernel_rfl

abbrev laid2 : List (String × DataW Unit) := [("math/bits.deBruijn32tab", Rows.laid_math_bits_deBruijn32tab), ("gimbal/eig.means", Rows.laid_gimbal_eig_means)]

/-- The door's own heap meets the condition: closed facts. -/
theorem door_met (os : Os) (args : Array Value) : laidMetH Tryz.prog laid2 ((World.doorLaid Tryz.prog 400 os).forCall (fun _ _ => 0) ⟨#[], args, []⟩).memory :=
  laidMetH_of_parts3 (fuel := 8) (laidMet_of_run' 8 (by kernel_rfl) (by kernel_rfl)) (by kernel_rfl) (by kernel_rfl)

/-- the tables, as the condition lays them -/
theorem gl_of {W : World} (h : laidMetH Tryz.prog laid2 W) : ∀ g ck l, Gp.gl0 g = some (ck, l) → ∃ arr t fr, W.heap[g]? = some (.cells arr t fr) ∧ ∀ (i : Nat) (x : Int), l[i]? = some x → arr[i]? = some (Gm.CK.val ck x) := by
  rw [MakeChecks.laidMetH_plain _ _ _ (by kernel_rfl)] at h
  obtain ⟨ps, ⟨g1, t1, cs1, f1, p1, q1, hg1, ht1, hv1, hd1, ⟨g0, t0, cs0, f0, p0, q0, hg0, ht0, hv0, hd0, _, _⟩, _⟩, _, _⟩ := h
  obtain rfl := Option.some.inj (gTab.symm.trans hg1)
  obtain rfl := Option.some.inj (gMeans.symm.trans hg0)
  obtain rfl := Option.some.inj (tTab.symm.trans ht1)
  obtain rfl := Option.some.inj (tMeans.symm.trans ht0)
  intro g ck l e
  match g, e with
  | 0, e =>
    cases e
    exact Gm.table_at (l := [1, 0, 0, 0, 2, 0, 3, 0, 4, 5]) gMeans uMeans Tryz.underlying3 c3 hv0 hd0
  | 1, e =>
    cases e
    exact Gm.table_at (l := [0, 1, 28, 2, 29, 14, 24, 3, 30, 22, 20, 15, 25, 17, 4, 8, 31, 27, 13, 23, 21, 19, 16, 7, 26, 12, 18, 6, 11, 5, 10, 9]) gTab uTab u5 c5 hv1 hd1

set_option maxRecDepth 100000 in
theorem law_any {W : World} {kind bound re im : Int} (w0 : Gm.i64 kind) (w1 : Gm.u64 bound) (w2 : Gm.u64 re) (w3 : Gm.u64 im) (hL : laidMetH Tryz.prog laid2 W) :
    Calls Tryz.prog 5 #[.agg #[.int .i64 kind, .int .u64 bound], .agg #[.int .u64 re, .int .u64 im]] W fun e w' => e = .returned (.bool true) ∧ Below W.heap.size W w' := by
  refine Gm.law_calls_gl (ρ := fun _ => none) (ps := [.int kind, .int bound, .int re, .int im]) Gp.o127 Tryz.func5 (by kernel_rfl) (body := _) rfl rfl rfl ?_ ?_ ?_ ?_ rfl (Gp.wants_law w0 w1 w2 w3) (gl_of hL)
  · intro b sb hb
    cases hb
  · exact ⟨⟨_, rfl, ⟨kind, rfl, rfl⟩, ⟨bound, rfl, rfl⟩, trivial⟩, ⟨_, rfl, ⟨re, rfl, rfl⟩, ⟨im, rfl, rfl⟩, trivial⟩, trivial⟩
  · exact ⟨fun b sb hb => (by cases hb), fun b b' sb sb' rb rb' hb => (by cases hb)⟩
  · intro b hb
    rfl

theorem one48 : oneCellFields Tryz.prog #[{ name := "Kind", type := 3, offset := 0, embedded := false, tag := "", pkgPath := "", byteOffset := 0 }, { name := "Bound", type := 23, offset := 1, embedded := false, tag := "", pkgPath := "", byteOffset := 8 }] = true := by kernel_rfl
theorem one50 : oneCellFields Tryz.prog #[{ name := "Re", type := 23, offset := 0, embedded := false, tag := "", pkgPath := "", byteOffset := 0 }, { name := "Im", type := 23, offset := 1, embedded := false, tag := "", pkgPath := "", byteOffset := 8 }] = true := by kernel_rfl
theorem cells48 : Tryz.prog.cellsOf 48 = 2 := by kernel_rfl
theorem cells50 : Tryz.prog.cellsOf 50 = 2 := by kernel_rfl

set_option maxRecDepth 100000 in
theorem lifted (os : Os) (started : os.Started) (H : Type) (enc : TypeId × Value → H) :
    ReturnsInHanded {} Tryz.checked os 5 .any (fun w args => (Rows.eigWantsSpec.pre enc Tryz.prog Tryz.f5 [] false w args ∧ laidMetH Tryz.prog laid2 w) ∧ sizedMet enc Tryz.prog Tryz.f5 (OpenSpec.ofChange Rows.eigWantsSpec) false w args)
      (Rows.eigWantsSpec.post enc Tryz.prog Tryz.f5 false true false false) := by
  refine returnsInHanded_of_change_and (C := Tryz.checked) (X := fun w _ => laidMetH Tryz.prog laid2 w) (fun _ _ _ hh h => h.of_heap hh) own started (by kernel_rfl) Tryz.func5
    (ChangeSpec.witness_shaped (enc := enc) (C := Tryz.checked) (os := os) (X := fun w _ => laidMetH Tryz.prog laid2 w) false (World.doorLaid Tryz.prog 400 os) #[.agg #[.int .i64 0, .int .u64 0], .agg #[.int .u64 0, .int .u64 0]] 8 rfl (World.shaped_of_RefB (by kernel_rfl) (by kernel_rfl)) (by kernel_rfl) (by kernel_rfl) (by kernel_rfl) (door_met os _)) ?_
  intro W base args ds gs before hval0 hW _ _ hL _
  have hval : ∀ (j : Nat) t v, Tryz.f5.params[j]? = some t → args[j]? = some v → Value.okWide Tryz.prog W .any base t v := hval0
  have hW' := hW
  obtain ⟨p, q, hA0, hV, rfl, _, _⟩ := hW
  have hA : DataW.TrodAll enc Tryz.prog W 0 (fun _ => true) true Tryz.f5.params.toList args.toList ds p := hA0
  rw [Tryz.params5] at hA hval
  obtain ⟨v0, v1, d0, d1, p0, p1, rfl, rfl, rfl, h0, h1⟩ := trodAll_two hA
  obtain ⟨rfl, rfl⟩ := trodVars_none hV
  obtain ⟨a0, a1, y0, y1, n, rfl, rfl, rfl, t0, t1⟩ := open_agg2 Tryz.underlying48 one48 cells48 (hval 0 48 v0 rfl rfl) h0
  obtain ⟨b0, b1, z0, z1, m, rfl, rfl, rfl, s0, s1⟩ := open_agg2 Tryz.underlying50 one50 cells50 (hval 1 50 v1 rfl rfl) h1
  obtain ⟨kind, e0, rfl, k0⟩ := DataW.trod_int Tryz.underlying3 t0
  obtain ⟨bound, e1, rfl, k1⟩ := DataW.trod_int Tryz.underlying23 t1
  obtain ⟨re, e2, rfl, k2⟩ := DataW.trod_int Tryz.underlying23 s0
  obtain ⟨im, e3, rfl, k3⟩ := DataW.trod_int Tryz.underlying23 s1
  cases e0; cases e1; cases e2; cases e3
  clear hA0 hval0
  simp only [List.append_nil] at hW'
  refine (law_any (Gm.i64_of k0) (Gm.u64_of k1) (Gm.u64_of k2) (Gm.u64_of k3) hL).mono fun e W' ⟨he, hb⟩ => ?_
  subst he
  have i3 : ∀ x : Int, (Lit.int .i64 x).wf = true → ∃ n, DataW.trod enc Tryz.prog W' 0 (fun b => decide (b < W.heap.size)) true n 3 [.int .i64 x] = some (.lit (.int .i64 x), []) := fun x hx => by
    obtain ⟨n, h⟩ := shut_int (enc := enc) (P := Tryz.prog) (w := W') (base := 0) (spare := fun b => decide (b < W.heap.size)) (held := true) Tryz.underlying3 hx
    exact ⟨n, by simpa [Value.cells] using h⟩
  have i23 : ∀ x : Int, (Lit.int .u64 x).wf = true → ∃ n, DataW.trod enc Tryz.prog W' 0 (fun b => decide (b < W.heap.size)) true n 23 [.int .u64 x] = some (.lit (.int .u64 x), []) := fun x hx => by
    obtain ⟨n, h⟩ := shut_int (enc := enc) (P := Tryz.prog) (w := W') (base := 0) (spare := fun b => decide (b < W.heap.size)) (held := true) Tryz.underlying23 hx
    exact ⟨n, by simpa [Value.cells] using h⟩
  exact ⟨_, rfl, Gm.post_law hW' hb rfl Tryz.underlying4 rfl (trodAll_mk2 (shut_agg2 Tryz.underlying48 one48 cells48 (i3 _ k0) (i23 _ k1)) (shut_agg2 Tryz.underlying50 one50 cells50 (i23 _ k2) (i23 _ k3))) (pv := []) rfl⟩

end Go.Proofs.YtjbacabjgdfmdaaGreatDoor

/- The law of the shapes holds of the functions that the program's code is. -/
import Derived.Test.YthkbmedkbacgmaaF3
import Derived.Test.YthkbmedkbacgmaaK9
import Derived.Test.YthkbmedkbacgmaaRows
namespace Go.Proofs
open Go Gm
namespace Ythkbmedkbacgmaa.Gp

def clip (r : Int) : Int := if 4096 < r then 4096 else r
def W (x : Int) : Int := IntKind.i64.wrap x
def budget (r : Int) : Int := W (W (30 * (if clip r > 0 then clip r else 0)) + 300)

theorem budget_eq (r : Int) (k : KF) : F100 [.int r] k = k [.int (budget r)] := by
  show evalK Tb100 t100 [.int r] k [] = _
  unfold t100
  refine Eq.trans (evalK_primk (rs := [.int (clip r)]) rfl no_mn rfl rfl) ?_
  simp only [List.cons_append, List.nil_append]
  refine Eq.trans (evalK_primk (rs := [.int (if clip r > 0 then clip r else 0)]) rfl no_mx rfl rfl) ?_
  simp only [List.cons_append, List.nil_append]
  refine Eq.trans (evalK_primk (rs := [.int (W (30 * (if clip r > 0 then clip r else 0)))]) rfl no_bin rfl rfl) ?_
  simp only [List.cons_append, List.nil_append]
  refine Eq.trans (evalK_primk (rs := [.int (budget r)]) rfl no_bin rfl rfl) ?_
  simp only [List.cons_append, List.nil_append]
  exact evalK_retk rfl

theorem ev_eq4 : ev (.cmp .eql) [.int 4, .int 4] = some [.bool true] := rfl

theorem rest_true (r : Int) (a1 a2 a3 a4 a5 a6 a7 a8 a9 a10 a11 a12 a13 a14 a15 a16 a18 : PV) :
    evalK Tb102 u102 [.int r, a1, a2, a3, a4, a5, a6, a7, a8, a9, a10, a11, a12, a13, a14, a15, a16, .int 4, a18, .bool false] some [] = some [.bool true] := by
  unfold u102
  refine Eq.trans (evalK_primk (rs := [.bool (decide (r > 0))]) rfl no_cmp rfl rfl) ?_
  simp only [List.cons_append, List.nil_append]
  refine Eq.trans evalK_seqk ?_
  have fin : ∀ want, want = budget r → evalK Tb102 (.seq (.op (.cmp .eql) [.v 2, .i 4] 1 (.ite (.v 4) (.op .bnot [.v 1] 1 (.ite (.v 5) (.op (.call 100) [.v 0] 1 (.op (.cmp .eql) [.v 6, .v 3] 1 (.jump 0 [.v 7]))) (.jump 0 [.b false]))) (.jump 0 [.b false]))) (.ret [.v 0])) [.int r, .bool false, .int 4, .int want] some [] = some [.bool true] := by
    intro want hw
    refine Eq.trans evalK_seqk ?_
    refine Eq.trans (evalK_primk ev_eq4 no_cmp rfl rfl) ?_
    simp only [List.cons_append, List.nil_append]
    refine Eq.trans (evalK_tt rfl) ?_
    refine Eq.trans (evalK_primk (rs := [.bool true]) rfl no_bnot rfl rfl) ?_
    simp only [List.cons_append, List.nil_append]
    refine Eq.trans (evalK_tt rfl) ?_
    refine Eq.trans (evalK_callk (F := F100) rfl (budget_eq r) rfl rfl) ?_
    simp only [List.cons_append, List.nil_append]
    rw [hw]
    refine Eq.trans (evalK_primk (ev_eql_self _) no_cmp rfl rfl) ?_
    simp only [List.cons_append, List.nil_append]
    refine Eq.trans (evalK_jump0 rfl) ?_
    exact evalK_retk rfl
  by_cases h : r > 0
  · rw [decide_eq_true h]
    refine Eq.trans (evalK_tt rfl) ?_
    refine Eq.trans (evalK_primk (rs := [.int (clip r)]) rfl no_mn rfl rfl) ?_
    simp only [List.cons_append, List.nil_append]
    refine Eq.trans (evalK_primk (rs := [.int (W (30 * clip r))]) rfl no_bin rfl rfl) ?_
    simp only [List.cons_append, List.nil_append]
    refine Eq.trans (evalK_primk (rs := [.int (W (300 + W (30 * clip r)))]) rfl no_bin rfl rfl) ?_
    simp only [List.cons_append, List.nil_append]
    refine Eq.trans (evalK_jump0 rfl) ?_
    refine fin _ ?_
    have hc : clip r > 0 := by unfold clip; split <;> omega
    unfold budget
    rw [if_pos hc, Int.add_comm]
  · rw [decide_eq_false h]
    refine Eq.trans (evalK_ff rfl) ?_
    refine Eq.trans (evalK_jump0 rfl) ?_
    refine fin _ ?_
    have hc : ¬ clip r > 0 := by unfold clip; split <;> omega
    unfold budget
    rw [if_neg hc]
    rfl

theorem shapes_law {r c : Int} {all : List Int} (hr : i64 r) (hc : i64 c) (hall : ∀ x ∈ all, u64 x) : F102 [.int r, .int c, .ints all] some = some [.bool true] := by
  have hA : AS.ok hp102 [.int r, .int c, .ints all] := ⟨rfl, slots_cons (Z_arg hr) (slots_cons (Z_arg hc) (slots_cons (Y_arg hall) slots_nil)), fun a b c hm => (by cases hm)⟩
  show t102.fn Tb102 _ some = _
  rw [hf102]
  rcases hole_ok (tb := Tb102) l102 z102 ha102 u102 hA with ⟨rs, h1, A, h2, h3⟩ | ⟨η, h1, A, h2, h3⟩
  · rw [h1]
    rw [show hq102 = [hq102.head (by decide)] from rfl, List.mem_singleton] at h2
    subst h2
    have h4 : rs.length = 1 := by have := h3.len; simp only [List.length_append, List.length_cons, List.length_nil] at this; have e : (hq102.head (by decide)).sl.length = 4 := rfl; rw [e] at this; omega
    match rs, h4, h3 with
    | [p], _, h3 => rw [slot_tt (h3.slot 3 _ p rfl rfl)]
  · rw [h1]
    rw [show hs102 = [hs102.head (by decide)] from rfl, List.mem_singleton] at h2
    subst h2
    have h4 : η.length = 20 := by have := h3.len; simp only [List.length_append, List.length_cons, List.length_nil] at this; have e : (hs102.head (by decide)).sl.length = 23 := rfl; rw [e] at this; omega
    match η, h4, h3 with
    | [a0, a1, a2, a3, a4, a5, a6, a7, a8, a9, a10, a11, a12, a13, a14, a15, a16, a17, a18, a19], _, h3 =>
      obtain ⟨x, rfl, _, _⟩ := slot_int (h3.slot 3 _ a0 rfl rfl)
      obtain rfl := slot_at (h3.slot 20 _ a17 rfl rfl)
      obtain rfl := slot_ff (h3.slot 22 _ a19 rfl rfl)
      exact rest_true x a1 a2 a3 a4 a5 a6 a7 a8 a9 a10 a11 a12 a13 a14 a15 a16 a18

end Ythkbmedkbacgmaa.Gp
end Go.Proofs

/- SchurShapes: whatever the input, the law returns true, and the input reads as it did. No condition: it is the given statement itself. -/
namespace Go.Proofs.Ythkbmedkbacgmaa
open Go.ChangeShapes Go.WideShapes Go.ChangeAt Go.RowKit

theorem Try.own : ownKnob Try.prog.godebug = none := by kernel_rfl
theorem Try.laidOut : laidOutB Try.prog = true := by kernel_rfl
theorem Try.recL : Try.prog.readableRec 22 = true := by kernel_rfl
theorem Try.rowL : 22 < Try.prog.types.size := of_decide_eq_true (by kernel_rfl)
theorem Try.cellsU : Try.prog.cellsOf 27 = 1 := by kernel_rfl

set_option maxRecDepth 100000 in
theorem law_any {W : World} {H : Type} {enc : TypeId × Value → H} {base : Nat} {y0 : Int} {y1 : Int} {v2 : Value} {d2 : DataW H} {p2 : List MemPlace} (w0 : Gm.i64 y0) (w1 : Gm.i64 y1) (hval2 : Value.okWide Try.prog W .any base 22 v2) (hd2 : DataW.Trod enc Try.prog W 0 (fun _ => true) true 22 v2 d2 p2) :
    Calls Try.prog 4 #[.int .i64 y0, .int .i64 y1, v2] W fun e w' => e = .returned (.bool true) ∧ Below W.heap.size W w' := by
  obtain ⟨l2, rb2, h1_2, h2_2, h3_2, h4_2, h5_2, h6_2⟩ := Gm.u64_list Try.underlying22 Try.underlying27 Try.cellsU hval2 hd2
  refine Gm.law_calls (ρ := fun b => if b = 0 then some rb2 else none) (ps := [.int y0, .int y1, .ints l2]) Gp.o102 Try.func4 (by kernel_rfl) (body := _) rfl rfl rfl ?_ ?_ ?_ ?_ rfl (Gp.shapes_law w0 w1 h1_2)
  · intro b sb hb
    cases b with
    | zero => cases hb; rfl
    | succ b =>
      cases hb
  · refine ⟨⟨y0, rfl, rfl⟩, ⟨y1, rfl, rfl⟩, ?a2, trivial⟩
    · obtain ⟨cap, c1, c2, c3, c4⟩ := h2_2
      exact ⟨rb2, cap, rfl, c1, c2, c3, c4⟩
  · refine ⟨fun b sb hb => ?_, fun b b' sb sb' rb rb' hb hb' hne hrw => ?_⟩
    · skip
      cases b with
      | zero => cases hb; exact ⟨rb2, rfl, l2, rfl, h3_2, h4_2, h5_2, h6_2⟩
      | succ b =>
        cases hb
    · exfalso
      cases b with
      | zero => cases hb; cases hrw
      | succ b =>
        cases hb
  · intro b hb
    have hb2 : 1 ≤ b := hb
    have n0 : b ≠ 0 := by omega
    simp [n0]

set_option maxRecDepth 100000 in
theorem lifted (os : Os) (started : os.Started) (H : Type) (enc : TypeId × Value → H) :
    ReturnsInHanded {} Try.checked os 4 .any (Rows.schurShapesSpec.pre6 enc Try.prog Try.f4 Rows.schurShapesRow.domain false) (Rows.schurShapesSpec.post enc Try.prog Try.f4 false true false false) := by
  refine returnsInHanded_of_change (C := Try.checked) Try.own started (by kernel_rfl) Try.func4
    (ChangeSpec.witness6 (enc := enc) (C := Try.checked) false ⟨#[], #[.int .i64 0, .int .i64 0, .slice none 0 0], []⟩ 8 (by kernel_rfl) (by kernel_rfl) (by kernel_rfl) (by kernel_rfl)) ?_
  intro W base args ds gs before hval0 hW _ _
  have hval : ∀ (j : Nat) t v, Try.f4.params[j]? = some t → args[j]? = some v → Value.okWide Try.prog W .any base t v := hval0
  have hW' := hW
  obtain ⟨p, q, hA0, hV, rfl, _, _⟩ := hW
  have hA : DataW.TrodAll enc Try.prog W 0 (fun _ => true) true Try.f4.params.toList args.toList ds p := hA0
  rw [Try.params4] at hA hval
  obtain ⟨v0, v1, v2, d0, d1, d2, p0, p1, p2, rfl, rfl, rfl, h0, h1, h2⟩ := trodAll_three hA
  obtain ⟨rfl, rfl⟩ := trodVars_none hV
  obtain ⟨y0, rfl, rfl, rfl, wf0⟩ := open_int Try.underlying3 (hval 0 3 v0 rfl rfl) h0
  obtain ⟨y1, rfl, rfl, rfl, wf1⟩ := open_int Try.underlying3 (hval 1 3 v1 rfl rfl) h1
  clear hA0 hval0
  simp only [List.append_nil] at hW'
  refine (law_any (by simp only [Lit.wf, Bool.and_eq_true, decide_eq_true_eq] at wf0; exact ⟨wf0.1, wf0.2⟩) (by simp only [Lit.wf, Bool.and_eq_true, decide_eq_true_eq] at wf1; exact ⟨wf1.1, wf1.2⟩) (hval 2 22 v2 rfl rfl) h2).mono fun e W' ⟨he, hb⟩ => ?_
  subst he
  have hlt2 : ∀ x ∈ p2, x.block < W.heap.size := fun x hx => hW'.lt x (by simp [hx])
  exact ⟨_, rfl, Gm.post_law hW' hb rfl Try.underlying4 rfl (trodAll_mk3 (shut_int Try.underlying3 wf0) (shut_int Try.underlying3 wf1) (Below.trod Try.laidOut Try.recL Try.rowL h2 hb hlt2)) (pv := []) rfl⟩

theorem schurShapes_holds : Rows.SchurShapesSaid :=
  OpenClaim.holds_of_wide 4 Try.f4 rfl rfl rfl rfl rfl rfl rfl ⟨rfl, rfl, rfl, rfl, rfl⟩ rfl rfl rfl rfl rfl (by kernel_rfl) Try.func4 (by kernel_rfl)
    (of_decide_eq_true (by kernel_rfl)) (by unfold Func.isWrapper; first | (rw [if_pos (by decide +kernel)]; kernel_rfl) | (rw [if_neg (by decide +kernel)]; exact ⟨rfl, rfl⟩))
    (fun os started H enc _ => lifted os started H enc)

end Go.Proofs.Ythkbmedkbacgmaa

/- Totality: short names for printed certificates; entries one by one. -/
import Derived.Test.YtjbacabjgdfmdaaGreatDoorK8
import Derived.Test.YtjbacabjgdfmdaaGreatDoorK6
import Derived.ChangeSlices
import Derived.Carry
import Derived.ProofKit
import Derived.OpenShut
import Derived.LaidMore
import Derived.FnData
import Derived.Lib.SmallJoins
namespace Gm
open Go

/-- a number with both bounds, with none, with one of them -/
def I (l h : Int) : Slot := ⟨.int, some l, some h, .none⟩
def J : Slot := ⟨.int, none, none, .none⟩
def K (l : Int) : Slot := ⟨.int, some l, none, .none⟩
def H (h : Int) : Slot := ⟨.int, none, some h, .none⟩
def U : Slot := I 0 18446744073709551615
def Z : Slot := I (-9223372036854775808) 9223372036854775807
def B (l h : Int) : Slot := ⟨.bool, some l, some h, .none⟩
def B0 : Slot := ⟨.bool, none, none, .none⟩
def N (w : Nat) (lo hi : Int) (l h : Option Int) : Slot := ⟨.ints w lo hi, l, h, .none⟩
def Y (l h : Option Int) : Slot := ⟨.ints 1 0 18446744073709551615, l, h, .none⟩

theorem Ents.nil {P : Program} {gl : Nat → Option (CK × List Int)} : Ents P gl [] [] := by
  intro j e h; simp at h

theorem Ents.snoc {P : Program} {gl : Nat → Option (CK × List Int)} {es es' : List Ent} {tb tb' : List PF} {e : Ent} {F : PF} (h : Ents P gl es tb) (hl : tb.length = es.length) (hF : Contract P gl e.f e.sg F)
    (h1 : es' = es ++ [e]) (h2 : tb' = tb ++ [F]) : Ents P gl es' tb' := by
  subst h1; subst h2
  intro j x hx
  rcases Nat.lt_or_ge j es.length with q | q
  · rw [List.getElem?_append_left q] at hx
    obtain ⟨G, h3, h4⟩ := h j x hx
    exact ⟨G, by rw [List.getElem?_append_left (by omega)]; exact h3, h4⟩
  · rw [List.getElem?_append_right q] at hx
    have hj : j = es.length := by
      have := (List.getElem?_eq_some_iff.1 hx).1
      simp at this; omega
    subst hj
    simp at hx
    subst hx
    exact ⟨F, by rw [← hl]; simp, hF⟩

theorem lawful_snoc {tb tb' : List PF} {F : PF} (h : ∀ G ∈ tb, Lawful G) (hF : Lawful F) (h2 : tb' = tb ++ [F]) : ∀ G ∈ tb', Lawful G := by
  subst h2
  intro G hG
  rcases List.mem_append.1 hG with hG | hG
  · exact h G hG
  · rw [List.mem_singleton.1 hG]; exact hF

theorem SumsOk.nil {tb : List PF} : SumsOk tb [] := by
  intro i l h; simp at h

theorem SumsOk.snoc {tb tb' : List PF} {S S' : Sums} {F : PF} {l : List (AS × List AS)} (h : SumsOk tb S) (hl : tb.length = S.length) (hF : ∀ x ∈ l, SumOk F x) (h1 : S' = S ++ [l]) (h2 : tb' = tb ++ [F]) : SumsOk tb' S' := by
  subst h1; subst h2
  intro i m hm
  rcases Nat.lt_or_ge i S.length with q | q
  · rw [List.getElem?_append_left q] at hm
    rcases h i m hm with h3 | ⟨G, h3, h4⟩
    · exact .inl h3
    · exact .inr ⟨G, by rw [List.getElem?_append_left (by omega)]; exact h3, h4⟩
  · rw [List.getElem?_append_right q] at hm
    have hj : i = S.length := by
      have := (List.getElem?_eq_some_iff.1 hm).1
      simp at this; omega
    subst hj
    simp at hm
    subst hm
    exact .inr ⟨F, by rw [← hl]; simp, hF⟩

theorem all_nil {F : PF} : ∀ x ∈ ([] : List (AS × List AS)), SumOk F x := fun _ h => (by cases h)
theorem all_cons {F : PF} {x : AS × List AS} {l : List (AS × List AS)} (h : SumOk F x) (hl : ∀ x ∈ l, SumOk F x) : ∀ y ∈ x :: l, SumOk F y := fun y hy => by
  rcases List.mem_cons.1 hy with rfl | hy
  · exact h
  · exact hl y hy

theorem none_GL {w : Ctx} : GL (fun _ => none) w := by
  intro g ck l h; cases h

end Gm

/- Totality: a matrix's places, where a product is looked at: by hand. -/
namespace Gm
open Go

def tIn : T := .seq (.op (.cmp .geq) [.v 4, .i 0] 1 (.ite (.v 6) (.op (.cmp .lss) [.v 4, .v 0] 1 (.ite (.v 7) (.op (.cmp .geq) [.v 5, .i 0] 1 (.ite (.v 8) (.op (.cmp .lss) [.v 5, .v 1] 1 (.ite (.v 9) (.op (.cmp .geq) [.v 2, .i 0] 1 (.ite (.v 10) (.op (.bin .mul .i64) [.v 4, .v 2] 1 (.op (.bin .add .i64) [.v 11, .v 5] 1 (.op (.len 1) [.v 3] 1 (.op (.cmp .lss) [.v 12, .v 13] 1 (.jump 0 [.v 14]))))) (.jump 0 [.b false]))) (.jump 0 [.b false]))) (.jump 0 [.b false]))) (.jump 0 [.b false]))) (.jump 0 [.b false]))) (.ret [.v 0])
def tAt (n : Nat) : T := .op (.call n) [.v 0, .v 1, .v 2, .v 3, .v 4, .v 5] 1 (.op .bnot [.v 6] 1 (.ite (.v 7) (.ret [.i 9221120237041090560]) (.op (.bin .mul .i64) [.v 4, .v 2] 1 (.op (.bin .add .i64) [.v 8, .v 5] 1 (.op (.chk 1) [.v 3, .v 9] 0 (.op (.get 1 0) [.v 3, .v 9] 1 (.ret [.v 10])))))))
def tSet (n : Nat) : T := .op (.call n) [.v 0, .v 1, .v 2, .v 3, .v 4, .v 5] 1 (.seq (.ite (.v 7) (.op (.bin .mul .i64) [.v 4, .v 2] 1 (.op (.bin .add .i64) [.v 8, .v 5] 1 (.op (.chk 1) [.v 3, .v 9] 0 (.op (.set 1 0) [.v 3, .v 9, .v 6] 1 (.jump 0 [.v 10]))))) (.jump 0 [.v 3])) (.ret [.v 0]))

def matP : AS := ⟨[I 0 4096, I 0 4096, I 0 1099511627776, Y (some 0) (some 1099511627776), Z, Z], []⟩
def atQ : AS := ⟨[J, J, J, Y none none, J, J, U], []⟩
def setP : AS := ⟨[I 0 4096, I 0 4096, I 0 1099511627776, Y (some 0) (some 1099511627776), Z, Z, U], []⟩
def setQ : AS := ⟨[J, J, J, Y none none, J, J, J, Y none none], [(3, 7, 0), (7, 3, 0)]⟩

/-- the place that is meant -/
def place (s i j : Int) : Int := IntKind.i64.wrap (IntKind.i64.wrap (i * s) + j)

def inQ (r c s n i j : Int) : Bool :=
  bif decide (i ≥ 0) then bif decide (i < r) then bif decide (j ≥ 0) then bif decide (j < c) then bif decide (s ≥ 0) then decide (place s i j < n) else false else false else false else false else false

theorem in_eq (tb : List PF) (r c s i j : Int) (d : List Int) (k : KF) :
    tIn.fn tb [.int r, .int c, .int s, .ints d, .int i, .int j] k = k [.bool (inQ r c s d.length i j)] := by
  unfold T.fn tIn inQ place
  simp only [evalK, looks, look, stepK, ev, cmpInt, binInt, List.getElem?_cons_zero, List.getElem?_cons_succ, List.cons_append, List.nil_append, List.length_cons, List.length_nil, Nat.reduceAdd, if_true]
  cases decide (i ≥ 0) with
  | false => rfl
  | true =>
    cases decide (i < r) with
    | false => rfl
    | true =>
      cases decide (j ≥ 0) with
      | false => rfl
      | true =>
        cases decide (j < c) with
        | false => rfl
        | true =>
          cases decide (s ≥ 0) with
          | false => rfl
          | true => simp [Nat.div_one]

theorem inQ_true {r c s n i j : Int} (h : inQ r c s n i j = true) : 0 ≤ i ∧ i < r ∧ 0 ≤ j ∧ j < c ∧ 0 ≤ s ∧ place s i j < n := by
  unfold inQ at h
  simp only [cond_eq_ite, decide_eq_true_eq] at h
  split at h <;> try (cases h)
  split at h <;> try (cases h)
  split at h <;> try (cases h)
  split at h <;> try (cases h)
  split at h <;> try (cases h)
  simp at h
  omega

theorem place_ok {r c s n i j : Int} (hr : r ≤ 4096) (hc : c ≤ 4096) (hs : s ≤ 1099511627776) (h : inQ r c s n i j = true) : 0 ≤ place s i j ∧ place s i j < n := by
  obtain ⟨h1, h2, h3, h4, h5, h6⟩ := inQ_true h
  refine ⟨?_, h6⟩
  have h7 : 0 ≤ i * s := Int.mul_nonneg h1 h5
  have h8 : i * s ≤ 4096 * 1099511627776 := Int.mul_le_mul (by omega) hs h5 (by omega)
  unfold place
  rw [wrap_in (k := .i64) (n := i * s) (by simp [IntKind.min, IntKind.bits, IntKind.signed]; omega) (by simp [IntKind.max, IntKind.bits, IntKind.signed]; omega)]
  rw [wrap_in (k := .i64) (by simp [IntKind.min, IntKind.bits, IntKind.signed]; omega) (by simp [IntKind.max, IntKind.bits, IntKind.signed]; omega)]
  omega

structure MatArgs (r c s : Int) (d : List Int) : Prop where
  r : r ≤ 4096
  c : c ≤ 4096
  s : s ≤ 1099511627776
  d : ∀ x ∈ d, 0 ≤ x ∧ x ≤ 18446744073709551615

theorem int_of {p : PV} (h : AT.ok .int p) : ∃ x, p = .int x := by
  cases p with
  | int n => exact ⟨n, rfl⟩
  | bool b => exact h.elim
  | ints l => exact h.elim
  | str b => exact h.elim

theorem ints_of {p : PV} {w : Nat} {lo hi : Int} (h : AT.ok (.ints w lo hi) p) : ∃ l, p = .ints l ∧ ∀ x ∈ l, lo ≤ x ∧ x ≤ hi := by
  cases p with
  | int n => exact h.elim
  | bool b => exact h.elim
  | ints l => exact ⟨l, rfl, h.2.2⟩
  | str b => exact h.elim

theorem six {η : List PV} (h : η.length = 6) : ∃ a b c d e f, η = [a, b, c, d, e, f] := by
  match η, h with
  | [a, b, c, d, e, f], _ => exact ⟨a, b, c, d, e, f, rfl⟩

theorem seven {η : List PV} (h : η.length = 7) : ∃ a b c d e f g, η = [a, b, c, d, e, f, g] := by
  match η, h with
  | [a, b, c, d, e, f, g], _ => exact ⟨a, b, c, d, e, f, g, rfl⟩

theorem slot_int {l h : Int} {η : List PV} {p : PV} (k : Slot.ok η (I l h) p) : ∃ x, p = .int x ∧ l ≤ x ∧ x ≤ h := by
  obtain ⟨x, rfl⟩ := int_of k.t
  exact ⟨x, rfl, k.lo l rfl, k.hi h rfl⟩

theorem slot_list {l h : Option Int} {η : List PV} {p : PV} (k : Slot.ok η (Y l h) p) : ∃ x, p = .ints x ∧ ∀ z ∈ x, 0 ≤ z ∧ z ≤ 18446744073709551615 := ints_of k.t

theorem mat_args {η : List PV} (h : AS.ok matP η) : ∃ r c s d i j, η = [.int r, .int c, .int s, .ints d, .int i, .int j] ∧ MatArgs r c s d := by
  obtain ⟨a, b, c, d, e, f, rfl⟩ := six (by rw [h.len]; rfl)
  obtain ⟨r, rfl, r1, r2⟩ := slot_int (h.slot 0 _ a rfl rfl)
  obtain ⟨c, rfl, c1, c2⟩ := slot_int (h.slot 1 _ b rfl rfl)
  obtain ⟨s, rfl, s1, s2⟩ := slot_int (h.slot 2 _ _ rfl rfl)
  obtain ⟨l, rfl, l1⟩ := slot_list (h.slot 3 _ _ rfl rfl)
  obtain ⟨i, rfl, i1, i2⟩ := slot_int (h.slot 4 _ _ rfl rfl)
  obtain ⟨j, rfl, j1, j2⟩ := slot_int (h.slot 5 _ _ rfl rfl)
  exact ⟨r, c, s, l, i, j, rfl, r2, c2, s2, l1⟩

theorem set_args {η : List PV} (h : AS.ok setP η) : ∃ r c s d i j v, η = [.int r, .int c, .int s, .ints d, .int i, .int j, .int v] ∧ MatArgs r c s d ∧ 0 ≤ v ∧ v ≤ 18446744073709551615 := by
  obtain ⟨a, b, c, d, e, f, g, rfl⟩ := seven (by rw [h.len]; rfl)
  obtain ⟨r, rfl, r1, r2⟩ := slot_int (h.slot 0 _ a rfl rfl)
  obtain ⟨c, rfl, c1, c2⟩ := slot_int (h.slot 1 _ b rfl rfl)
  obtain ⟨s, rfl, s1, s2⟩ := slot_int (h.slot 2 _ _ rfl rfl)
  obtain ⟨l, rfl, l1⟩ := slot_list (h.slot 3 _ _ rfl rfl)
  obtain ⟨i, rfl, i1, i2⟩ := slot_int (h.slot 4 _ _ rfl rfl)
  obtain ⟨j, rfl, j1, j2⟩ := slot_int (h.slot 5 _ _ rfl rfl)
  obtain ⟨v, rfl, v1, v2⟩ := slot_int (h.slot 6 _ _ rfl rfl)
  exact ⟨r, c, s, l, i, j, v, rfl, ⟨r2, c2, s2, l1⟩, v1, v2⟩

/-- what stands at a place -/
def atV (r c s : Int) (d : List Int) (i j : Int) : Int :=
  bif inQ r c s d.length i j then (d[(place s i j).toNat]?).getD 0 else 9221120237041090560

def setV (r c s : Int) (d : List Int) (i j v : Int) : List Int :=
  bif inQ r c s d.length i j then d.set (place s i j).toNat v else d

theorem at_eq {tb tb' : List PF} {n : Nat} (hn : tb[n]? = some (tIn.fn tb')) {r c s i j : Int} {d : List Int} (M : MatArgs r c s d) (k : KF) :
    (tAt n).fn tb [.int r, .int c, .int s, .ints d, .int i, .int j] k = k [.int (atV r c s d i j)] := by
  unfold T.fn tAt atV
  simp only [evalK, looks, look, stepK, hn, in_eq, ev, binInt, List.getElem?_cons_zero, List.getElem?_cons_succ, List.cons_append, List.nil_append, List.length_cons, List.length_nil, Nat.reduceAdd, if_true]
  cases hq : inQ r c s d.length i j with
  | false => rfl
  | true =>
    obtain ⟨p1, p2⟩ := place_ok M.r M.c M.s hq
    have p3 : (place s i j).toNat < d.length := by omega
    simp only [Bool.not_true, cond_false, cond_true, Nat.div_one]
    have q1 : 0 ≤ IntKind.i64.wrap (IntKind.i64.wrap (i * s) + j) ∧ IntKind.i64.wrap (IntKind.i64.wrap (i * s) + j) < ((d.length : Nat) : Int) := ⟨p1, p2⟩
    rw [if_pos q1]
    simp only [List.length_nil, if_true]
    rw [if_pos q1.1, Nat.mul_one, Nat.add_zero]
    change (match (match d[(place s i j).toNat]? with | some x => some [PV.int x] | none => none) with | some rs => _ | none => none) = _
    rw [List.getElem?_eq_getElem p3]
    rfl

theorem set_eq {tb tb' : List PF} {n : Nat} (hn : tb[n]? = some (tIn.fn tb')) {r c s i j v : Int} {d : List Int} (M : MatArgs r c s d) (k : KF) :
    (tSet n).fn tb [.int r, .int c, .int s, .ints d, .int i, .int j, .int v] k = k [.ints (setV r c s d i j v)] := by
  unfold T.fn tSet setV
  simp only [evalK, looks, look, stepK, hn, in_eq, ev, binInt, List.getElem?_cons_zero, List.getElem?_cons_succ, List.cons_append, List.nil_append, List.length_cons, List.length_nil, Nat.reduceAdd, if_true]
  cases hq : inQ r c s d.length i j with
  | false => rfl
  | true =>
    obtain ⟨p1, p2⟩ := place_ok M.r M.c M.s hq
    have p3 : (place s i j).toNat < d.length := by omega
    simp only [cond_true, Nat.div_one]
    have q1 : 0 ≤ IntKind.i64.wrap (IntKind.i64.wrap (i * s) + j) ∧ IntKind.i64.wrap (IntKind.i64.wrap (i * s) + j) < ((d.length : Nat) : Int) := ⟨p1, p2⟩
    have q2 : 0 ≤ IntKind.i64.wrap (IntKind.i64.wrap (i * s) + j) ∧ (IntKind.i64.wrap (IntKind.i64.wrap (i * s) + j)).toNat * 1 + 0 < d.length := ⟨p1, by rw [Nat.mul_one, Nat.add_zero]; exact p3⟩
    rw [if_pos q1]
    simp only [List.length_nil, if_true]
    rw [if_pos q2, Nat.mul_one, Nat.add_zero]
    rfl

theorem atV_in {r c s i j : Int} {d : List Int} (M : MatArgs r c s d) : 0 ≤ atV r c s d i j ∧ atV r c s d i j ≤ 18446744073709551615 := by
  unfold atV
  cases hq : inQ r c s d.length i j with
  | false => simp only [cond_false]; omega
  | true =>
    obtain ⟨p1, p2⟩ := place_ok M.r M.c M.s hq
    have p3 : (place s i j).toNat < d.length := by omega
    simp only [cond_true]
    rw [List.getElem?_eq_getElem p3]
    exact M.d _ (List.getElem_mem p3)

theorem setV_len {r c s i j v : Int} {d : List Int} : (setV r c s d i j v).length = d.length := by
  unfold setV
  cases inQ r c s d.length i j <;> simp

theorem setV_in {r c s i j v : Int} {d : List Int} (M : MatArgs r c s d) (hv : 0 ≤ v ∧ v ≤ 18446744073709551615) : ∀ x ∈ setV r c s d i j v, 0 ≤ x ∧ x ≤ 18446744073709551615 := by
  unfold setV
  cases inQ r c s d.length i j with
  | false => exact M.d
  | true => exact set_in (P := fun z => 0 ≤ z ∧ z ≤ 18446744073709551615) M.d hv

theorem J_ok {η : List PV} {x : Int} : Slot.ok η J (.int x) := ⟨trivial, fun n h => (by cases h), fun n h => (by cases h), trivial⟩
theorem U_ok {η : List PV} {x : Int} (h : 0 ≤ x ∧ x ≤ 18446744073709551615) : Slot.ok η U (.int x) := ⟨trivial, fun n e => (by cases e; exact h.1), fun n e => (by cases e; exact h.2), trivial⟩
theorem Y_ok {η : List PV} {l : List Int} (h : ∀ x ∈ l, 0 ≤ x ∧ x ≤ 18446744073709551615) : Slot.ok η (Y none none) (.ints l) := ⟨⟨by decide, Nat.mod_one _, h⟩, fun n h => (by cases h), fun n h => (by cases h), trivial⟩

theorem slots_cons {η : List PV} {s : Slot} {p : PV} {sl : List Slot} {v : List PV} (h : s.ok η p) (hs : ∀ (i : Nat) (s : Slot) (p : PV), sl[i]? = some s → v[i]? = some p → s.ok η p) :
    ∀ (i : Nat) (s' : Slot) (p' : PV), (s :: sl)[i]? = some s' → (p :: v)[i]? = some p' → s'.ok η p'
  | 0, s', p', h1, h2 => by simp at h1 h2; subst h1; subst h2; exact h
  | i + 1, s', p', h1, h2 => hs i s' p' (by simpa using h1) (by simpa using h2)

theorem slots_nil {η : List PV} : ∀ (i : Nat) (s' : Slot) (p' : PV), ([] : List Slot)[i]? = some s' → ([] : List PV)[i]? = some p' → s'.ok η p' := fun i s p h => by simp at h

theorem at_ok {tb tb' : List PF} {n : Nat} (hn : tb[n]? = some (tIn.fn tb')) : SumOk ((tAt n).fn tb) (matP, [atQ]) := by
  intro args h
  obtain ⟨r, c, s, d, i, j, rfl, M⟩ := mat_args h
  refine ⟨_, at_eq hn M some, atQ, by simp, rfl, ?_, fun a b c hm => by cases hm⟩
  exact slots_cons J_ok (slots_cons J_ok (slots_cons J_ok (slots_cons (Y_ok M.d) (slots_cons J_ok (slots_cons J_ok (slots_cons (U_ok (atV_in M)) slots_nil))))))

theorem set_ok {tb tb' : List PF} {n : Nat} (hn : tb[n]? = some (tIn.fn tb')) : SumOk ((tSet n).fn tb) (setP, [setQ]) := by
  intro args h
  obtain ⟨r, c, s, d, i, j, v, rfl, M, hv⟩ := set_args h
  refine ⟨_, set_eq hn M some, setQ, by simp, rfl, ?_, fun a b c' hm => ?_⟩
  · exact slots_cons J_ok (slots_cons J_ok (slots_cons J_ok (slots_cons (Y_ok M.d) (slots_cons J_ok (slots_cons J_ok (slots_cons J_ok (slots_cons (Y_ok (setV_in M hv)) slots_nil)))))))
  · have e : ((setV r c s d i j v).length / 1 : Nat) = (d.length / 1 : Nat) := by rw [setV_len]
    simp only [setQ, List.mem_cons, Prod.mk.injEq, List.not_mem_nil, or_false] at hm
    rcases hm with ⟨rfl, rfl, rfl⟩ | ⟨rfl, rfl, rfl⟩
    · refine ⟨by decide, by decide, ?_⟩
      show ((d.length / 1 : Nat) : Int) ≤ (((setV r c s d i j v).length / 1 : Nat) : Int) + 0
      omega
    · refine ⟨by decide, by decide, ?_⟩
      show (((setV r c s d i j v).length / 1 : Nat) : Int) ≤ ((d.length / 1 : Nat) : Int) + 0
      omega

def carP : AS := ⟨[U, U, I 0 1], []⟩
def carQ : AS := ⟨[J, J, J, U, I 0 1], []⟩

theorem car_ok {f : Int → Int → Int → Int × Int} (hf : ∀ x y c, 0 ≤ x → x ≤ 18446744073709551615 → 0 ≤ y → y ≤ 18446744073709551615 → 0 ≤ c → c ≤ 1 → (0 ≤ (f x y c).1 ∧ (f x y c).1 ≤ 18446744073709551615) ∧ 0 ≤ (f x y c).2 ∧ (f x y c).2 ≤ 1) :
    SumOk (carryF f) (carP, [carQ]) := by
  intro args h
  have h3 : args.length = 3 := by rw [h.len]; rfl
  match args, h3, h with
  | [a, b, c], _, h =>
    obtain ⟨x, rfl, x1, x2⟩ := slot_int (h.slot 0 _ a rfl rfl)
    obtain ⟨y, rfl, y1, y2⟩ := slot_int (h.slot 1 _ b rfl rfl)
    obtain ⟨z, rfl, z1, z2⟩ := slot_int (h.slot 2 _ c rfl rfl)
    obtain ⟨k1, k2, k3⟩ := hf x y z x1 x2 y1 y2 z1 z2
    refine ⟨[.int (f x y z).1, .int (f x y z).2], by simp only [carryF]; rw [if_pos (by omega)], carQ, by simp, rfl, ?_, fun a b c hm => by cases hm⟩
    exact slots_cons J_ok (slots_cons J_ok (slots_cons J_ok (slots_cons (U_ok k1) (slots_cons ⟨trivial, fun n e => (by cases e; exact k2), fun n e => (by cases e; exact k3), trivial⟩ slots_nil))))

theorem add_car : SumOk (carryF addC) (carP, [carQ]) := car_ok fun x y c _ _ _ _ _ _ => by simp only [addC]; omega
theorem sub_car : SumOk (carryF subC64) (carP, [carQ]) := car_ok fun x y c _ _ _ _ _ _ => by simp only [subC64]; omega

end Gm

/- What a function yields, as a value; sums and products of a reckoner that remembers. -/
namespace Gm
open Go

def u64 (x : Int) : Prop := 0 ≤ x ∧ x ≤ 18446744073709551615

/-- the i-th number that a function yields -/
def val (F : PF) (vs : List PV) (i : Nat) : Int := match F vs some with
  | some rs => match rs[i]? with
    | some (.int x) => x
    | _ => 0
  | none => 0

def binP : AS := ⟨[U, U], []⟩
def binQ : AS := ⟨[J, J, U, I 0 255], []⟩
def unP : AS := ⟨[U], []⟩

theorem U_arg {η : List PV} {x : Int} (h : u64 x) : Slot.ok η U (.int x) := U_ok h

theorem slot_U {η : List PV} {p : PV} (k : Slot.ok η U p) : ∃ x, p = .int x ∧ u64 x := by
  obtain ⟨x, h1, h2, h3⟩ := slot_int k
  exact ⟨x, h1, h2, h3⟩

theorem bin_some {F : PF} (hF : SumOk F (binP, [binQ])) {a b : Int} (ha : u64 a) (hb : u64 b) :
    F [.int a, .int b] some = some [.int (val F [.int a, .int b] 0), .int (val F [.int a, .int b] 1)] ∧ u64 (val F [.int a, .int b] 0) := by
  obtain ⟨rs, h1, A, h2, h3⟩ := hF [.int a, .int b] ⟨rfl, slots_cons (U_arg ha) (slots_cons (U_arg hb) slots_nil), fun a b c hm => (by cases hm)⟩
  rw [List.mem_singleton] at h2
  subst h2
  have h4 : rs.length = 2 := by have := h3.len; simp [binQ] at this; omega
  match rs, h4, h1, h3 with
  | [p, q], _, h1, h3 =>
    obtain ⟨x, rfl, x1⟩ := slot_U (h3.slot 2 _ p rfl rfl)
    obtain ⟨y, rfl, y1, y2⟩ := slot_int (h3.slot 3 _ q rfl rfl)
    have e0 : val F [.int a, .int b] 0 = x := by unfold val; rw [h1]; rfl
    have e1 : val F [.int a, .int b] 1 = y := by unfold val; rw [h1]; rfl
    rw [e0, e1]
    exact ⟨h1, x1⟩

theorem un_some {F : PF} {A : AS} (hA : A.sl = [J, U]) (hF : SumOk F (unP, [A])) {a : Int} (ha : u64 a) :
    F [.int a] some = some [.int (val F [.int a] 0)] ∧ u64 (val F [.int a] 0) := by
  obtain ⟨rs, h1, A', h2, h3⟩ := hF [.int a] ⟨rfl, slots_cons (U_arg ha) slots_nil, fun a b c hm => (by cases hm)⟩
  rw [List.mem_singleton] at h2
  subst h2
  have h4 : rs.length = 1 := by have := h3.len; simp [hA] at this; omega
  match rs, h4, h1, h3 with
  | [p], _, h1, h3 =>
    obtain ⟨x, rfl, x1⟩ := slot_U (h3.slot 1 U p (by rw [hA]; rfl) rfl)
    have e0 : val F [.int a] 0 = x := by unfold val; rw [h1]; rfl
    rw [e0]
    exact ⟨h1, x1⟩

theorem law_k {F : PF} (hl : Lawful F) {vs rs : List PV} (h : F vs some = some rs) (k : KF) : F vs k = k rs := by rw [hl, h]; rfl

def tNote : T := .op (.bin .or .u8) [.v 0, .v 2] 1 (.ret [.v 1, .v 3])
def tCalc (i j : Nat) : T := .op (.call i) [.v 1, .v 2] 2 (.op (.call j) [.v 0, .v 3, .v 4] 2 (.ret [.v 5, .v 6]))

theorem calc_eq {tb tb' : List PF} {i j : Nat} {F : PF} (hi : tb[i]? = some F) (hj : tb[j]? = some (tNote.fn tb')) (hF : SumOk F (binP, [binQ])) (hl : Lawful F) (f : Int) {a b : Int} (ha : u64 a) (hb : u64 b) (k : KF) :
    (tCalc i j).fn tb [.int f, .int a, .int b] k = k [.int (val F [.int a, .int b] 0), .int (gbits .or .u8 f (val F [.int a, .int b] 1))] := by
  unfold T.fn tCalc
  simp only [evalK, looks, look, stepK, hi, hj, law_k hl (bin_some hF ha hb).1, List.getElem?_cons_zero, List.getElem?_cons_succ, List.cons_append, List.nil_append, List.length_cons, List.length_nil, Nat.reduceAdd, if_true]
  unfold T.fn tNote
  simp only [evalK, looks, look, stepK, ev, binInt, List.getElem?_cons_zero, List.getElem?_cons_succ, List.cons_append, List.nil_append, List.length_cons, List.length_nil, Nat.reduceAdd, if_true]

section
variable {tb : List PF} {n : Nat} {as : List Atom} {t u : T} {η vs rs : List PV} {r : KF} {js : List KF} {c : Atom}

theorem evalK_callk {i : Nat} {F : PF} (ht : tb[i]? = some F) (hF : ∀ k, F vs k = k rs) (hl : looks η as = some vs) (hn : rs.length = n) :
    evalK tb (.op (.call i) as n t) η r js = evalK tb t (η ++ rs) r js := by
  simp only [evalK, hl, stepK, ht, hF, hn, if_true]

theorem evalK_primk {p : Prim} (he : ev p vs = some rs) (hp : ∀ i, p ≠ .call i) (hl : looks η as = some vs) (hn : rs.length = n) :
    evalK tb (.op p as n t) η r js = evalK tb t (η ++ rs) r js := by
  simp only [evalK, hl]
  cases p <;> first | exact absurd rfl (hp _) | simp only [stepK, he, hn, if_true]

theorem evalK_seqk : evalK tb (.seq t u) η r js = evalK tb t η r ((fun v => evalK tb u v r js) :: js) := rfl

theorem evalK_jump0 {j : KF} (hl : looks η as = some vs) : evalK tb (.jump 0 as) η r (j :: js) = j vs := by
  simp only [evalK, hl, List.getElem?_cons_zero]

theorem evalK_retk (hl : looks η as = some vs) : evalK tb (.ret as) η r js = r vs := by
  simp only [evalK, hl]

theorem evalK_itek {x : Bool} (hl : look η c = some (.bool x)) : evalK tb (.ite c t u) η r js = bif x then evalK tb t η r js else evalK tb u η r js := by
  simp only [evalK, hl]

theorem evalK_tt (hl : look η c = some (.bool true)) : evalK tb (.ite c t u) η r js = evalK tb t η r js := by rw [evalK_itek hl]; rfl
theorem evalK_ff (hl : look η c = some (.bool false)) : evalK tb (.ite c t u) η r js = evalK tb u η r js := by rw [evalK_itek hl]; rfl
end

theorem ev_sub (a b : Int) : ev (.bin .sub .i64) [.int a, .int b] = some [.int (IntKind.i64.wrap (a - b))] := rfl
theorem ev_neq_self (a : Int) : ev (.cmp .neq) [.int a, .int a] = some [.bool false] := by simp [ev, cmpInt]
theorem ev_eql_self (a : Int) : ev (.cmp .eql) [.int a, .int a] = some [.bool true] := by simp [ev, cmpInt]
theorem no_bin {o : BinOp} {k : IntKind} : ∀ i, Prim.bin o k ≠ .call i := fun i h => by cases h
theorem no_cmp {o : BinOp} : ∀ i, Prim.cmp o ≠ .call i := fun i h => by cases h
theorem no_bnot : ∀ i, Prim.bnot ≠ .call i := fun i h => by cases h
theorem no_len {w : Nat} : ∀ i, Prim.len w ≠ .call i := fun i h => by cases h

end Gm

/- From a contract to a law's row: lists that are only read, and an answer that is true. -/
namespace Gm
open Go

/-- a list of words, as a row's reader hands it over -/
theorem u64_list {H : Type} {enc : TypeId × Value → H} {P : Program} {W : World} {base : Nat} {t e : TypeId} {v : Value} {d : DataW H} {p : List MemPlace} (ht : P.underlying t = some (.slice e)) (he : P.underlying e = some (.int .u64))
    (hc : P.cellsOf e = 1) (hval : Value.okWide P W .any base t v) (hd : DataW.Trod enc P W 0 (fun _ => true) true t v d p) :
    ∃ (l : List Int) (rb : RB), (∀ x ∈ l, u64 x) ∧ (∃ cap, rb.n ≤ cap ∧ cap ≤ rb.cap ∧ v = .slice (rb.at_.map adr) rb.n cap ∧ (rb.at_ = none → rb.cap = 0)) ∧ rb.wd = 1 ∧ l.length = rb.n * 1 ∧ (∀ x ∈ rb.foot, x < W.heap.size) ∧
      (∀ (i : Nat) (x : Int), l[i]? = some x → ∃ blk off arr t fr, rb.at_ = some (blk, off) ∧ blk ∈ rb.foot ∧ W.heap[blk]? = some (.cells arr t fr) ∧ arr[off + i]? = some (CK.val (.int .u64) x)) := by
  have hok := hval
  obtain ⟨a0, len0, cap0, rfl⟩ := Go.WideShapes.okWide_slice ht hval
  obtain ⟨fuel, hf⟩ := hd
  rcases Go.ChangeShapes.open_ints ht he hc hf with ⟨hcs, hx⟩ | ⟨a, len, cap, zs, hcs, _, hl, hm, hz, hx, hcell, hwz⟩
  · simp [Value.cells] at hcs
    obtain ⟨rfl, rfl, rfl⟩ := hcs
    exact ⟨[], ⟨none, 0, 0, 1, []⟩, fun x hx => (by cases hx), ⟨0, Nat.le_refl _, Nat.le_refl _, rfl, fun _ => rfl⟩, rfl, rfl, fun x hx => (by cases hx), fun i x hx => by simp at hx⟩
  · simp [Value.cells] at hcs
    obtain ⟨rfl, rfl, rfl⟩ := hcs
    have hsp : a.spot = none := by
      simp only [Value.okWide, ht, Cell.okWide, Cell.ok] at hok
      exact hok.2.2.2.1
    obtain ⟨blk, off, spot⟩ := a
    simp only at hsp
    subst hsp
    simp only [if_true] at hz
    have hlz : (zs.take len0).length = len0 := by rw [List.length_take]; omega
    refine ⟨zs.take len0, ⟨some (blk, off), len0, cap0, 1, if len0 = 0 then [] else [blk]⟩, fun x hx => ?_, ⟨cap0, hl, Nat.le_refl _, rfl, fun h => (by cases h)⟩, rfl, by rw [hlz]; simp, fun x hx => ?_, fun i x hx => ?_⟩
    · have h1 := hwz x (List.mem_of_mem_take hx)
      simp only [Lit.wf, Bool.and_eq_true, decide_eq_true_eq] at h1
      exact ⟨h1.1, h1.2⟩
    · simp only at hx
      split at hx
      · cases hx
      · rename_i h0
        rw [List.mem_singleton] at hx
        subst hx
        have h1 := hcell 0 (by omega)
        rw [Go.WideShapes.add_plain] at h1
        unfold World.cell? at h1
        split at h1
        · rename_i c _ _ hb
          exact (Array.getElem?_eq_some_iff.1 hb).1
        · cases h1
    · have hi : i < len0 := by
        have := (List.getElem?_eq_some_iff.1 hx).1
        omega
      have h1 := hcell i (by omega)
      rw [Go.WideShapes.add_plain] at h1
      unfold World.cell? at h1
      split at h1
      · rename_i c tt fr hb
        simp only [Option.isSome_none, Bool.false_eq_true, if_false] at h1
        refine ⟨blk, off, c, tt, fr, rfl, ?_, hb, ?_⟩
        · simp only
          rw [if_neg (by omega)]
          exact List.mem_singleton.2 rfl
        · rw [h1]
          rw [List.getElem?_take, if_pos hi] at hx
          rw [List.getD_eq_getElem?_getD, hx]
          rfl
      · cases h1

/-- a law's contract, where nothing that came in is written -/
theorem law_calls {P : Program} {f : FuncId} {fn : Func} {body : Code} {sg : Sig} {F : PF} (hC : Contract P (fun _ => none) f sg F) (hf : P.funcs[f]? = some fn) (hname : (fn.name == "runtime.NumGoroutine") = false) (hb : fn.body = some body)
    (hres : sg.res = .c (.bool (.v 0))) (hnr : sg.nr = 1) (hro : ∀ b sb, hpf sg.heap b = some sb → sb.rw = false) {w : World} {ρ : Rho} {ps : List PV} {args : Array Value}
    (hv : VVs ps ρ sg.args args.toList) (hH : HR ps ρ (hpf sg.heap) w) (htop : ∀ b, sg.heap.length ≤ b → ρ b = none) (hnp : ps.length = sg.np) (hF : F ps some = some [.bool true]) :
    Calls P f args w fun e w' => e = .returned (.bool true) ∧ Go.RowKit.Below w.heap.size w w' := by
  have h := hC w ρ ps _ args hv hH htop hnp hF (by rw [hnr]; rfl) none_GL
  have hcall : (callFunc f args).run P w = .ok (.enter f args) w := by
    have hn' : ¬ fn.name = "runtime.NumGoroutine" := by simpa using hname
    simp [callFunc, hf, hn', hb]
  unfold CallTo at h
  rw [hcall] at h
  refine Calls.mono h fun e w' q => ?_
  cases e with
  | panicked c => exact q.elim
  | outgrown => exact q.elim
  | returned v =>
    obtain ⟨ρ', h1, h2, h3, h4⟩ := q
    rw [hres] at h1
    obtain ⟨x, e1, e2⟩ := h1
    cases e1
    subst e2
    refine ⟨rfl, h4.os, h4.tape, h4.out, h4.size, fun k hk => h4.keep k hk ?_⟩
    rintro ⟨b, sb, rb, a1, a2, _⟩
    rw [hro b sb a1] at a2
    cases a2

/-- what a law leaves, where nothing that came in is written -/
theorem post_law {H : Type} {enc : TypeId × Value → H} {P : Program} {f : Func} {s : ChangeSpec} {apart fresh handsOn : Bool} {W W' : World} {args : Array Value} {ds gs : List (DataW H)} {before pa pv : List MemPlace} {tb : TypeId}
    (hW : DataW.Whole enc P f.params.toList s.vars apart W args.toList ds gs before) (hb : Go.RowKit.Below W.heap.size W W')
    (hrt : f.resultTypes = #[tb]) (htb : P.underlying tb = some .bool) (hres : (s.fn H (ds ++ gs)).results = [.lit (.bool true)])
    (hargs : DataW.TrodAll enc P W' 0 (fun b => decide (b < W.heap.size)) true f.params.toList args.toList (s.fn H (ds ++ gs)).args pa)
    (hvars : DataW.TrodVars enc P W' (fun b => decide (b < W.heap.size)) s.vars (s.fn H (ds ++ gs)).vars pv) :
    s.post enc P f apart fresh handsOn false W args (.bool true) W' := by
  refine ⟨ds, gs, before, [], pa, pv, hW, ?_, hargs, hvars, hb.frame _, fun h => by cases h⟩
  rw [hres, hrt]
  exact Go.ChangeShapes.trodAll_mk1 (Go.RowKit.shut_bool htb true)

end Gm

/- How many bits a word has: by hand. -/
namespace Gm
open Go

def len8 : List Int := [0, 1, 2, 2, 3, 3, 3, 3, 4, 4, 4, 4, 4, 4, 4, 4, 5, 5, 5, 5, 5, 5, 5, 5, 5, 5, 5, 5, 5, 5, 5, 5, 6, 6, 6, 6, 6, 6, 6, 6, 6, 6, 6, 6, 6, 6, 6, 6, 6, 6, 6, 6, 6, 6, 6, 6, 6, 6, 6, 6, 6, 6, 6, 6, 7, 7, 7, 7, 7, 7, 7, 7, 7, 7, 7, 7, 7, 7, 7, 7, 7, 7, 7, 7, 7, 7, 7, 7, 7, 7, 7, 7, 7, 7, 7, 7, 7, 7, 7, 7, 7, 7, 7, 7, 7, 7, 7, 7, 7, 7, 7, 7, 7, 7, 7, 7, 7, 7, 7, 7, 7, 7, 7, 7, 7, 7, 7, 7, 8, 8, 8, 8, 8, 8, 8, 8, 8, 8, 8, 8, 8, 8, 8, 8, 8, 8, 8, 8, 8, 8, 8, 8, 8, 8, 8, 8, 8, 8, 8, 8, 8, 8, 8, 8, 8, 8, 8, 8, 8, 8, 8, 8, 8, 8, 8, 8, 8, 8, 8, 8, 8, 8, 8, 8, 8, 8, 8, 8, 8, 8, 8, 8, 8, 8, 8, 8, 8, 8, 8, 8, 8, 8, 8, 8, 8, 8, 8, 8, 8, 8, 8, 8, 8, 8, 8, 8, 8, 8, 8, 8, 8, 8, 8, 8, 8, 8, 8, 8, 8, 8, 8, 8, 8, 8, 8, 8, 8, 8, 8, 8, 8, 8, 8, 8, 8, 8, 8, 8, 8, 8, 8, 8, 8, 8, 8, 8]

def tLen8 : T := .op (.conv .u8) [.v 0] 1 (.op (.tab len8) [.v 2] 1 (.op (.conv .i64) [.v 3] 1 (.op (.bin .add .i64) [.v 1, .v 4] 1 (.ret [.v 5]))))
def tLen : T := .op (.cmp .geq) [.v 0, .i 4294967296] 1 (.seq (.ite (.v 1) (.op (.bin .shr .u64) [.v 0, .i 32] 1 (.jump 0 [.v 2, .i 32])) (.jump 0 [.v 0, .i 0])) (.op (.cmp .geq) [.v 0, .i 65536] 1 (.seq (.ite (.v 2) (.op (.bin .shr .u64) [.v 0, .i 16] 1 (.op (.bin .add .i64) [.v 1, .i 16] 1 (.jump 0 [.v 3, .v 4]))) (.jump 0 [.v 0, .v 1])) (.op (.cmp .geq) [.v 0, .i 256] 1 (.seq (.ite (.v 2) (.op (.bin .shr .u64) [.v 0, .i 8] 1 (.op (.bin .add .i64) [.v 1, .i 8] 1 (.jump 0 [.v 3, .v 4]))) (.jump 0 [.v 0, .v 1])) tLen8)))))

def lenP : AS := ⟨[I 1 18446744073709551615], []⟩
def lenQ : List AS := (List.range 64).map fun c => ⟨[I (2 ^ c : Nat) (2 ^ (c + 1) - 1 : Nat), I (c + 1 : Nat) (c + 1 : Nat)], []⟩

/-- one bit's place -/
def At (x c : Nat) : Prop := 2 ^ c ≤ x ∧ x < 2 ^ (c + 1)

theorem len8_ok : ∀ x : Nat, x < 256 → 0 < x → ∃ c, c < 8 ∧ At x c ∧ len8[x]? = some ((c + 1 : Nat) : Int) := by
  unfold At
  decide +kernel

theorem At.up {x c s : Nat} (h : At (x / 2 ^ s) c) : At x (c + s) := by
  unfold At at *
  have hp : 0 < 2 ^ s := Nat.pow_pos (by omega)
  have h1 : 2 ^ c * 2 ^ s ≤ x := (Nat.le_div_iff_mul_le hp).1 h.1
  have h2 : x < 2 ^ (c + 1) * 2 ^ s := (Nat.div_lt_iff_lt_mul hp).1 h.2
  rw [Nat.pow_add, show c + s + 1 = (c + 1) + s by omega, Nat.pow_add]
  exact ⟨h1, h2⟩

section
variable {tb : List PF} {r : KF} {js : List KF}

theorem len8_eval {x n : Nat} (hx : x < 256) (h0 : 0 < x) (hn : n ≤ 56) : ∃ c, c < 8 ∧ At x c ∧ evalK tb tLen8 [.int x, .int n] r js = r [.int ((n + c + 1 : Nat) : Int)] := by
  obtain ⟨c, h1, h2, h3⟩ := len8_ok x hx h0
  refine ⟨c, h1, h2, ?_⟩
  have w1 : IntKind.u8.wrap (x : Int) = x := wrap_in (by show (0 : Int) ≤ x; omega) (by show (x : Int) ≤ 255; omega)
  have w2 : IntKind.i64.wrap ((c + 1 : Nat) : Int) = (c + 1 : Nat) := wrap_in (by show (-9223372036854775808 : Int) ≤ _; omega) (by show _ ≤ (9223372036854775807 : Int); omega)
  have w3 : IntKind.i64.wrap ((n : Int) + ((c + 1 : Nat) : Int)) = (n + c + 1 : Nat) := by
    rw [wrap_in (by show (-9223372036854775808 : Int) ≤ _; omega) (by show _ ≤ (9223372036854775807 : Int); omega)]
    omega
  refine Eq.trans (evalK_primk (rs := [.int x]) (by simp only [ev, w1]) (fun i h => by cases h) rfl rfl) ?_
  simp only [List.cons_append, List.nil_append]
  refine Eq.trans (evalK_primk (rs := [.int (c + 1 : Nat)]) (by simp only [ev]; rw [if_pos (by omega), show (x : Int).toNat = x by omega, h3]) (fun i h => by cases h) rfl rfl) ?_
  simp only [List.cons_append, List.nil_append]
  refine Eq.trans (evalK_primk (rs := [.int (c + 1 : Nat)]) (by simp only [ev, w2]) (fun i h => by cases h) rfl rfl) ?_
  simp only [List.cons_append, List.nil_append]
  refine Eq.trans (evalK_primk (rs := [.int (n + c + 1 : Nat)]) (by simp only [ev, binInt, w3]) (fun i h => by cases h) rfl rfl) ?_
  exact evalK_retk rfl

theorem shr_nat (x s : Nat) : (x : Int).fdiv (2 ^ s) = ((x / 2 ^ s : Nat) : Int) := by
  rw [Int.fdiv_eq_ediv_of_nonneg _ (Int.le_of_lt (Int.pow_pos (by omega)))]
  simp

theorem len_eval {x : Nat} (h0 : 0 < x) (hx : x < 18446744073709551616) : ∃ c, c < 64 ∧ At x c ∧ tLen.fn tb [.int x] r = r [.int ((c + 1 : Nat) : Int)] := by
  -- the steps, from the last one on
  have step8 : ∀ (x n : Nat) (js : List KF), 0 < x → x < 65536 → n ≤ 48 → ∃ c, c < 16 ∧ At x c ∧
      evalK tb (.op (.cmp .geq) [.v 0, .i 256] 1 (.seq (.ite (.v 2) (.op (.bin .shr .u64) [.v 0, .i 8] 1 (.op (.bin .add .i64) [.v 1, .i 8] 1 (.jump 0 [.v 3, .v 4]))) (.jump 0 [.v 0, .v 1])) tLen8)) [.int x, .int n] r js = r [.int ((n + c + 1 : Nat) : Int)] := by
    intro x n js h0 hx hn
    by_cases hc : 256 ≤ x
    · have hd : 0 < x / 2 ^ 8 ∧ x / 2 ^ 8 < 256 := by omega
      obtain ⟨c, c1, c2, c3⟩ := len8_eval (tb := tb) (r := r) (js := js) (n := n + 8) hd.2 hd.1 (by omega)
      refine ⟨c + 8, by omega, c2.up, ?_⟩
      have w3 : IntKind.i64.wrap ((n : Int) + 8) = (n + 8 : Nat) := by
        rw [wrap_in (by show (-9223372036854775808 : Int) ≤ _; omega) (by show _ ≤ (9223372036854775807 : Int); omega)]; omega
      refine Eq.trans (evalK_primk (rs := [.bool true]) (by simp only [ev, cmpInt]; simp; omega) no_cmp rfl rfl) ?_
      simp only [List.cons_append, List.nil_append]
      refine Eq.trans evalK_seqk ?_
      refine Eq.trans (evalK_tt rfl) ?_
      refine Eq.trans (evalK_primk (rs := [.int (x / 2 ^ 8 : Nat)]) (by simp only [ev, binInt]; rw [if_neg (by omega)]; exact congrArg (fun z => some [PV.int z]) (shr_nat x 8)) no_bin rfl rfl) ?_
      simp only [List.cons_append, List.nil_append]
      refine Eq.trans (evalK_primk (rs := [.int (n + 8 : Nat)]) (by simp only [ev, binInt, w3]) no_bin rfl rfl) ?_
      simp only [List.cons_append, List.nil_append]
      refine Eq.trans (evalK_jump0 rfl) ?_
      rw [c3]
      congr 4; omega
    · obtain ⟨c, c1, c2, c3⟩ := len8_eval (tb := tb) (r := r) (js := js) (n := n) (show x < 256 by omega) h0 (by omega)
      refine ⟨c, by omega, c2, ?_⟩
      refine Eq.trans (evalK_primk (rs := [.bool false]) (by simp only [ev, cmpInt]; simp; omega) no_cmp rfl rfl) ?_
      simp only [List.cons_append, List.nil_append]
      refine Eq.trans evalK_seqk ?_
      refine Eq.trans (evalK_ff rfl) ?_
      refine Eq.trans (evalK_jump0 rfl) ?_
      exact c3
  have step16 : ∀ (x n : Nat) (js : List KF), 0 < x → x < 4294967296 → n ≤ 32 → ∃ c, c < 32 ∧ At x c ∧
      evalK tb (.op (.cmp .geq) [.v 0, .i 65536] 1 (.seq (.ite (.v 2) (.op (.bin .shr .u64) [.v 0, .i 16] 1 (.op (.bin .add .i64) [.v 1, .i 16] 1 (.jump 0 [.v 3, .v 4]))) (.jump 0 [.v 0, .v 1]))
        (.op (.cmp .geq) [.v 0, .i 256] 1 (.seq (.ite (.v 2) (.op (.bin .shr .u64) [.v 0, .i 8] 1 (.op (.bin .add .i64) [.v 1, .i 8] 1 (.jump 0 [.v 3, .v 4]))) (.jump 0 [.v 0, .v 1])) tLen8)))) [.int x, .int n] r js = r [.int ((n + c + 1 : Nat) : Int)] := by
    intro x n js h0 hx hn
    by_cases hc : 65536 ≤ x
    · have hd : 0 < x / 2 ^ 16 ∧ x / 2 ^ 16 < 65536 := by omega
      obtain ⟨c, c1, c2, c3⟩ := step8 (x / 2 ^ 16) (n + 16) js hd.1 hd.2 (by omega)
      refine ⟨c + 16, by omega, c2.up, ?_⟩
      have w3 : IntKind.i64.wrap ((n : Int) + 16) = (n + 16 : Nat) := by
        rw [wrap_in (by show (-9223372036854775808 : Int) ≤ _; omega) (by show _ ≤ (9223372036854775807 : Int); omega)]; omega
      refine Eq.trans (evalK_primk (rs := [.bool true]) (by simp only [ev, cmpInt]; simp; omega) no_cmp rfl rfl) ?_
      simp only [List.cons_append, List.nil_append]
      refine Eq.trans evalK_seqk ?_
      refine Eq.trans (evalK_tt rfl) ?_
      refine Eq.trans (evalK_primk (rs := [.int (x / 2 ^ 16 : Nat)]) (by simp only [ev, binInt]; rw [if_neg (by omega)]; exact congrArg (fun z => some [PV.int z]) (shr_nat x 16)) no_bin rfl rfl) ?_
      simp only [List.cons_append, List.nil_append]
      refine Eq.trans (evalK_primk (rs := [.int (n + 16 : Nat)]) (by simp only [ev, binInt, w3]) no_bin rfl rfl) ?_
      simp only [List.cons_append, List.nil_append]
      refine Eq.trans (evalK_jump0 rfl) ?_
      rw [c3]
      congr 4; omega
    · obtain ⟨c, c1, c2, c3⟩ := step8 x n js h0 (by omega) (by omega)
      refine ⟨c, by omega, c2, ?_⟩
      refine Eq.trans (evalK_primk (rs := [.bool false]) (by simp only [ev, cmpInt]; simp; omega) no_cmp rfl rfl) ?_
      simp only [List.cons_append, List.nil_append]
      refine Eq.trans evalK_seqk ?_
      refine Eq.trans (evalK_ff rfl) ?_
      refine Eq.trans (evalK_jump0 rfl) ?_
      exact c3
  show ∃ c, c < 64 ∧ At x c ∧ evalK tb tLen [.int x] r [] = _
  unfold tLen
  by_cases hc : 4294967296 ≤ x
  · have hd : 0 < x / 2 ^ 32 ∧ x / 2 ^ 32 < 4294967296 := by omega
    obtain ⟨c, c1, c2, c3⟩ := step16 (x / 2 ^ 32) 32 [] hd.1 hd.2 (by omega)
    refine ⟨c + 32, by omega, c2.up, ?_⟩
    refine Eq.trans (evalK_primk (rs := [.bool true]) (by simp only [ev, cmpInt]; simp; omega) no_cmp rfl rfl) ?_
    simp only [List.cons_append, List.nil_append]
    refine Eq.trans evalK_seqk ?_
    refine Eq.trans (evalK_tt rfl) ?_
    refine Eq.trans (evalK_primk (rs := [.int (x / 2 ^ 32 : Nat)]) (by simp only [ev, binInt]; rw [if_neg (by omega)]; exact congrArg (fun z => some [PV.int z]) (shr_nat x 32)) no_bin rfl rfl) ?_
    simp only [List.cons_append, List.nil_append]
    refine Eq.trans (evalK_jump0 rfl) ?_
    refine Eq.trans c3 ?_
    congr 4; omega
  · obtain ⟨c, c1, c2, c3⟩ := step16 x 0 [] h0 (by omega) (by omega)
    refine ⟨c, by omega, c2, ?_⟩
    refine Eq.trans (evalK_primk (rs := [.bool false]) (by simp only [ev, cmpInt]; simp; omega) no_cmp rfl rfl) ?_
    simp only [List.cons_append, List.nil_append]
    refine Eq.trans evalK_seqk ?_
    refine Eq.trans (evalK_ff rfl) ?_
    refine Eq.trans (evalK_jump0 rfl) ?_
    refine Eq.trans c3 ?_
    congr 4; omega
end

theorem len_ok {tb : List PF} : SumOk (tLen.fn tb) (lenP, lenQ) := by
  intro args h
  have h1 : args.length = 1 := by rw [h.len]; rfl
  match args, h1, h with
  | [a], _, h =>
    obtain ⟨x, rfl, x1, x2⟩ := slot_int (h.slot 0 _ a rfl rfl)
    obtain ⟨c, c1, c2, c3⟩ := len_eval (tb := tb) (r := some) (x := x.toNat) (by omega) (by omega)
    rw [show ((x.toNat : Nat) : Int) = x by omega] at c3
    refine ⟨_, c3, _, List.mem_map.2 ⟨c, List.mem_range.2 c1, rfl⟩, rfl, ?_, fun a b c hm => by cases hm⟩
    refine slots_cons ⟨trivial, fun n e => ?_, fun n e => ?_, trivial⟩ (slots_cons ⟨trivial, fun n e => ?_, fun n e => ?_, trivial⟩ slots_nil)
    · cases e; have := c2.1; show ((2 ^ c : Nat) : Int) ≤ x; omega
    · cases e; have := c2.2; show x ≤ ((2 ^ (c + 1) - 1 : Nat) : Int); omega
    · cases e; exact Int.le_refl _
    · cases e; exact Int.le_refl _
end Gm

/- What a law is handed, and what it yields, as values. -/
namespace Gm
open Go

def i64 (x : Int) : Prop := -9223372036854775808 ≤ x ∧ x ≤ 9223372036854775807

theorem Z_arg {η : List PV} {x : Int} (h : i64 x) : Slot.ok η Z (.int x) :=
  ⟨trivial, fun n e => (by cases e; exact h.1), fun n e => (by cases e; exact h.2), trivial⟩

theorem Y_arg {η : List PV} {l : List Int} (h : ∀ x ∈ l, u64 x) : Slot.ok η (Y (some 0) none) (.ints l) :=
  ⟨⟨by decide, Nat.mod_one _, h⟩, fun n e => (by cases e; exact Int.natCast_nonneg _), fun n e => (by cases e), trivial⟩

theorem slot_bool {l h : Int} {η : List PV} {p : PV} (k : Slot.ok η (B l h) p) : ∃ x, p = .bool x ∧ l ≤ (bif x then 1 else 0) ∧ (bif x then 1 else 0) ≤ h := by
  have ht := k.t
  cases p with
  | bool x => exact ⟨x, rfl, k.lo l rfl, k.hi h rfl⟩
  | int n => exact ht.elim
  | ints l => exact ht.elim
  | str s => exact ht.elim

theorem slot_tt {η : List PV} {p : PV} (k : Slot.ok η (B 1 1) p) : p = .bool true := by
  obtain ⟨x, rfl, h1, h2⟩ := slot_bool k
  cases x with
  | true => rfl
  | false => exact absurd h1 (by decide)

theorem slot_ff {η : List PV} {p : PV} (k : Slot.ok η (B 0 0) p) : p = .bool false := by
  obtain ⟨x, rfl, h1, h2⟩ := slot_bool k
  cases x with
  | false => rfl
  | true => exact absurd h2 (by decide)

theorem slot_at {c : Int} {η : List PV} {p : PV} (k : Slot.ok η (I c c) p) : p = .int c := by
  obtain ⟨x, rfl, h1, h2⟩ := slot_int k
  have : x = c := by omega
  rw [this]

/-- equal by two facts -/
theorem eq_of_facts {A : AS} {η : List PV} (h : AS.ok A η) {i j : Nat} {x y : Int} {s s' : Slot} (h1 : (i, j, (0 : Int)) ∈ A.fs) (h2 : (j, i, (0 : Int)) ∈ A.fs)
    (hs : A.sl[i]? = some s) (hs' : A.sl[j]? = some s') (ht : s.t = .int) (ht' : s'.t = .int) (hx : η[i]? = some (.int x)) (hy : η[j]? = some (.int y)) : x = y := by
  have f1 := (h.fact _ _ _ h1).2.2
  have f2 := (h.fact _ _ _ h2).2.2
  have e1 : ms A.sl η i = x := by unfold ms; rw [hs, hx]; simp only [ht]; rfl
  have e2 : ms A.sl η j = y := by unfold ms; rw [hs', hy]; simp only [ht']; rfl
  rw [e1, e2] at f1 f2
  omega

theorem no_mul {o : BinOp} {k : IntKind} : ∀ i, Prim.bin o k ≠ .call i := fun i h => by cases h
theorem no_mn : ∀ i, Prim.mn ≠ .call i := fun i h => by cases h
theorem no_mx : ∀ i, Prim.mx ≠ .call i := fun i h => by cases h

theorem N_arg {η : List PV} {l : List Int} (h : ∀ x ∈ l, i64 x) (hl : l.length ≤ 1099511627776) : Slot.ok η (N 1 (-9223372036854775808) 9223372036854775807 (some 0) (some 1099511627776)) (.ints l) :=
  ⟨⟨by decide, Nat.mod_one _, h⟩, fun n e => (by cases e; exact Int.natCast_nonneg _), fun n e => (by cases e; show ((l.length / 1 : Nat) : Int) ≤ _; rw [Nat.div_one]; omega), trivial⟩

theorem Yh_arg {η : List PV} {l : List Int} (h : ∀ x ∈ l, u64 x) (hl : l.length ≤ 1099511627776) : Slot.ok η (Y (some 0) (some 1099511627776)) (.ints l) :=
  ⟨⟨by decide, Nat.mod_one _, h⟩, fun n e => (by cases e; exact Int.natCast_nonneg _), fun n e => (by cases e; show ((l.length / 1 : Nat) : Int) ≤ _; rw [Nat.div_one]; omega), trivial⟩

theorem B_arg {η : List PV} (x : Bool) : Slot.ok η (B 0 1) (.bool x) :=
  ⟨trivial, fun n e => (by cases e; cases x <;> decide), fun n e => (by cases e; cases x <;> decide), trivial⟩

theorem ints_any {w : Nat} {lo hi : Int} {p : PV} (h : (AT.ints w lo hi).ok p) : ∃ l, p = .ints l := by
  cases p with
  | ints l => exact ⟨l, rfl⟩
  | int n => exact h.elim
  | bool b => exact h.elim
  | str s => exact h.elim

theorem slot_listh {n m : Int} {η : List PV} {p : PV} (k : Slot.ok η (Y (some n) (some m)) p) : ∃ l, p = .ints l ∧ (∀ z ∈ l, u64 z) ∧ (l.length : Int) ≤ m := by
  obtain ⟨l, rfl⟩ := ints_any k.t
  refine ⟨l, rfl, k.t.2.2, ?_⟩
  have := k.hi m rfl
  rw [show meas (Y (some n) (some m)).t (.ints l) = ((l.length / 1 : Nat) : Int) from rfl, Nat.div_one] at this
  exact this

theorem slot_nums {n m : Int} {η : List PV} {p : PV} (k : Slot.ok η (N 1 (-9223372036854775808) 9223372036854775807 (some n) (some m)) p) : ∃ l, p = .ints l ∧ (∀ z ∈ l, i64 z) ∧ (l.length : Int) ≤ m := by
  obtain ⟨l, rfl⟩ := ints_any k.t
  refine ⟨l, rfl, k.t.2.2, ?_⟩
  have := k.hi m rfl
  rw [show meas (N 1 (-9223372036854775808) 9223372036854775807 (some n) (some m)).t (.ints l) = ((l.length / 1 : Nat) : Int) from rfl, Nat.div_one] at this
  exact this

end Gm

/- From a contract to a law's row, where tables are read: the tables as the row's condition lays them. -/
namespace Gm
open Go

/-- a table of numbers lies in memory as it is listed -/
theorem table_at {P : Program} {W : World} {name : String} {g t e n : Nat} {k : IntKind} {cs : Array Value} {l : List Int} {fuel : Nat} {p : List MemPlace} (hg : P.globalNamed name = some g)
    (hu : P.underlying t = some (.array n e)) (he : P.underlying e = some (.int k)) (hc : P.cellsOf e = 1) (hv : W.var? P name = some cs)
    (hd : DataW.trod (fun _ => ()) P W 0 (fun _ => true) false fuel t cs.toList = some (.agg (l.map fun x => .lit (.int k x)), p)) :
    ∃ arr t fr, W.heap[g]? = some (.cells arr t fr) ∧ ∀ (i : Nat) (x : Int), l[i]? = some x → arr[i]? = some (.int k x) := by
  obtain ⟨xs, m, rfl, hx, hlen, hn, hel⟩ := DataW.trod_array hu hd
  simp only [Prod.mk.injEq, DataW.agg.injEq] at hx
  have hln : l.length = n := by
    have := congrArg List.length hx.1
    simp at this
    omega
  have key : ∀ (i : Nat) (x : Int), l[i]? = some x → cs[i]? = some (.int k x) := by
    intro i x hi
    have hin : i < n := by
      have := (List.getElem?_eq_some_iff.1 hi).1
      omega
    have h1 := hel i hin
    obtain ⟨y, hy⟩ : ∃ y, xs[i]? = some y := ⟨xs[i], List.getElem?_eq_getElem (by omega)⟩
    rw [hy] at h1
    obtain ⟨z, e1, e2, _⟩ := DataW.trod_int he h1
    have h2 : (l.map fun x => (DataW.lit (.int k x) : DataW Unit))[i]? = (xs.map (·.1))[i]? := by rw [hx.1]
    rw [List.getElem?_map, List.getElem?_map, hi, hy, e2] at h2
    simp only [Option.map_some, Option.some.injEq, DataW.lit.injEq, Lit.int.injEq, true_and] at h2
    subst h2
    rw [hc, Nat.mul_one] at e1
    have h3 : (cs.toList.drop i)[0]? = some (Value.int k x) := by
      have : ((cs.toList.drop i).take 1)[0]? = some (Value.int k x) := by rw [e1]; rfl
      rw [List.getElem?_take] at this
      simpa using this
    rw [List.getElem?_drop, Nat.add_zero, Array.getElem?_toList] at h3
    exact h3
  have hvv := hv
  simp only [World.var?, hg, Option.bind_some] at hvv
  split at hvv
  · rename_i c t' fr hb
    cases hvv
    exact ⟨cs, t', fr, hb, key⟩
  · cases hvv

theorem law_calls_gl {P : Program} {gl : Nat → Option (CK × List Int)} {f : FuncId} {fn : Func} {body : Code} {sg : Sig} {F : PF} (hC : Contract P gl f sg F) (hf : P.funcs[f]? = some fn) (hname : (fn.name == "runtime.NumGoroutine") = false) (hb : fn.body = some body)
    (hres : sg.res = .c (.bool (.v 0))) (hnr : sg.nr = 1) (hro : ∀ b sb, hpf sg.heap b = some sb → sb.rw = false) {w : World} {ρ : Rho} {ps : List PV} {args : Array Value}
    (hv : VVs ps ρ sg.args args.toList) (hH : HR ps ρ (hpf sg.heap) w) (htop : ∀ b, sg.heap.length ≤ b → ρ b = none) (hnp : ps.length = sg.np) (hF : F ps some = some [.bool true])
    (hgl : ∀ g ck l, gl g = some (ck, l) → ∃ arr t fr, w.heap[g]? = some (.cells arr t fr) ∧ ∀ (i : Nat) (x : Int), l[i]? = some x → arr[i]? = some (ck.val x)) :
    Calls P f args w fun e w' => e = .returned (.bool true) ∧ Go.RowKit.Below w.heap.size w w' := by
  have hno : ∀ x, ¬ touchOf sg ρ x := by
    rintro x ⟨b, sb, rb, a1, a2, _⟩
    rw [hro b sb a1] at a2
    cases a2
  have h := hC w ρ ps _ args hv hH htop hnp hF (by rw [hnr]; rfl) (fun g ck l e => ⟨hno g, hgl g ck l e⟩)
  have hcall : (callFunc f args).run P w = .ok (.enter f args) w := by
    have hn' : ¬ fn.name = "runtime.NumGoroutine" := by simpa using hname
    simp [callFunc, hf, hn', hb]
  unfold CallTo at h
  rw [hcall] at h
  refine Calls.mono h fun e w' q => ?_
  cases e with
  | panicked c => exact q.elim
  | outgrown => exact q.elim
  | returned v =>
    obtain ⟨ρ', h1, h2, h3, h4⟩ := q
    rw [hres] at h1
    obtain ⟨x, e1, e2⟩ := h1
    cases e1
    subst e2
    exact ⟨rfl, h4.os, h4.tape, h4.out, h4.size, fun k hk => h4.keep k hk (hno k)⟩

/-- what a law that calls nothing that writes is handed: a value that can be had -/
theorem u64_of {x : Int} (h : (Lit.int .u64 x).wf = true) : u64 x := by
  simp only [Lit.wf, Bool.and_eq_true, decide_eq_true_eq] at h
  exact ⟨h.1, h.2⟩

theorem i64_of {x : Int} (h : (Lit.int .i64 x).wf = true) : i64 x := by
  simp only [Lit.wf, Bool.and_eq_true, decide_eq_true_eq] at h
  exact ⟨h.1, h.2⟩

/-- the cells of a struct of two fields -/
theorem okWide_two {P : Program} {w : World} {r : Reach} {base : Nat} {t t0 t1 : TypeId} {fs : Array Field} {v0 v1 : Value} (hs : P.underlying t = some (.struct fs)) (hts : P.cellTypes P.depth t = some [t0, t1]) (hv : Value.okWide P w r base t (.agg #[v0, v1])) :
    Cell.okWide P w r base t0 v0 ∧ Cell.okWide P w r base t1 v1 := by
  simp only [Value.okWide, hs] at hv
  obtain ⟨cs, h1, _, ts, h2, _, h3⟩ := hv
  cases h1
  rw [hts] at h2
  cases h2
  obtain ⟨a, a1, a2⟩ := h3 0 v0 rfl
  obtain ⟨b, b1, b2⟩ := h3 1 v1 rfl
  cases a1
  cases b1
  exact ⟨a2, b2⟩

theorem okWide_of_slice {P : Program} {w : World} {r : Reach} {base : Nat} {t e : TypeId} {v : Value} (ht : P.underlying t = some (.slice e)) (h : Cell.okWide P w r base t v) : Value.okWide P w r base t v := by
  unfold Value.okWide
  rw [ht]
  exact h

section
open Go.ChangeShapes
variable {H : Type} {enc : TypeId × Value → H} {P : Program} {w : World} {base : Nat} {spare : Nat → Bool} {held : Bool}

theorem trodAll_five {t t1 t2 t3 t4 : TypeId} {args : Array Value} {ds : List (DataW H)} {ps : List MemPlace} (h : DataW.TrodAll enc P w base spare held [t, t1, t2, t3, t4] args.toList ds ps) :
    ∃ v v1 v2 v3 v4 d d1 d2 d3 d4 p p1 p2 p3 p4, args = #[v, v1, v2, v3, v4] ∧ ds = [d, d1, d2, d3, d4] ∧ ps = p ++ p1 ++ p2 ++ p3 ++ p4 ∧ DataW.Trod enc P w base spare held t v d p ∧ DataW.Trod enc P w base spare held t1 v1 d1 p1 ∧
      DataW.Trod enc P w base spare held t2 v2 d2 p2 ∧ DataW.Trod enc P w base spare held t3 v3 d3 p3 ∧ DataW.Trod enc P w base spare held t4 v4 d4 p4 := by
  obtain ⟨v, vs, d, ds0, p, q, hargs, rfl, rfl, hd, hrest⟩ := trodAll_cons h
  obtain ⟨v1, vs1, d1, ds1, p1, q1, rfl, rfl, rfl, hd1, hrest1⟩ := trodAll_cons hrest
  obtain ⟨v2, vs2, d2, ds2, p2, q2, rfl, rfl, rfl, hd2, hrest2⟩ := trodAll_cons hrest1
  obtain ⟨v3, vs3, d3, ds3, p3, q3, rfl, rfl, rfl, hd3, hrest3⟩ := trodAll_cons hrest2
  obtain ⟨v4, vs4, d4, ds4, p4, q4, rfl, rfl, rfl, hd4, hrest4⟩ := trodAll_cons hrest3
  obtain ⟨rfl, rfl, rfl⟩ := trodAll_nil hrest4
  exact ⟨v, v1, v2, v3, v4, d, d1, d2, d3, d4, p, p1, p2, p3, p4, by cases args; simp_all, rfl, by simp, hd, hd1, hd2, hd3, hd4⟩

theorem trodAll_mk5 {t t1 t2 t3 t4 : TypeId} {v v1 v2 v3 v4 : Value} {d d1 d2 d3 d4 : DataW H} {p p1 p2 p3 p4 : List MemPlace} (h : DataW.Trod enc P w base spare held t v d p) (h1 : DataW.Trod enc P w base spare held t1 v1 d1 p1)
    (h2 : DataW.Trod enc P w base spare held t2 v2 d2 p2) (h3 : DataW.Trod enc P w base spare held t3 v3 d3 p3) (h4 : DataW.Trod enc P w base spare held t4 v4 d4 p4) :
    DataW.TrodAll enc P w base spare held [t, t1, t2, t3, t4] [v, v1, v2, v3, v4] [d, d1, d2, d3, d4] (p ++ (p1 ++ (p2 ++ (p3 ++ p4)))) :=
  trodAll_cons_mk h (trodAll_cons_mk h1 (trodAll_cons_mk h2 (trodAll_cons_mk h3 (trodAll_mk1 h4))))
end

end Gm

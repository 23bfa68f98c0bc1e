/- The law of the vectors ahead of the balancing: the way through its term. -/
import Derived.Test.YtjbacabjgdfmdaaGreatDoorK9
import Derived.Test.YtjbacabjgdfmdaaGreatDoorF4
import Derived.Test.YtjbacabjgdfmdaaGreatDoorTie
import Derived.Test.YtjbacabjgdfmdaaGreatDoorCards
import Derived.SevenTiedAt
import Derived.Stop.Joined
namespace Go.Proofs
open Go Gm
namespace YtjbacabjgdfmdaaGreatDoor.Gp

theorem ev_ne (a b : Int) : ev (.cmp .neq) [.int a, .int b] = some [.bool (a != b)] := rfl
theorem ev_eq (a b : Int) : ev (.cmp .eql) [.int a, .int b] = some [.bool (a == b)] := rfl
theorem ev_ne_self (a : Int) : ev (.cmp .neq) [.int a, .int a] = some [.bool false] := by simp [ev, cmpInt]
theorem no_chk {w : Nat} : ∀ i, Prim.chk w ≠ .call i := fun i h => by cases h
theorem no_get {w o : Nat} : ∀ i, Prim.get w o ≠ .call i := fun i h => by cases h

def mxI (a b : Int) : Int := if b > a then b else a
def gor (a b : Int) : Int := gbits .or .u8 a b
theorem ev_mx (a b : Int) : ev .mx [.int a, .int b] = some [.int (mxI a b)] := rfl
theorem ev_or (a b : Int) : ev (.bin .or .u8) [.int a, .int b] = some [.int (gor a b)] := rfl
theorem ev_len1 (l : List Int) : ev (.len 1) [.ints l] = some [.int (l.length : Int)] := by simp [ev]

def cmpBody : T := .op (.cmp .lss) [.v 1, .v 0] 1 (.ite (.v 6) (.seq (.seq (.op (.chk 1) [.v 2, .v 1] 0 (.op (.get 1 0) [.v 2, .v 1] 1 (.op (.chk 1) [.v 4, .v 1] 0 (.op (.get 1 0) [.v 4, .v 1] 1 (.op (.cmp .neq) [.v 7, .v 8] 1 (.ite (.v 9) (.jump 0 [.v 0, .v 1, .b true, .v 2, .v 3, .v 4, .v 5]) (.op (.chk 1) [.v 3, .v 1] 0 (.op (.get 1 0) [.v 3, .v 1] 1 (.op (.chk 1) [.v 5, .v 1] 0 (.op (.get 1 0) [.v 5, .v 1] 1 (.op (.cmp .neq) [.v 10, .v 11] 1 (.jump 0 [.v 0, .v 1, .v 12, .v 2, .v 3, .v 4, .v 5])))))))))))) (.ite (.v 2) (.ret [.b false]) (.jump 0 [.v 0, .v 1, .v 3, .v 4, .v 5, .v 6]))) (.op (.bin .add .i64) [.v 1, .i 1] 1 (.jump 0 [.v 0, .v 6, .v 2, .v 3, .v 4, .v 5]))) (.jump 1 []))
def cmpInit : List Atom := [.v 5, .i 0, .v 1, .v 2, .v 3, .v 4]

section
variable {tb : List PF} {fB fP : PF} {pl pw re im r1 r2 : List Int} {lo hi a1 e1 a2 e2 : Int} {left : Bool}

/-- one round of the comparison of two lists with themselves -/
theorem cmp_step {l1 l2 : List Int} {r : KF} {js : List KF} {n k : Nat} (h1 : k < l1.length) (h2 : k < l2.length) (hk : k < n) (hn : n ≤ 1099511627776) (K : KF) :
    evalK tb cmpBody [.int (n : Int), .int (k : Int), .ints l1, .ints l2, .ints l1, .ints l2] r (K :: js) = K [.int (n : Int), .int ((k + 1 : Nat) : Int), .ints l1, .ints l2, .ints l1, .ints l2] := by
    obtain ⟨x, hx⟩ : ∃ x, l1[k]? = some x := ⟨_, List.getElem?_eq_getElem h1⟩
    obtain ⟨y, hy⟩ : ∃ y, l2[k]? = some y := ⟨_, List.getElem?_eq_getElem h2⟩
    have c1 : ev (.chk 1) [.ints l1, .int (k : Int)] = some [] := by simp only [ev]; rw [if_pos (by rw [Nat.div_one]; omega)]
    have c2 : ev (.chk 1) [.ints l2, .int (k : Int)] = some [] := by simp only [ev]; rw [if_pos (by rw [Nat.div_one]; omega)]
    have g1 : ev (.get 1 0) [.ints l1, .int (k : Int)] = some [.int x] := by simp only [ev]; rw [if_pos (by omega)]; simp [hx]
    have g2 : ev (.get 1 0) [.ints l2, .int (k : Int)] = some [.int y] := by simp only [ev]; rw [if_pos (by omega)]; simp [hy]
    have lt : ev (.cmp .lss) [.int (k : Int), .int (n : Int)] = some [.bool true] := by simp [ev, cmpInt]; omega
    have ad : ev (.bin .add .i64) [.int (k : Int), .int 1] = some [.int ((k + 1 : Nat) : Int)] := by
      show some [PV.int (IntKind.i64.wrap ((k : Int) + 1))] = _
      rw [wrap_in (k := .i64) (by show (-9223372036854775808 : Int) ≤ _; omega) (by show _ ≤ (9223372036854775807 : Int); omega)]
      rfl
    unfold cmpBody

    refine Eq.trans (evalK_primk lt no_cmp rfl rfl) ?_
    simp only [List.cons_append, List.nil_append]
    refine Eq.trans (evalK_tt rfl) ?_
    refine Eq.trans evalK_seqk ?_
    refine Eq.trans evalK_seqk ?_
    refine Eq.trans (evalK_primk c1 no_chk rfl rfl) ?_
    simp only [List.append_nil]
    refine Eq.trans (evalK_primk g1 no_get rfl rfl) ?_
    simp only [List.cons_append, List.nil_append]
    refine Eq.trans (evalK_primk c1 no_chk rfl rfl) ?_
    simp only [List.append_nil]
    refine Eq.trans (evalK_primk g1 no_get rfl rfl) ?_
    simp only [List.cons_append, List.nil_append]
    refine Eq.trans (evalK_primk (ev_ne_self _) no_cmp rfl rfl) ?_
    simp only [List.cons_append, List.nil_append]
    refine Eq.trans (evalK_ff rfl) ?_
    refine Eq.trans (evalK_primk c2 no_chk rfl rfl) ?_
    simp only [List.append_nil]
    refine Eq.trans (evalK_primk g2 no_get rfl rfl) ?_
    simp only [List.cons_append, List.nil_append]
    refine Eq.trans (evalK_primk c2 no_chk rfl rfl) ?_
    simp only [List.append_nil]
    refine Eq.trans (evalK_primk g2 no_get rfl rfl) ?_
    simp only [List.cons_append, List.nil_append]
    refine Eq.trans (evalK_primk (ev_ne_self _) no_cmp rfl rfl) ?_
    simp only [List.cons_append, List.nil_append]
    refine Eq.trans (evalK_jump0 rfl) ?_
    refine Eq.trans (evalK_ff rfl) ?_
    refine Eq.trans (evalK_jump0 rfl) ?_
    refine Eq.trans (evalK_primk ad no_bin rfl rfl) ?_
    simp only [List.cons_append, List.nil_append]
    exact evalK_jump0 rfl

theorem cmp_end {l1 l2 : List Int} {r : KF} {j : KF} {js : List KF} {n : Nat} (K : KF) :
    evalK tb cmpBody [.int (n : Int), .int (n : Int), .ints l1, .ints l2, .ints l1, .ints l2] r (K :: j :: js) = j [] := by
    have lt : ev (.cmp .lss) [.int (n : Int), .int (n : Int)] = some [.bool false] := by simp [ev, cmpInt]
    unfold cmpBody
    refine Eq.trans (evalK_primk lt no_cmp rfl rfl) ?_
    simp only [List.cons_append, List.nil_append]
    refine Eq.trans (evalK_ff rfl) ?_
    simp only [evalK, looks, List.getElem?_cons_succ, List.getElem?_cons_zero]

theorem cmp_iter {l1 l2 : List Int} {r : KF} {j : KF} {js : List KF} {n : Nat} (h1 : n ≤ l1.length) (h2 : n ≤ l2.length) (hn : n ≤ 1099511627776) : ∀ (m k f : Nat), k + m = n → m < f →
    iterK (fun v K => evalK tb cmpBody v r (K :: j :: js)) f [.int (n : Int), .int (k : Int), .ints l1, .ints l2, .ints l1, .ints l2] = j []
  | 0, k, f + 1, hk, hf => by
    have : k = n := by omega
    subst this
    simp only [iterK]
    exact cmp_end _
  | m + 1, k, f + 1, hk, hf => by
    simp only [iterK]
    rw [cmp_step (by omega) (by omega) (by omega) hn]
    exact cmp_iter h1 h2 hn m (k + 1) f (by omega) (by omega)
  | 0, _, 0, _, hf => absurd hf (Nat.not_lt_zero _)
  | _ + 1, _, 0, _, hf => absurd hf (Nat.not_lt_zero _)

theorem cmp_loop {l1 l2 : List Int} {b : PV} {r : KF} {j : KF} {js : List KF} (h : l1.length = l2.length) (hn : l1.length ≤ 1099511627776) :
    evalK tb (.loop cmpInit cmpBody) [b, .ints l1, .ints l2, .ints l1, .ints l2, .int (l1.length : Int)] r (j :: js) = j [] := by
  unfold cmpInit
  simp only [evalK, looks, look, List.getElem?_cons_succ, List.getElem?_cons_zero]
  exact cmp_iter (n := l1.length) (Nat.le_refl _) (by omega) hn l1.length 0 big (by omega) (by unfold big; omega)


theorem pairs_bad {t : T} (h132 : tb[132]? = some fB) (hB1 : ∀ k, fB [.ints pl, .ints pw, .int lo, .int hi, .ints re, .bool left] k = k [.ints r1, .int a1, .int e1])
    (hB2 : ∀ k, fB [.ints pl, .ints pw, .int lo, .int hi, .ints im, .bool left] k = k [.ints r2, .int a2, .int e2]) (hne : (e1 != 0 || e2 != 0) = true) (k : KF)
    (ht : t = .op (.call 132) [.v 2, .v 3, .v 4, .v 5, .v 12, .v 14] 3 (.op (.call 132) [.v 2, .v 3, .v 4, .v 5, .v 13, .v 14] 3 (.seq (.op (.cmp .neq) [.v 17, .i 0] 1 (.ite (.v 21) (.jump 0 [.v 16, .v 17, .v 19, .v 20, .b true, .nil, .nil, .v 15, .v 18]) (.op (.cmp .neq) [.v 20, .i 0] 1 (.jump 0 [.v 16, .v 17, .v 19, .v 20, .v 22, .nil, .nil, .v 15, .v 18])))) (.ite (.v 4) (.op .mx [.v 1, .v 3] 1 (.ret [.nil, .nil, .i 0, .v 9])) (.op (.bin .or .u8) [.v 0, .v 2] 1 (.ret [.v 7, .v 8, .v 9, .i 0])))))) :
    evalK tb t [.int 0, .int 0, .ints pl, .ints pw, .int lo, .int hi, .int 0, .int 0, .int 0, .ints [], .ints [], .ints [], .ints re, .ints im, .bool left] k [] = k [.ints [], .ints [], .int 0, .int (mxI e1 e2)] := by
    subst ht
    refine Eq.trans (evalK_callk h132 hB1 rfl rfl) ?_
    simp only [List.cons_append, List.nil_append]
    refine Eq.trans (evalK_callk h132 hB2 rfl rfl) ?_
    simp only [List.cons_append, List.nil_append]
    refine Eq.trans evalK_seqk ?_
    refine Eq.trans (evalK_primk (ev_ne _ _) no_cmp rfl rfl) ?_
    simp only [List.cons_append, List.nil_append]
    cases h1 : (e1 != 0) with
    | true =>
      refine Eq.trans (evalK_tt rfl) ?_
      refine Eq.trans (evalK_jump0 rfl) ?_
      refine Eq.trans (evalK_tt rfl) ?_
      refine Eq.trans (evalK_primk (ev_mx _ _) no_mx rfl rfl) ?_
      simp only [List.cons_append, List.nil_append]
      exact evalK_retk rfl
    | false =>
      have h2 : (e2 != 0) = true := by rw [h1] at hne; exact hne
      refine Eq.trans (evalK_ff rfl) ?_
      refine Eq.trans (evalK_primk (ev_ne _ _) no_cmp rfl rfl) ?_
      simp only [List.cons_append, List.nil_append]
      rw [h2]
      refine Eq.trans (evalK_jump0 rfl) ?_
      refine Eq.trans (evalK_tt rfl) ?_
      refine Eq.trans (evalK_primk (ev_mx _ _) no_mx rfl rfl) ?_
      simp only [List.cons_append, List.nil_append]
      exact evalK_retk rfl

theorem pairs_good {t : T} (h132 : tb[132]? = some fB) (hB1 : ∀ k, fB [.ints pl, .ints pw, .int lo, .int hi, .ints re, .bool left] k = k [.ints r1, .int a1, .int e1])
    (hB2 : ∀ k, fB [.ints pl, .ints pw, .int lo, .int hi, .ints im, .bool left] k = k [.ints r2, .int a2, .int e2]) (h1 : (e1 != 0) = false) (h2 : (e2 != 0) = false) (k : KF)
    (ht : t = .op (.call 132) [.v 2, .v 3, .v 4, .v 5, .v 12, .v 14] 3 (.op (.call 132) [.v 2, .v 3, .v 4, .v 5, .v 13, .v 14] 3 (.seq (.op (.cmp .neq) [.v 17, .i 0] 1 (.ite (.v 21) (.jump 0 [.v 16, .v 17, .v 19, .v 20, .b true, .nil, .nil, .v 15, .v 18]) (.op (.cmp .neq) [.v 20, .i 0] 1 (.jump 0 [.v 16, .v 17, .v 19, .v 20, .v 22, .nil, .nil, .v 15, .v 18])))) (.ite (.v 4) (.op .mx [.v 1, .v 3] 1 (.ret [.nil, .nil, .i 0, .v 9])) (.op (.bin .or .u8) [.v 0, .v 2] 1 (.ret [.v 7, .v 8, .v 9, .i 0])))))) :
    evalK tb t [.int 0, .int 0, .ints pl, .ints pw, .int lo, .int hi, .int 0, .int 0, .int 0, .ints [], .ints [], .ints [], .ints re, .ints im, .bool left] k [] = k [.ints r1, .ints r2, .int (gor a1 a2), .int 0] := by
    subst ht
    refine Eq.trans (evalK_callk h132 hB1 rfl rfl) ?_
    simp only [List.cons_append, List.nil_append]
    refine Eq.trans (evalK_callk h132 hB2 rfl rfl) ?_
    simp only [List.cons_append, List.nil_append]
    refine Eq.trans evalK_seqk ?_
    refine Eq.trans (evalK_primk (ev_ne _ _) no_cmp rfl rfl) ?_
    simp only [List.cons_append, List.nil_append]
    rw [h1]
    refine Eq.trans (evalK_ff rfl) ?_
    refine Eq.trans (evalK_primk (ev_ne _ _) no_cmp rfl rfl) ?_
    simp only [List.cons_append, List.nil_append]
    rw [h2]
    refine Eq.trans (evalK_jump0 rfl) ?_
    refine Eq.trans (evalK_ff rfl) ?_
    refine Eq.trans (evalK_primk (ev_or _ _) no_bin rfl rfl) ?_
    simp only [List.cons_append, List.nil_append]
    exact evalK_retk rfl

theorem tail_true {t : T} {b0 b1 b3 b4 b7 b8 b9 b10 b11 b12 b13 b14 b15 b20 b21 : PV} (h132 : tb[132]? = some fB) (h133 : tb[133]? = some fP)
    (hB1 : ∀ k, fB [.ints pl, .ints pw, .int lo, .int hi, .ints re, .bool left] k = k [.ints r1, .int a1, .int e1])
    (hB2 : ∀ k, fB [.ints pl, .ints pw, .int lo, .int hi, .ints im, .bool left] k = k [.ints r2, .int a2, .int e2])
    (hbad : (e1 != 0 || e2 != 0) = true → ∀ k, fP [.int 0, .int 0, .ints pl, .ints pw, .int lo, .int hi, .int 0, .int 0, .int 0, .ints [], .ints [], .ints [], .ints re, .ints im, .bool left] k = k [.ints [], .ints [], .int 0, .int (mxI e1 e2)])
    (hgood : (e1 != 0) = false → (e2 != 0) = false → ∀ k, fP [.int 0, .int 0, .ints pl, .ints pw, .int lo, .int hi, .int 0, .int 0, .int 0, .ints [], .ints [], .ints [], .ints re, .ints im, .bool left] k = k [.ints r1, .ints r2, .int (gor a1 a2), .int 0])
    (hlen : e1 = 0 → e2 = 0 → r1.length = r2.length ∧ r1.length ≤ 1099511627776)
    (ht : t = .op (.call 133) [.i 0, .i 0, .v 16, .v 17, .v 18, .v 19, .i 0, .i 0, .i 0, .nil, .nil, .nil, .v 5, .v 6, .v 2] 4 (.op (.call 132) [.v 16, .v 17, .v 18, .v 19, .v 5, .v 2] 3 (.op (.call 132) [.v 16, .v 17, .v 18, .v 19, .v 6, .v 2] 3 (.seq (.op (.cmp .neq) [.v 28, .i 0] 1 (.ite (.v 32) (.jump 0 [.v 24, .v 25, .v 27, .v 28, .v 30, .v 31, .b true, .v 22, .v 23, .v 26, .v 29]) (.op (.cmp .neq) [.v 31, .i 0] 1 (.jump 0 [.v 24, .v 25, .v 27, .v 28, .v 30, .v 31, .v 33, .v 22, .v 23, .v 26, .v 29])))) (.ite (.v 6) (.seq (.op .mx [.v 3, .v 5] 1 (.op (.cmp .eql) [.v 1, .v 11] 1 (.ite (.v 12) (.op (.len 1) [.v 7] 1 (.op (.len 1) [.v 8] 1 (.op (.bin .add .i64) [.v 13, .v 14] 1 (.op (.cmp .eql) [.v 15, .i 0] 1 (.jump 0 [.v 16]))))) (.jump 0 [.b false])))) (.ret [.v 0])) (.seq (.op (.cmp .neq) [.v 1, .i 0] 1 (.ite (.v 11) (.jump 0 [.b true, .v 7, .v 8, .v 9, .v 10]) (.op (.bin .or .u8) [.v 2, .v 4] 1 (.op (.cmp .neq) [.v 0, .v 12] 1 (.ite (.v 13) (.jump 0 [.b true, .v 7, .v 8, .v 9, .v 10]) (.op (.len 1) [.v 7] 1 (.op (.len 1) [.v 9] 1 (.op (.cmp .neq) [.v 14, .v 15] 1 (.ite (.v 16) (.jump 0 [.b true, .v 7, .v 8, .v 9, .v 10]) (.op (.len 1) [.v 8] 1 (.op (.len 1) [.v 10] 1 (.op (.cmp .neq) [.v 17, .v 18] 1 (.jump 0 [.v 19, .v 7, .v 8, .v 9, .v 10]))))))))))))) (.ite (.v 0) (.ret [.b false]) (.op (.len 1) [.v 3] 1 (.seq (.loop [.v 5, .i 0, .v 1, .v 2, .v 3, .v 4] (.op (.cmp .lss) [.v 1, .v 0] 1 (.ite (.v 6) (.seq (.seq (.op (.chk 1) [.v 2, .v 1] 0 (.op (.get 1 0) [.v 2, .v 1] 1 (.op (.chk 1) [.v 4, .v 1] 0 (.op (.get 1 0) [.v 4, .v 1] 1 (.op (.cmp .neq) [.v 7, .v 8] 1 (.ite (.v 9) (.jump 0 [.v 0, .v 1, .b true, .v 2, .v 3, .v 4, .v 5]) (.op (.chk 1) [.v 3, .v 1] 0 (.op (.get 1 0) [.v 3, .v 1] 1 (.op (.chk 1) [.v 5, .v 1] 0 (.op (.get 1 0) [.v 5, .v 1] 1 (.op (.cmp .neq) [.v 10, .v 11] 1 (.jump 0 [.v 0, .v 1, .v 12, .v 2, .v 3, .v 4, .v 5])))))))))))) (.ite (.v 2) (.ret [.b false]) (.jump 0 [.v 0, .v 1, .v 3, .v 4, .v 5, .v 6]))) (.op (.bin .add .i64) [.v 1, .i 1] 1 (.jump 0 [.v 0, .v 6, .v 2, .v 3, .v 4, .v 5]))) (.jump 1 [])))) (.ret [.b true])))))))))) :
    evalK tb t [b0, b1, .bool left, b3, b4, .ints re, .ints im, b7, b8, b9, b10, b11, b12, b13, b14, b15, .ints pl, .ints pw, .int lo, .int hi, b20, b21] some [] = some [.bool true] := by
    subst ht
    by_cases hb : (e1 != 0 || e2 != 0) = true

    · refine Eq.trans (evalK_callk h133 (hbad hb) rfl rfl) ?_
      simp only [List.cons_append, List.nil_append]
      refine Eq.trans (evalK_callk h132 hB1 rfl rfl) ?_
      simp only [List.cons_append, List.nil_append]
      refine Eq.trans (evalK_callk h132 hB2 rfl rfl) ?_
      simp only [List.cons_append, List.nil_append]
      refine Eq.trans evalK_seqk ?_
      refine Eq.trans (evalK_primk (ev_ne _ _) no_cmp rfl rfl) ?_
      simp only [List.cons_append, List.nil_append]
      cases h1 : (e1 != 0) with
      | true =>
        refine Eq.trans (evalK_tt rfl) ?_
        refine Eq.trans (evalK_jump0 rfl) ?_
        refine Eq.trans (evalK_tt rfl) ?_
        refine Eq.trans evalK_seqk ?_
        refine Eq.trans (evalK_primk (ev_mx _ _) no_mx rfl rfl) ?_
        simp only [List.cons_append, List.nil_append]
        refine Eq.trans (evalK_primk (ev_eql_self _) no_cmp rfl rfl) ?_
        simp only [List.cons_append, List.nil_append]
        refine Eq.trans (evalK_tt rfl) ?_
        refine Eq.trans (evalK_primk (ev_len1 _) no_len rfl rfl) ?_
        simp only [List.cons_append, List.nil_append]
        refine Eq.trans (evalK_primk (ev_len1 _) no_len rfl rfl) ?_
        simp only [List.cons_append, List.nil_append]
        refine Eq.trans (evalK_primk (rs := [.int 0]) rfl no_bin rfl rfl) ?_
        simp only [List.cons_append, List.nil_append]
        refine Eq.trans (evalK_primk (ev_eql_self _) no_cmp rfl rfl) ?_
        simp only [List.cons_append, List.nil_append]
        refine Eq.trans (evalK_jump0 rfl) ?_
        exact evalK_retk rfl
      | false =>
        have h2 : (e2 != 0) = true := by rw [h1] at hb; exact hb
        refine Eq.trans (evalK_ff rfl) ?_
        refine Eq.trans (evalK_primk (ev_ne _ _) no_cmp rfl rfl) ?_
        simp only [List.cons_append, List.nil_append]
        rw [h2]
        refine Eq.trans (evalK_jump0 rfl) ?_
        refine Eq.trans (evalK_tt rfl) ?_
        refine Eq.trans evalK_seqk ?_
        refine Eq.trans (evalK_primk (ev_mx _ _) no_mx rfl rfl) ?_
        simp only [List.cons_append, List.nil_append]
        refine Eq.trans (evalK_primk (ev_eql_self _) no_cmp rfl rfl) ?_
        simp only [List.cons_append, List.nil_append]
        refine Eq.trans (evalK_tt rfl) ?_
        refine Eq.trans (evalK_primk (ev_len1 _) no_len rfl rfl) ?_
        simp only [List.cons_append, List.nil_append]
        refine Eq.trans (evalK_primk (ev_len1 _) no_len rfl rfl) ?_
        simp only [List.cons_append, List.nil_append]
        refine Eq.trans (evalK_primk (rs := [.int 0]) rfl no_bin rfl rfl) ?_
        simp only [List.cons_append, List.nil_append]
        refine Eq.trans (evalK_primk (ev_eql_self _) no_cmp rfl rfl) ?_
        simp only [List.cons_append, List.nil_append]
        refine Eq.trans (evalK_jump0 rfl) ?_
        exact evalK_retk rfl

    · obtain ⟨h1, h2⟩ : (e1 != 0) = false ∧ (e2 != 0) = false := by
        rw [Bool.or_eq_true] at hb
        exact ⟨by cases q : (e1 != 0) with | true => exact absurd (Or.inl q) hb | false => rfl, by cases q : (e2 != 0) with | true => exact absurd (Or.inr q) hb | false => rfl⟩
      have z1 : e1 = 0 := by simpa using h1
      have z2 : e2 = 0 := by simpa using h2
      obtain ⟨hl, hn⟩ := hlen z1 z2
      refine Eq.trans (evalK_callk h133 (hgood h1 h2) rfl rfl) ?_
      simp only [List.cons_append, List.nil_append]
      refine Eq.trans (evalK_callk h132 hB1 rfl rfl) ?_
      simp only [List.cons_append, List.nil_append]
      refine Eq.trans (evalK_callk h132 hB2 rfl rfl) ?_
      simp only [List.cons_append, List.nil_append]
      refine Eq.trans evalK_seqk ?_
      refine Eq.trans (evalK_primk (ev_ne _ _) no_cmp rfl rfl) ?_
      simp only [List.cons_append, List.nil_append]
      rw [h1]
      refine Eq.trans (evalK_ff rfl) ?_
      refine Eq.trans (evalK_primk (ev_ne _ _) no_cmp rfl rfl) ?_
      simp only [List.cons_append, List.nil_append]
      rw [h2]
      refine Eq.trans (evalK_jump0 rfl) ?_
      refine Eq.trans (evalK_ff rfl) ?_
      refine Eq.trans evalK_seqk ?_
      refine Eq.trans (evalK_primk (ev_ne_self _) no_cmp rfl rfl) ?_
      simp only [List.cons_append, List.nil_append]
      refine Eq.trans (evalK_ff rfl) ?_
      refine Eq.trans (evalK_primk (ev_or _ _) no_bin rfl rfl) ?_
      simp only [List.cons_append, List.nil_append]
      refine Eq.trans (evalK_primk (ev_ne_self _) no_cmp rfl rfl) ?_
      simp only [List.cons_append, List.nil_append]
      refine Eq.trans (evalK_ff rfl) ?_
      refine Eq.trans (evalK_primk (ev_len1 _) no_len rfl rfl) ?_
      simp only [List.cons_append, List.nil_append]
      refine Eq.trans (evalK_primk (ev_len1 _) no_len rfl rfl) ?_
      simp only [List.cons_append, List.nil_append]
      refine Eq.trans (evalK_primk (ev_ne_self _) no_cmp rfl rfl) ?_
      simp only [List.cons_append, List.nil_append]
      refine Eq.trans (evalK_ff rfl) ?_
      refine Eq.trans (evalK_primk (ev_len1 _) no_len rfl rfl) ?_
      simp only [List.cons_append, List.nil_append]
      refine Eq.trans (evalK_primk (ev_len1 _) no_len rfl rfl) ?_
      simp only [List.cons_append, List.nil_append]
      refine Eq.trans (evalK_primk (ev_ne_self _) no_cmp rfl rfl) ?_
      simp only [List.cons_append, List.nil_append]
      refine Eq.trans (evalK_jump0 rfl) ?_
      refine Eq.trans (evalK_ff rfl) ?_
      refine Eq.trans (evalK_primk (ev_len1 _) no_len rfl rfl) ?_
      simp only [List.cons_append, List.nil_append]
      refine Eq.trans evalK_seqk ?_
      refine Eq.trans (cmp_loop hl hn) ?_
      exact evalK_retk rfl

end


end YtjbacabjgdfmdaaGreatDoor.Gp
end Go.Proofs

/- The law of the vectors ahead of the balancing holds of the functions that the program's code is. -/
namespace Go.Proofs
open Go Gm
namespace YtjbacabjgdfmdaaGreatDoor.Gp

theorem back_some {pl pw x : List Int} {lo hi : Int} {left : Bool} (hp : ∀ z ∈ pl, i64 z) (hw : ∀ z ∈ pw, i64 z) (hpl : pl.length ≤ 1099511627776) (hpw : pw.length ≤ 1099511627776) (hlo : i64 lo) (hhi : i64 hi) (hx : ∀ z ∈ x, u64 z) (hxl : x.length ≤ 1099511627776) :
    ∃ r a e, (∀ k, F132 [.ints pl, .ints pw, .int lo, .int hi, .ints x, .bool left] k = k [.ints r, .int a, .int e]) ∧ (e = 0 → r.length = pl.length) := by
  have hA : AS.ok p132_0 [.ints pl, .ints pw, .int lo, .int hi, .ints x, .bool left] := by
    refine ⟨rfl, slots_cons (N_arg hp hpl) (slots_cons (N_arg hw hpw) (slots_cons (Z_arg hlo) (slots_cons (Z_arg hhi) (slots_cons (Yh_arg hx hxl) (slots_cons (B_arg _) slots_nil))))), fun a b c hm => (by cases hm)⟩
  obtain ⟨rs, h1, A, h2, h3⟩ := y132 (p132_0, q132_0) (List.mem_singleton.2 rfl) _ hA
  have hq : q132_0 = [q132_0[0]'(by decide), q132_0[1]'(by decide), q132_0[2]'(by decide)] := rfl
  rw [hq] at h2
  simp only [List.mem_cons, List.not_mem_nil, or_false] at h2
  have l9 : ∀ B, B ∈ q132_0 → B.sl.length = 9 := by
    intro B hB
    rw [hq] at hB
    simp only [List.mem_cons, List.not_mem_nil, or_false] at hB
    rcases hB with rfl | rfl | rfl <;> rfl
  have h4 : rs.length = 3 := by
    have e9 := l9 A (by rw [hq]; simpa using h2)
    have := h3.len
    rw [e9] at this
    simp at this; omega
  match rs, h4, h1, h3 with
  | [p, q, s], _, h1, h3 =>
    rcases h2 with rfl | rfl | rfl
    · obtain ⟨r, rfl⟩ := ints_any (h3.slot 6 _ p rfl rfl).t
      obtain ⟨a, rfl, _, _⟩ := slot_int (h3.slot 7 _ q rfl rfl)
      obtain rfl := slot_at (h3.slot 8 _ s rfl rfl)
      exact ⟨r, a, 4, fun k => law_k w132 h1 k, fun h => by cases h⟩
    · obtain ⟨r, rfl⟩ := ints_any (h3.slot 6 _ p rfl rfl).t
      obtain ⟨a, rfl, _, _⟩ := slot_int (h3.slot 7 _ q rfl rfl)
      obtain rfl := slot_at (h3.slot 8 _ s rfl rfl)
      exact ⟨r, a, 1, fun k => law_k w132 h1 k, fun h => by cases h⟩
    · obtain ⟨r, rfl, _⟩ := slot_list (h3.slot 6 _ p rfl rfl)
      obtain ⟨a, rfl, _, _⟩ := slot_int (h3.slot 7 _ q rfl rfl)
      obtain rfl := slot_at (h3.slot 8 _ s rfl rfl)
      refine ⟨r, a, 0, fun k => law_k w132 h1 k, fun _ => ?_⟩
      have f1 := (h3.fact 6 0 0 (by decide)).2.2
      have f2 := (h3.fact 0 6 0 (by decide)).2.2
      have e6 : ms (q132_0[2]'(by decide)).sl ([PV.ints pl, .ints pw, .int lo, .int hi, .ints x, .bool left] ++ [PV.ints r, .int a, .int 0]) 6 = (r.length : Int) := by
        show ((r.length / 1 : Nat) : Int) = _
        rw [Nat.div_one]
      have e0 : ms (q132_0[2]'(by decide)).sl ([PV.ints pl, .ints pw, .int lo, .int hi, .ints x, .bool left] ++ [PV.ints r, .int a, .int 0]) 0 = (pl.length : Int) := by
        show ((pl.length / 1 : Nat) : Int) = _
        rw [Nat.div_one]
      rw [e6, e0] at f1 f2
      omega

theorem pairs_f_bad {pl pw re im r1 r2 : List Int} {lo hi a1 e1 a2 e2 : Int} {left : Bool} (hB1 : ∀ k, F132 [.ints pl, .ints pw, .int lo, .int hi, .ints re, .bool left] k = k [.ints r1, .int a1, .int e1])
    (hB2 : ∀ k, F132 [.ints pl, .ints pw, .int lo, .int hi, .ints im, .bool left] k = k [.ints r2, .int a2, .int e2]) (hne : (e1 != 0 || e2 != 0) = true) (k : KF) :
    F133 [.int 0, .int 0, .ints pl, .ints pw, .int lo, .int hi, .int 0, .int 0, .int 0, .ints [], .ints [], .ints [], .ints re, .ints im, .bool left] k = k [.ints [], .ints [], .int 0, .int (mxI e1 e2)] := by
  show evalK Tb133 t133 [.int 0, .int 0, .ints pl, .ints pw, .int lo, .int hi, .int 0, .int 0, .int 0, .ints [], .ints [], .ints [], .ints re, .ints im, .bool left] k [] = _
  exact pairs_bad (tb := Tb133) (fB := F132) rfl hB1 hB2 hne k rfl

theorem pairs_f_good {pl pw re im r1 r2 : List Int} {lo hi a1 e1 a2 e2 : Int} {left : Bool} (hB1 : ∀ k, F132 [.ints pl, .ints pw, .int lo, .int hi, .ints re, .bool left] k = k [.ints r1, .int a1, .int e1])
    (hB2 : ∀ k, F132 [.ints pl, .ints pw, .int lo, .int hi, .ints im, .bool left] k = k [.ints r2, .int a2, .int e2]) (h1 : (e1 != 0) = false) (h2 : (e2 != 0) = false) (k : KF) :
    F133 [.int 0, .int 0, .ints pl, .ints pw, .int lo, .int hi, .int 0, .int 0, .int 0, .ints [], .ints [], .ints [], .ints re, .ints im, .bool left] k = k [.ints r1, .ints r2, .int (gor a1 a2), .int 0] := by
  show evalK Tb133 t133 [.int 0, .int 0, .ints pl, .ints pw, .int lo, .int hi, .int 0, .int 0, .int 0, .ints [], .ints [], .ints [], .ints re, .ints im, .bool left] k [] = _
  exact pairs_good (tb := Tb133) (fB := F132) rfl hB1 hB2 h1 h2 k rfl

theorem backs_law {n holes : Int} {all re im : List Int} {left : Bool} (hn : i64 n) (hh : u64 holes) (hall : ∀ x ∈ all, u64 x) (hre : ∀ x ∈ re, u64 x) (him : ∀ x ∈ im, u64 x) :
    F134 [.int n, .ints all, .int holes, .ints re, .ints im, .bool left] some = some [.bool true] := by
  have hA : AS.ok hp134 [.int n, .ints all, .int holes, .ints re, .ints im, .bool left] :=
    ⟨rfl, slots_cons (Z_arg hn) (slots_cons (Y_arg hall) (slots_cons (U_arg hh) (slots_cons (Y_arg hre) (slots_cons (Y_arg him) (slots_cons (B_arg _) slots_nil))))), fun a b c hm => (by cases hm)⟩
  show t134.fn Tb134 _ some = _
  rw [hf134]
  rcases hole_ok (tb := Tb134) l134 z134 ha134 u134 hA with ⟨rs, h1, A, h2, h3⟩ | ⟨η, h1, A, h2, h3⟩
  · rw [h1]
    rw [show hq134 = [hq134.head (by decide)] from rfl, List.mem_singleton] at h2
    subst h2
    have h4 : rs.length = 1 := by have := h3.len; have e : (hq134.head (by decide)).sl.length = 7 := rfl; rw [e] at this; simp at this; omega
    match rs, h4, h3 with
    | [p], _, h3 => rw [slot_tt (h3.slot 6 _ p rfl rfl)]
  · rw [h1]
    rw [show hs134 = [hs134.head (by decide)] from rfl, List.mem_singleton] at h2
    subst h2
    have h4 : η.length = 22 := by have := h3.len; have e : (hs134.head (by decide)).sl.length = 28 := rfl; rw [e] at this; simp at this; omega
    match η, h4, h3 with
    | [b0, b1, b2, b3, b4, b5, b6, b7, b8, b9, b10, b11, b12, b13, b14, b15, b16, b17, b18, b19, b20, b21], _, h3 =>
      obtain ⟨left', rfl, _, _⟩ := slot_bool (h3.slot 8 _ b2 rfl rfl)
      obtain ⟨re', rfl, k5, k5'⟩ := slot_listh (h3.slot 11 _ b5 rfl rfl)
      obtain ⟨im', rfl, k6, k6'⟩ := slot_listh (h3.slot 12 _ b6 rfl rfl)
      obtain ⟨pl, rfl, k16, k16'⟩ := slot_nums (h3.slot 22 _ b16 rfl rfl)
      obtain ⟨pw, rfl, k17, k17'⟩ := slot_nums (h3.slot 23 _ b17 rfl rfl)
      obtain ⟨lo, rfl, k18, k18'⟩ := slot_int (h3.slot 24 _ b18 rfl rfl)
      obtain ⟨hi, rfl, k19, k19'⟩ := slot_int (h3.slot 25 _ b19 rfl rfl)
      have jlo : i64 lo := ⟨by omega, by omega⟩
      have jhi : i64 hi := ⟨by omega, by omega⟩
      obtain ⟨r1, a1, e1, hB1, q1⟩ := back_some (left := left') k16 k17 (by omega) (by omega) jlo jhi k5 (by omega)
      obtain ⟨r2, a2, e2, hB2, q2⟩ := back_some (left := left') k16 k17 (by omega) (by omega) jlo jhi k6 (by omega)
      exact tail_true (tb := Tb134) (fB := F132) (fP := F133) rfl rfl hB1 hB2 (pairs_f_bad hB1 hB2) (pairs_f_good hB1 hB2) (fun z1 z2 => ⟨by rw [q1 z1, q2 z2], by rw [q1 z1]; omega⟩) rfl

end YtjbacabjgdfmdaaGreatDoor.Gp
end Go.Proofs

/- EigBacks: whatever the matrix and the vector, the law returns true, and the input reads as it did; the tables of trailing zeros and of what errors mean lie as the program's text lays them (the card ties that). -/
namespace Go.Proofs.YtjbacabjgdfmdaaGreatDoor
open Go.ChangeShapes Go.WideShapes Go.ChangeAt Go.RowKit Go.Joins Go.Deep

theorem own : ownKnob Tryz.prog.godebug = none := by kernel_rfl
theorem gMeans : Tryz.prog.globalNamed "gimbal/eig.means" = some 0 := by kernel_rfl
theorem gTab : Tryz.prog.globalNamed "math/bits.deBruijn32tab" = some 1 := by kernel_rfl
theorem tMeans : (Tryz.prog.globals[0]?).map (·.type) = some 206 := by kernel_rfl
theorem tTab : (Tryz.prog.globals[1]?).map (·.type) = some 257 := by kernel_rfl
theorem uMeans : Tryz.prog.underlying 206 = some (.array 10 3) := by kernel_rfl
theorem uTab : Tryz.prog.underlying 257 = some (.array 32 5) := by kernel_rfl
theorem u5 : Tryz.prog.underlying 5 = some (.int .u8) := by kernel_rfl
theorem c5 : Tryz.prog.cellsOf 5 = 1 := by kernel_rfl
theorem c3 : Tryz.prog.cellsOf 3 = 1 := by kernel_rfl

abbrev laid2 : List (String × DataW Unit) := [("math/bits.deBruijn32tab", Rows.laid_math_bits_deBruijn32tab), ("gimbal/eig.means", Rows.laid_gimbal_eig_means)]

/-- The door's own heap meets the condition: closed facts. -/
theorem door_met (os : Os) (args : Array Value) : laidMetH Tryz.prog laid2 ((World.doorLaid Tryz.prog 400 os).forCall (fun _ _ => 0) ⟨#[], args, []⟩).memory :=
  laidMetH_of_parts3 (fuel := 8) (laidMet_of_run' 8 (by kernel_rfl) (by kernel_rfl)) (by kernel_rfl) (by kernel_rfl)

/-- the tables, as the condition lays them -/
theorem gl_of {W : World} (h : laidMetH Tryz.prog laid2 W) : ∀ g ck l, Gp.gl0 g = some (ck, l) → ∃ arr t fr, W.heap[g]? = some (.cells arr t fr) ∧ ∀ (i : Nat) (x : Int), l[i]? = some x → arr[i]? = some (Gm.CK.val ck x) := by
  rw [MakeChecks.laidMetH_plain _ _ _ (by kernel_rfl)] at h
  obtain ⟨ps, ⟨g1, t1, cs1, f1, p1, q1, hg1, ht1, hv1, hd1, ⟨g0, t0, cs0, f0, p0, q0, hg0, ht0, hv0, hd0, _, _⟩, _⟩, _, _⟩ := h
  obtain rfl := Option.some.inj (gTab.symm.trans hg1)
  obtain rfl := Option.some.inj (gMeans.symm.trans hg0)
  obtain rfl := Option.some.inj (tTab.symm.trans ht1)
  obtain rfl := Option.some.inj (tMeans.symm.trans ht0)
  intro g ck l e
  match g, e with
  | 0, e =>
    cases e
    exact Gm.table_at (l := [1, 0, 0, 0, 2, 0, 3, 0, 4, 5]) gMeans uMeans Tryz.underlying3 c3 hv0 hd0
  | 1, e =>
    cases e
    exact Gm.table_at (l := [0, 1, 28, 2, 29, 14, 24, 3, 30, 22, 20, 15, 25, 17, 4, 8, 31, 27, 13, 23, 21, 19, 16, 7, 26, 12, 18, 6, 11, 5, 10, 9]) gTab uTab u5 c5 hv1 hd1

theorem recL : Tryz.prog.readableRec 22 = true := by kernel_rfl
theorem rowL : 22 < Tryz.prog.types.size := of_decide_eq_true (by kernel_rfl)
theorem laidOut : laidOutB Tryz.prog = true := by kernel_rfl
theorem cellsU : Tryz.prog.cellsOf 23 = 1 := by kernel_rfl
theorem one81 : oneCellFields Tryz.prog #[{ name := "Re", type := 22, offset := 0, embedded := false, tag := "", pkgPath := "", byteOffset := 0 }, { name := "Im", type := 22, offset := 1, embedded := false, tag := "", pkgPath := "", byteOffset := 24 }] = true := by kernel_rfl
theorem cells81 : Tryz.prog.cellsOf 81 = 2 := by kernel_rfl
theorem types81 : Tryz.prog.cellTypes Tryz.prog.depth 81 = some [22, 22] := by kernel_rfl

set_option maxRecDepth 100000 in
theorem law_any {W : World} {H : Type} {enc : TypeId × Value → H} {base : Nat} {n holes : Int} {left : Bool} {va vr vi : Value} {da dr di : DataW H} {pa pr pi : List MemPlace} (w0 : Gm.i64 n) (w2 : Gm.u64 holes)
    (hva : Value.okWide Tryz.prog W .any base 22 va) (hda : DataW.Trod enc Tryz.prog W 0 (fun _ => true) true 22 va da pa)
    (hvr : Value.okWide Tryz.prog W .any base 22 vr) (hdr : DataW.Trod enc Tryz.prog W 0 (fun _ => true) true 22 vr dr pr)
    (hvi : Value.okWide Tryz.prog W .any base 22 vi) (hdi : DataW.Trod enc Tryz.prog W 0 (fun _ => true) true 22 vi di pi) (hL : laidMetH Tryz.prog laid2 W) :
    Calls Tryz.prog 8 #[.int .i64 n, va, .int .u64 holes, .agg #[vr, vi], .bool left] W fun e w' => e = .returned (.bool true) ∧ Below W.heap.size W w' := by
  obtain ⟨l0, rb0, a1, ⟨ca, a2, a3, a4, a5⟩, a6, a7, a8, a9⟩ := Gm.u64_list Tryz.underlying22 Tryz.underlying23 cellsU hva hda
  obtain ⟨l1, rb1, b1, ⟨cb, b2, b3, b4, b5⟩, b6, b7, b8, b9⟩ := Gm.u64_list Tryz.underlying22 Tryz.underlying23 cellsU hvr hdr
  obtain ⟨l2, rb2, c1, ⟨cc, c2, c3, c4, c5⟩, c6, c7, c8, c9⟩ := Gm.u64_list Tryz.underlying22 Tryz.underlying23 cellsU hvi hdi
  refine Gm.law_calls_gl (ρ := fun b => if b = 0 then some rb0 else if b = 1 then some rb1 else if b = 2 then some rb2 else none) (ps := [.int n, .ints l0, .int holes, .ints l1, .ints l2, .bool left]) Gp.o134 Tryz.func8 (by kernel_rfl) (body := _) rfl rfl rfl ?_ ?_ ?_ ?_ rfl (Gp.backs_law w0 w2 a1 b1 c1) (gl_of hL)
  · intro b sb hb
    match b, hb with
    | 0, hb => cases hb; rfl
    | 1, hb => cases hb; rfl
    | 2, hb => cases hb; rfl
    | b + 3, hb => cases hb
  · refine ⟨⟨n, rfl, rfl⟩, ⟨rb0, ca, rfl, a2, a3, a4, a5⟩, ⟨holes, rfl, rfl⟩, ⟨_, rfl, ⟨rb1, cb, rfl, b2, b3, b4, b5⟩, ⟨rb2, cc, rfl, c2, c3, c4, c5⟩, trivial⟩, ⟨left, rfl, rfl⟩, trivial⟩
  · refine ⟨fun b sb hb => ?_, fun b b' sb sb' rb rb' hb hb' hne hrw => ?_⟩
    · match b, hb with
      | 0, hb => cases hb; exact ⟨rb0, rfl, l0, rfl, a6, a7, a8, a9⟩
      | 1, hb => cases hb; exact ⟨rb1, rfl, l1, rfl, b6, b7, b8, b9⟩
      | 2, hb => cases hb; exact ⟨rb2, rfl, l2, rfl, c6, c7, c8, c9⟩
      | b + 3, hb => cases hb
    · exfalso
      match b, hb with
      | 0, hb => cases hb; cases hrw
      | 1, hb => cases hb; cases hrw
      | 2, hb => cases hb; cases hrw
      | b + 3, hb => cases hb
  · intro b hb
    have hb2 : 3 ≤ b := hb
    have n0 : b ≠ 0 := by omega
    have n1 : b ≠ 1 := by omega
    have n2 : b ≠ 2 := by omega
    simp [n0, n1, n2]

set_option maxRecDepth 100000 in
theorem lifted (os : Os) (started : os.Started) (H : Type) (enc : TypeId × Value → H) :
    ReturnsInHanded {} Tryz.checked os 8 .any (fun w args => (Rows.eigBacksSpec.pre enc Tryz.prog Tryz.f8 [] false w args ∧ laidMetH Tryz.prog laid2 w) ∧ sizedMet enc Tryz.prog Tryz.f8 (OpenSpec.ofChange Rows.eigBacksSpec) false w args)
      (Rows.eigBacksSpec.post enc Tryz.prog Tryz.f8 false true false false) := by
  refine returnsInHanded_of_change_and (C := Tryz.checked) (X := fun w _ => laidMetH Tryz.prog laid2 w) (fun _ _ _ hh h => h.of_heap hh) own started (by kernel_rfl) Tryz.func8
    (ChangeSpec.witness_shaped (enc := enc) (C := Tryz.checked) (os := os) (X := fun w _ => laidMetH Tryz.prog laid2 w) false (World.doorLaid Tryz.prog 400 os) #[.int .i64 0, .slice none 0 0, .int .u64 0, .agg #[.slice none 0 0, .slice none 0 0], .bool false] 8 rfl (World.shaped_of_RefB (by kernel_rfl) (by kernel_rfl)) (by kernel_rfl) (by kernel_rfl) (by kernel_rfl) (door_met os _)) ?_
  intro W base args ds gs before hval0 hW _ _ hL _
  have hval : ∀ (j : Nat) t v, Tryz.f8.params[j]? = some t → args[j]? = some v → Value.okWide Tryz.prog W .any base t v := hval0
  have hW' := hW
  obtain ⟨p, q, hA0, hV, rfl, _, _⟩ := hW
  have hA : DataW.TrodAll enc Tryz.prog W 0 (fun _ => true) true Tryz.f8.params.toList args.toList ds p := hA0
  rw [Tryz.params8] at hA hval
  obtain ⟨v0, v1, v2, v3, v4, d0, d1, d2, d3, d4, p0, p1, p2, p3, p4, rfl, rfl, rfl, h0, h1, h2, h3, h4⟩ := Gm.trodAll_five hA
  obtain ⟨rfl, rfl⟩ := trodVars_none hV
  obtain ⟨n, rfl, rfl, rfl, k0⟩ := open_int Tryz.underlying3 (hval 0 3 v0 rfl rfl) h0
  obtain ⟨holes, rfl, rfl, rfl, k2⟩ := open_int Tryz.underlying23 (hval 2 23 v2 rfl rfl) h2
  obtain ⟨left, rfl, rfl, rfl⟩ := open_bool Tryz.underlying4 (hval 4 4 v4 rfl rfl) h4
  have hv3 := hval 3 81 v3 rfl rfl
  obtain ⟨x0, x1, y0, y1, m, rfl, rfl, rfl, t0, t1⟩ := open_agg2 Tryz.underlying81 one81 cells81 hv3 h3
  obtain ⟨o0, o1⟩ := Gm.okWide_two Tryz.underlying81 types81 hv3
  have O0 := Gm.okWide_of_slice Tryz.underlying22 o0
  have O1 := Gm.okWide_of_slice Tryz.underlying22 o1
  obtain ⟨e0, l0, c0, rfl⟩ := okWide_slice Tryz.underlying22 O0
  obtain ⟨e1, l1, c1, rfl⟩ := okWide_slice Tryz.underlying22 O1
  have T0 : DataW.Trod enc Tryz.prog W 0 (fun _ => true) true 22 (.slice e0 l0 c0) y0.1 y0.2 := ⟨m, by simpa [Value.cells] using t0⟩
  have T1 : DataW.Trod enc Tryz.prog W 0 (fun _ => true) true 22 (.slice e1 l1 c1) y1.1 y1.2 := ⟨m, by simpa [Value.cells] using t1⟩
  clear hA0 hval0
  simp only [List.append_nil] at hW'
  refine (law_any (Gm.i64_of k0) (Gm.u64_of k2) (hval 1 22 v1 rfl rfl) h1 O0 T0 O1 T1 hL).mono fun e W' ⟨he, hb⟩ => ?_
  subst he
  have q1 : ∀ x ∈ p1, x.block < W.heap.size := fun x hx => hW'.lt x (by simp [hx])
  have q2 : ∀ x ∈ y0.2, x.block < W.heap.size := fun x hx => hW'.lt x (by simp [hx])
  have q3 : ∀ x ∈ y1.2, x.block < W.heap.size := fun x hx => hW'.lt x (by simp [hx])
  have B0 := Below.trod laidOut recL rowL T0 hb q2
  have B1 := Below.trod laidOut recL rowL T1 hb q3
  have S : DataW.Trod enc Tryz.prog W' 0 (fun b => decide (b < W.heap.size)) true 81 (.agg #[.slice e0 l0 c0, .slice e1 l1 c1]) (.agg [y0.1, y1.1]) (y0.2 ++ y1.2) := by
    refine shut_agg2 Tryz.underlying81 one81 cells81 ?_ ?_
    · obtain ⟨f, hf⟩ := B0
      exact ⟨f, by simpa [Value.cells] using hf⟩
    · obtain ⟨f, hf⟩ := B1
      exact ⟨f, by simpa [Value.cells] using hf⟩
  exact ⟨_, rfl, Gm.post_law hW' hb rfl Tryz.underlying4 rfl (Gm.trodAll_mk5 (shut_int Tryz.underlying3 k0) (Below.trod laidOut recL rowL h1 hb q1) (shut_int Tryz.underlying23 k2) S (shut_bool Tryz.underlying4 left)) (pv := []) rfl⟩

end Go.Proofs.YtjbacabjgdfmdaaGreatDoor

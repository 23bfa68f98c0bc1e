/- SweepShifts: whatever the input, the law returns true, and the input reads as it did. No condition: it is the given statement itself. -/
import Derived.Test.YthkbmedkbacgmaaF2
import Derived.Test.YthkbmedkbacgmaaK8
import Derived.Test.YthkbmedkbacgmaaRows
namespace Go.Proofs
open Go Gm
namespace Ythkbmedkbacgmaa.Gp
set_option maxRecDepth 100000 in
theorem head_true : F72 [] some = some [.bool true] := by kernel_rfl
end Ythkbmedkbacgmaa.Gp
end Go.Proofs

/- The pair of shifts, over any reckoner: the two ways agree. -/
namespace Go.Proofs
open Go Gm
namespace Ythkbmedkbacgmaa.Gp

/-- a reckoner: sums, differences, products; what it remembers -/
structure Soft (fAdd fSub fMul fAbs : PF) where
  add : Int → Int → Int
  sub : Int → Int → Int
  mul : Int → Int → Int
  ab : Int → Int
  ga : Int → Int → Int → Int
  gs : Int → Int → Int → Int
  gm : Int → Int → Int → Int
  hAdd : ∀ (f : Int) {a b : Int}, u64 a → u64 b → ∀ k, fAdd [.int f, .int a, .int b] k = k [.int (add a b), .int (ga f a b)]
  hSub : ∀ (f : Int) {a b : Int}, u64 a → u64 b → ∀ k, fSub [.int f, .int a, .int b] k = k [.int (sub a b), .int (gs f a b)]
  hMul : ∀ (f : Int) {a b : Int}, u64 a → u64 b → ∀ k, fMul [.int f, .int a, .int b] k = k [.int (mul a b), .int (gm f a b)]
  hAbs : ∀ {a : Int}, u64 a → ∀ k, fAbs [.int a] k = k [.int (ab a)]
  uAdd : ∀ {a b : Int}, u64 a → u64 b → u64 (add a b)
  uSub : ∀ {a b : Int}, u64 a → u64 b → u64 (sub a b)
  uMul : ∀ {a b : Int}, u64 a → u64 b → u64 (mul a b)
  uAbs : ∀ {a : Int}, u64 a → u64 (ab a)

theorem c1U : u64 4604930618986332160 := ⟨by decide, by decide⟩
theorem c2U : u64 13824924956120580096 := ⟨by decide, by decide⟩

theorem ev_subW {W : Int → Int} (hW : ∀ n, IntKind.i64.wrap n = W n) (a b : Int) : ev (.bin .sub .i64) [.int a, .int b] = some [.int (W (a - b))] := by rw [← hW]; rfl

section
variable {fAt fAdd fSub fMul fAbs : PF} (S : Soft fAdd fSub fMul fAbs) {tb : List PF} {r c s hi : Int} {d : List Int} {V : Int → Int → Int} {W : Int → Int}

def uSum (V : Int → Int → Int) (W : Int → Int) (hi : Int) : Int := S.add (V (W (hi - 2)) (W (hi - 2))) (V (W (hi - 1)) (W (hi - 1)))
def uProd (V : Int → Int → Int) (W : Int → Int) (hi : Int) : Int := S.sub (S.mul (V (W (hi - 2)) (W (hi - 2))) (V (W (hi - 1)) (W (hi - 1)))) (S.mul (V (W (hi - 2)) (W (hi - 1))) (V (W (hi - 1)) (W (hi - 2))))
def oS (V : Int → Int → Int) (W : Int → Int) (hi : Int) : Int := S.add (S.ab (V (W (hi - 1)) (W (hi - 2)))) (S.ab (V (W (hi - 2)) (W (hi - 3))))
def oX (V : Int → Int → Int) (W : Int → Int) (hi : Int) : Int := S.add (S.mul 4604930618986332160 (oS S V W hi)) (V (W (hi - 1)) (W (hi - 1)))
def oSum (V : Int → Int → Int) (W : Int → Int) (hi : Int) : Int := S.add (oX S V W hi) (oX S V W hi)
def oProd (V : Int → Int → Int) (W : Int → Int) (hi : Int) : Int := S.sub (S.mul (oX S V W hi) (oX S V W hi)) (S.mul 13824924956120580096 (S.mul (oS S V W hi) (oS S V W hi)))

theorem usual_eq (hAt : ∀ i j k, fAt [.int r, .int c, .int s, .ints d, .int i, .int j] k = k [.int (V i j)]) (uAt : ∀ i j, u64 (V i j)) (hW : ∀ n, IntKind.i64.wrap n = W n)
    (h5 : tb[5]? = some fAt) (h43 : tb[43]? = some fAdd) (h41 : tb[41]? = some fMul) (h36 : tb[36]? = some fSub) (_h16 : tb[16]? = some fAbs) (k : KF) :
    evalK tb t74 [.int r, .int c, .int s, .ints d, .int hi] k [] = k [.int (uSum S V W hi), .int (uProd S V W hi)] := by
  unfold t74
  refine Eq.trans (evalK_primk (ev_subW hW _ _) no_bin rfl rfl) ?_
  simp only [List.cons_append, List.nil_append]
  refine Eq.trans (evalK_primk (ev_subW hW _ _) no_bin rfl rfl) ?_
  simp only [List.cons_append, List.nil_append]
  refine Eq.trans (evalK_callk h5 (hAt _ _) rfl rfl) ?_
  simp only [List.cons_append, List.nil_append]
  refine Eq.trans (evalK_primk (ev_subW hW _ _) no_bin rfl rfl) ?_
  simp only [List.cons_append, List.nil_append]
  refine Eq.trans (evalK_primk (ev_subW hW _ _) no_bin rfl rfl) ?_
  simp only [List.cons_append, List.nil_append]
  refine Eq.trans (evalK_callk h5 (hAt _ _) rfl rfl) ?_
  simp only [List.cons_append, List.nil_append]
  refine Eq.trans (evalK_primk (ev_subW hW _ _) no_bin rfl rfl) ?_
  simp only [List.cons_append, List.nil_append]
  refine Eq.trans (evalK_primk (ev_subW hW _ _) no_bin rfl rfl) ?_
  simp only [List.cons_append, List.nil_append]
  refine Eq.trans (evalK_callk h5 (hAt _ _) rfl rfl) ?_
  simp only [List.cons_append, List.nil_append]
  refine Eq.trans (evalK_primk (ev_subW hW _ _) no_bin rfl rfl) ?_
  simp only [List.cons_append, List.nil_append]
  refine Eq.trans (evalK_primk (ev_subW hW _ _) no_bin rfl rfl) ?_
  simp only [List.cons_append, List.nil_append]
  refine Eq.trans (evalK_callk h5 (hAt _ _) rfl rfl) ?_
  simp only [List.cons_append, List.nil_append]
  refine Eq.trans (evalK_callk h43 (S.hAdd _ (by repeat (first | exact uAt _ _ | exact c1U | exact c2U | exact hu | apply S.uAdd | apply S.uMul | apply S.uSub | apply S.uAbs)) (by repeat (first | exact uAt _ _ | exact c1U | exact c2U | exact hu | apply S.uAdd | apply S.uMul | apply S.uSub | apply S.uAbs))) rfl rfl) ?_
  simp only [List.cons_append, List.nil_append]
  refine Eq.trans (evalK_callk h41 (S.hMul _ (by repeat (first | exact uAt _ _ | exact c1U | exact c2U | exact hu | apply S.uAdd | apply S.uMul | apply S.uSub | apply S.uAbs)) (by repeat (first | exact uAt _ _ | exact c1U | exact c2U | exact hu | apply S.uAdd | apply S.uMul | apply S.uSub | apply S.uAbs))) rfl rfl) ?_
  simp only [List.cons_append, List.nil_append]
  refine Eq.trans (evalK_callk h41 (S.hMul _ (by repeat (first | exact uAt _ _ | exact c1U | exact c2U | exact hu | apply S.uAdd | apply S.uMul | apply S.uSub | apply S.uAbs)) (by repeat (first | exact uAt _ _ | exact c1U | exact c2U | exact hu | apply S.uAdd | apply S.uMul | apply S.uSub | apply S.uAbs))) rfl rfl) ?_
  simp only [List.cons_append, List.nil_append]
  refine Eq.trans (evalK_callk h36 (S.hSub _ (by repeat (first | exact uAt _ _ | exact c1U | exact c2U | exact hu | apply S.uAdd | apply S.uMul | apply S.uSub | apply S.uAbs)) (by repeat (first | exact uAt _ _ | exact c1U | exact c2U | exact hu | apply S.uAdd | apply S.uMul | apply S.uSub | apply S.uAbs))) rfl rfl) ?_
  simp only [List.cons_append, List.nil_append]
  exact evalK_retk rfl

theorem other_eq (hAt : ∀ i j k, fAt [.int r, .int c, .int s, .ints d, .int i, .int j] k = k [.int (V i j)]) (uAt : ∀ i j, u64 (V i j)) (hW : ∀ n, IntKind.i64.wrap n = W n)
    (h5 : tb[5]? = some fAt) (h43 : tb[43]? = some fAdd) (h41 : tb[41]? = some fMul) (h36 : tb[36]? = some fSub) (h16 : tb[16]? = some fAbs) (k : KF) :
    evalK tb t75 [.int r, .int c, .int s, .ints d, .int hi] k [] = k [.int (oSum S V W hi), .int (oProd S V W hi)] := by
  unfold t75
  refine Eq.trans (evalK_primk (ev_subW hW _ _) no_bin rfl rfl) ?_
  simp only [List.cons_append, List.nil_append]
  refine Eq.trans (evalK_primk (ev_subW hW _ _) no_bin rfl rfl) ?_
  simp only [List.cons_append, List.nil_append]
  refine Eq.trans (evalK_callk h5 (hAt _ _) rfl rfl) ?_
  simp only [List.cons_append, List.nil_append]
  refine Eq.trans (evalK_callk h16 (S.hAbs (by repeat (first | exact uAt _ _ | exact c1U | exact c2U | exact hu | apply S.uAdd | apply S.uMul | apply S.uSub | apply S.uAbs))) rfl rfl) ?_
  simp only [List.cons_append, List.nil_append]
  refine Eq.trans (evalK_primk (ev_subW hW _ _) no_bin rfl rfl) ?_
  simp only [List.cons_append, List.nil_append]
  refine Eq.trans (evalK_primk (ev_subW hW _ _) no_bin rfl rfl) ?_
  simp only [List.cons_append, List.nil_append]
  refine Eq.trans (evalK_callk h5 (hAt _ _) rfl rfl) ?_
  simp only [List.cons_append, List.nil_append]
  refine Eq.trans (evalK_callk h16 (S.hAbs (by repeat (first | exact uAt _ _ | exact c1U | exact c2U | exact hu | apply S.uAdd | apply S.uMul | apply S.uSub | apply S.uAbs))) rfl rfl) ?_
  simp only [List.cons_append, List.nil_append]
  refine Eq.trans (evalK_callk h43 (S.hAdd _ (by repeat (first | exact uAt _ _ | exact c1U | exact c2U | exact hu | apply S.uAdd | apply S.uMul | apply S.uSub | apply S.uAbs)) (by repeat (first | exact uAt _ _ | exact c1U | exact c2U | exact hu | apply S.uAdd | apply S.uMul | apply S.uSub | apply S.uAbs))) rfl rfl) ?_
  simp only [List.cons_append, List.nil_append]
  refine Eq.trans (evalK_callk h41 (S.hMul _ (by repeat (first | exact uAt _ _ | exact c1U | exact c2U | exact hu | apply S.uAdd | apply S.uMul | apply S.uSub | apply S.uAbs)) (by repeat (first | exact uAt _ _ | exact c1U | exact c2U | exact hu | apply S.uAdd | apply S.uMul | apply S.uSub | apply S.uAbs))) rfl rfl) ?_
  simp only [List.cons_append, List.nil_append]
  refine Eq.trans (evalK_primk (ev_subW hW _ _) no_bin rfl rfl) ?_
  simp only [List.cons_append, List.nil_append]
  refine Eq.trans (evalK_primk (ev_subW hW _ _) no_bin rfl rfl) ?_
  simp only [List.cons_append, List.nil_append]
  refine Eq.trans (evalK_callk h5 (hAt _ _) rfl rfl) ?_
  simp only [List.cons_append, List.nil_append]
  refine Eq.trans (evalK_callk h43 (S.hAdd _ (by repeat (first | exact uAt _ _ | exact c1U | exact c2U | exact hu | apply S.uAdd | apply S.uMul | apply S.uSub | apply S.uAbs)) (by repeat (first | exact uAt _ _ | exact c1U | exact c2U | exact hu | apply S.uAdd | apply S.uMul | apply S.uSub | apply S.uAbs))) rfl rfl) ?_
  simp only [List.cons_append, List.nil_append]
  refine Eq.trans (evalK_callk h43 (S.hAdd _ (by repeat (first | exact uAt _ _ | exact c1U | exact c2U | exact hu | apply S.uAdd | apply S.uMul | apply S.uSub | apply S.uAbs)) (by repeat (first | exact uAt _ _ | exact c1U | exact c2U | exact hu | apply S.uAdd | apply S.uMul | apply S.uSub | apply S.uAbs))) rfl rfl) ?_
  simp only [List.cons_append, List.nil_append]
  refine Eq.trans (evalK_callk h41 (S.hMul _ (by repeat (first | exact uAt _ _ | exact c1U | exact c2U | exact hu | apply S.uAdd | apply S.uMul | apply S.uSub | apply S.uAbs)) (by repeat (first | exact uAt _ _ | exact c1U | exact c2U | exact hu | apply S.uAdd | apply S.uMul | apply S.uSub | apply S.uAbs))) rfl rfl) ?_
  simp only [List.cons_append, List.nil_append]
  refine Eq.trans (evalK_callk h41 (S.hMul _ (by repeat (first | exact uAt _ _ | exact c1U | exact c2U | exact hu | apply S.uAdd | apply S.uMul | apply S.uSub | apply S.uAbs)) (by repeat (first | exact uAt _ _ | exact c1U | exact c2U | exact hu | apply S.uAdd | apply S.uMul | apply S.uSub | apply S.uAbs))) rfl rfl) ?_
  simp only [List.cons_append, List.nil_append]
  refine Eq.trans (evalK_callk h41 (S.hMul _ (by repeat (first | exact uAt _ _ | exact c1U | exact c2U | exact hu | apply S.uAdd | apply S.uMul | apply S.uSub | apply S.uAbs)) (by repeat (first | exact uAt _ _ | exact c1U | exact c2U | exact hu | apply S.uAdd | apply S.uMul | apply S.uSub | apply S.uAbs))) rfl rfl) ?_
  simp only [List.cons_append, List.nil_append]
  refine Eq.trans (evalK_callk h36 (S.hSub _ (by repeat (first | exact uAt _ _ | exact c1U | exact c2U | exact hu | apply S.uAdd | apply S.uMul | apply S.uSub | apply S.uAbs)) (by repeat (first | exact uAt _ _ | exact c1U | exact c2U | exact hu | apply S.uAdd | apply S.uMul | apply S.uSub | apply S.uAbs))) rfl rfl) ?_
  simp only [List.cons_append, List.nil_append]
  exact evalK_retk rfl

end
end Ythkbmedkbacgmaa.Gp
end Go.Proofs

/- The law of the shifts: true, whatever the input. -/
namespace Go.Proofs
open Go Gm
namespace Ythkbmedkbacgmaa.Gp
section
variable {fAt fAdd fSub fMul fAbs fHead fMade fUs fOt : PF} (S : Soft fAdd fSub fMul fAbs) {tb : List PF} {n hi : Int} {all : List Int} {V : Int → Int → Int} {W : Int → Int}

/-- behind the guards -/
theorem law_rest {r c s : Int} {d : List Int} (hAt : ∀ i j k, fAt [.int r, .int c, .int s, .ints d, .int i, .int j] k = k [.int (V i j)]) (uAt : ∀ i j, u64 (V i j)) (hW : ∀ n, IntKind.i64.wrap n = W n)
    (h5 : tb[5]? = some fAt) (h43 : tb[43]? = some fAdd) (h41 : tb[41]? = some fMul) (h36 : tb[36]? = some fSub) (h16 : tb[16]? = some fAbs)
    (h74 : tb[74]? = some fUs) (h75 : tb[75]? = some fOt)
    (hUs : ∀ k, fUs [.int r, .int c, .int s, .ints d, .int hi] k = k [.int (uSum S V W hi), .int (uProd S V W hi)])
    (hOt : ∀ k, fOt [.int r, .int c, .int s, .ints d, .int hi] k = k [.int (oSum S V W hi), .int (oProd S V W hi)]) {t : T}
    (ht : t = (.op (.call 74) [.v 3, .v 4, .v 5, .v 2, .v 0] 2 (.op (.bin .sub .i64) [.v 0, .i 2] 1 (.op (.bin .sub .i64) [.v 0, .i 2] 1 (.op (.call 5) [.v 3, .v 4, .v 5, .v 2, .v 8, .v 9] 1 (.op (.bin .sub .i64) [.v 0, .i 1] 1 (.op (.bin .sub .i64) [.v 0, .i 1] 1 (.op (.call 5) [.v 3, .v 4, .v 5, .v 2, .v 11, .v 12] 1 (.op (.call 41) [.i 0, .v 10, .v 13] 2 (.op (.bin .sub .i64) [.v 0, .i 2] 1 (.op (.bin .sub .i64) [.v 0, .i 1] 1 (.op (.call 5) [.v 3, .v 4, .v 5, .v 2, .v 16, .v 17] 1 (.op (.bin .sub .i64) [.v 0, .i 1] 1 (.op (.bin .sub .i64) [.v 0, .i 2] 1 (.op (.call 5) [.v 3, .v 4, .v 5, .v 2, .v 19, .v 20] 1 (.op (.call 41) [.v 15, .v 18, .v 21] 2 (.seq (.op (.call 43) [.v 23, .v 10, .v 13] 2 (.op (.cmp .neq) [.v 6, .v 24] 1 (.ite (.v 26) (.jump 0 [.v 0, .v 13, .b true, .v 2, .v 3, .v 4, .v 5, .v 25]) (.op (.call 36) [.v 25, .v 14, .v 22] 2 (.op (.cmp .neq) [.v 7, .v 27] 1 (.jump 0 [.v 0, .v 13, .v 29, .v 2, .v 3, .v 4, .v 5, .v 28])))))) (.ite (.v 2) (.ret [.b false]) (.op (.call 75) [.v 4, .v 5, .v 6, .v 3, .v 0] 2 (.op (.bin .sub .i64) [.v 0, .i 1] 1 (.op (.bin .sub .i64) [.v 0, .i 2] 1 (.op (.call 5) [.v 4, .v 5, .v 6, .v 3, .v 10, .v 11] 1 (.op (.call 16) [.v 12] 1 (.op (.bin .sub .i64) [.v 0, .i 2] 1 (.op (.bin .sub .i64) [.v 0, .i 3] 1 (.op (.call 5) [.v 4, .v 5, .v 6, .v 3, .v 14, .v 15] 1 (.op (.call 16) [.v 16] 1 (.op (.call 43) [.v 7, .v 13, .v 17] 2 (.op (.call 41) [.v 19, .i 4604930618986332160, .v 18] 2 (.op (.call 43) [.v 21, .v 20, .v 1] 2 (.seq (.op (.call 43) [.v 23, .v 22, .v 22] 2 (.op (.cmp .eql) [.v 8, .v 24] 1 (.ite (.v 26) (.op (.call 41) [.v 25, .v 22, .v 22] 2 (.op (.call 41) [.v 28, .v 18, .v 18] 2 (.op (.call 41) [.v 30, .i 13824924956120580096, .v 29] 2 (.op (.call 36) [.v 32, .v 27, .v 31] 2 (.op (.cmp .eql) [.v 9, .v 33] 1 (.jump 0 [.v 35])))))) (.jump 0 [.b false])))) (.ret [.v 0])))))))))))))))))))))))))))))))) :
    evalK tb t [.int hi, .bool false, .ints d, .int r, .int c, .int s] some [] = some [.bool true] := by
    subst ht
    refine Eq.trans (evalK_callk h74 hUs rfl rfl) ?_
    simp only [List.cons_append, List.nil_append]
    refine Eq.trans (evalK_primk (ev_subW hW _ _) no_bin rfl rfl) ?_
    simp only [List.cons_append, List.nil_append]
    refine Eq.trans (evalK_primk (ev_subW hW _ _) no_bin rfl rfl) ?_
    simp only [List.cons_append, List.nil_append]
    refine Eq.trans (evalK_callk h5 (hAt _ _) rfl rfl) ?_
    simp only [List.cons_append, List.nil_append]
    refine Eq.trans (evalK_primk (ev_subW hW _ _) no_bin rfl rfl) ?_
    simp only [List.cons_append, List.nil_append]
    refine Eq.trans (evalK_primk (ev_subW hW _ _) no_bin rfl rfl) ?_
    simp only [List.cons_append, List.nil_append]
    refine Eq.trans (evalK_callk h5 (hAt _ _) rfl rfl) ?_
    simp only [List.cons_append, List.nil_append]
    refine Eq.trans (evalK_callk h41 (S.hMul _ (by repeat (first | exact uAt _ _ | exact c1U | exact c2U | exact hu | apply S.uAdd | apply S.uMul | apply S.uSub | apply S.uAbs)) (by repeat (first | exact uAt _ _ | exact c1U | exact c2U | exact hu | apply S.uAdd | apply S.uMul | apply S.uSub | apply S.uAbs))) rfl rfl) ?_
    simp only [List.cons_append, List.nil_append]
    refine Eq.trans (evalK_primk (ev_subW hW _ _) no_bin rfl rfl) ?_
    simp only [List.cons_append, List.nil_append]
    refine Eq.trans (evalK_primk (ev_subW hW _ _) no_bin rfl rfl) ?_
    simp only [List.cons_append, List.nil_append]
    refine Eq.trans (evalK_callk h5 (hAt _ _) rfl rfl) ?_
    simp only [List.cons_append, List.nil_append]
    refine Eq.trans (evalK_primk (ev_subW hW _ _) no_bin rfl rfl) ?_
    simp only [List.cons_append, List.nil_append]
    refine Eq.trans (evalK_primk (ev_subW hW _ _) no_bin rfl rfl) ?_
    simp only [List.cons_append, List.nil_append]
    refine Eq.trans (evalK_callk h5 (hAt _ _) rfl rfl) ?_
    simp only [List.cons_append, List.nil_append]
    refine Eq.trans (evalK_callk h41 (S.hMul _ (by repeat (first | exact uAt _ _ | exact c1U | exact c2U | exact hu | apply S.uAdd | apply S.uMul | apply S.uSub | apply S.uAbs)) (by repeat (first | exact uAt _ _ | exact c1U | exact c2U | exact hu | apply S.uAdd | apply S.uMul | apply S.uSub | apply S.uAbs))) rfl rfl) ?_
    simp only [List.cons_append, List.nil_append]
    refine Eq.trans evalK_seqk ?_
    refine Eq.trans (evalK_callk h43 (S.hAdd _ (by repeat (first | exact uAt _ _ | exact c1U | exact c2U | exact hu | apply S.uAdd | apply S.uMul | apply S.uSub | apply S.uAbs)) (by repeat (first | exact uAt _ _ | exact c1U | exact c2U | exact hu | apply S.uAdd | apply S.uMul | apply S.uSub | apply S.uAbs))) rfl rfl) ?_
    simp only [List.cons_append, List.nil_append]
    refine Eq.trans (evalK_primk (ev_neq_self _) no_cmp rfl rfl) ?_
    simp only [List.cons_append, List.nil_append]
    refine Eq.trans (evalK_ff rfl) ?_
    refine Eq.trans (evalK_callk h36 (S.hSub _ (by repeat (first | exact uAt _ _ | exact c1U | exact c2U | exact hu | apply S.uAdd | apply S.uMul | apply S.uSub | apply S.uAbs)) (by repeat (first | exact uAt _ _ | exact c1U | exact c2U | exact hu | apply S.uAdd | apply S.uMul | apply S.uSub | apply S.uAbs))) rfl rfl) ?_
    simp only [List.cons_append, List.nil_append]
    refine Eq.trans (evalK_primk (ev_neq_self _) no_cmp rfl rfl) ?_
    simp only [List.cons_append, List.nil_append]
    refine Eq.trans (evalK_jump0 rfl) ?_
    refine Eq.trans (evalK_ff rfl) ?_
    refine Eq.trans (evalK_callk h75 hOt rfl rfl) ?_
    simp only [List.cons_append, List.nil_append]
    refine Eq.trans (evalK_primk (ev_subW hW _ _) no_bin rfl rfl) ?_
    simp only [List.cons_append, List.nil_append]
    refine Eq.trans (evalK_primk (ev_subW hW _ _) no_bin rfl rfl) ?_
    simp only [List.cons_append, List.nil_append]
    refine Eq.trans (evalK_callk h5 (hAt _ _) rfl rfl) ?_
    simp only [List.cons_append, List.nil_append]
    refine Eq.trans (evalK_callk h16 (S.hAbs (by repeat (first | exact uAt _ _ | exact c1U | exact c2U | exact hu | apply S.uAdd | apply S.uMul | apply S.uSub | apply S.uAbs))) rfl rfl) ?_
    simp only [List.cons_append, List.nil_append]
    refine Eq.trans (evalK_primk (ev_subW hW _ _) no_bin rfl rfl) ?_
    simp only [List.cons_append, List.nil_append]
    refine Eq.trans (evalK_primk (ev_subW hW _ _) no_bin rfl rfl) ?_
    simp only [List.cons_append, List.nil_append]
    refine Eq.trans (evalK_callk h5 (hAt _ _) rfl rfl) ?_
    simp only [List.cons_append, List.nil_append]
    refine Eq.trans (evalK_callk h16 (S.hAbs (by repeat (first | exact uAt _ _ | exact c1U | exact c2U | exact hu | apply S.uAdd | apply S.uMul | apply S.uSub | apply S.uAbs))) rfl rfl) ?_
    simp only [List.cons_append, List.nil_append]
    refine Eq.trans (evalK_callk h43 (S.hAdd _ (by repeat (first | exact uAt _ _ | exact c1U | exact c2U | exact hu | apply S.uAdd | apply S.uMul | apply S.uSub | apply S.uAbs)) (by repeat (first | exact uAt _ _ | exact c1U | exact c2U | exact hu | apply S.uAdd | apply S.uMul | apply S.uSub | apply S.uAbs))) rfl rfl) ?_
    simp only [List.cons_append, List.nil_append]
    refine Eq.trans (evalK_callk h41 (S.hMul _ (by repeat (first | exact uAt _ _ | exact c1U | exact c2U | exact hu | apply S.uAdd | apply S.uMul | apply S.uSub | apply S.uAbs)) (by repeat (first | exact uAt _ _ | exact c1U | exact c2U | exact hu | apply S.uAdd | apply S.uMul | apply S.uSub | apply S.uAbs))) rfl rfl) ?_
    simp only [List.cons_append, List.nil_append]
    refine Eq.trans (evalK_callk h43 (S.hAdd _ (by repeat (first | exact uAt _ _ | exact c1U | exact c2U | exact hu | apply S.uAdd | apply S.uMul | apply S.uSub | apply S.uAbs)) (by repeat (first | exact uAt _ _ | exact c1U | exact c2U | exact hu | apply S.uAdd | apply S.uMul | apply S.uSub | apply S.uAbs))) rfl rfl) ?_
    simp only [List.cons_append, List.nil_append]
    refine Eq.trans evalK_seqk ?_
    refine Eq.trans (evalK_callk h43 (S.hAdd _ (by repeat (first | exact uAt _ _ | exact c1U | exact c2U | exact hu | apply S.uAdd | apply S.uMul | apply S.uSub | apply S.uAbs)) (by repeat (first | exact uAt _ _ | exact c1U | exact c2U | exact hu | apply S.uAdd | apply S.uMul | apply S.uSub | apply S.uAbs))) rfl rfl) ?_
    simp only [List.cons_append, List.nil_append]
    refine Eq.trans (evalK_primk (ev_eql_self _) no_cmp rfl rfl) ?_
    simp only [List.cons_append, List.nil_append]
    refine Eq.trans (evalK_tt rfl) ?_
    refine Eq.trans (evalK_callk h41 (S.hMul _ (by repeat (first | exact uAt _ _ | exact c1U | exact c2U | exact hu | apply S.uAdd | apply S.uMul | apply S.uSub | apply S.uAbs)) (by repeat (first | exact uAt _ _ | exact c1U | exact c2U | exact hu | apply S.uAdd | apply S.uMul | apply S.uSub | apply S.uAbs))) rfl rfl) ?_
    simp only [List.cons_append, List.nil_append]
    refine Eq.trans (evalK_callk h41 (S.hMul _ (by repeat (first | exact uAt _ _ | exact c1U | exact c2U | exact hu | apply S.uAdd | apply S.uMul | apply S.uSub | apply S.uAbs)) (by repeat (first | exact uAt _ _ | exact c1U | exact c2U | exact hu | apply S.uAdd | apply S.uMul | apply S.uSub | apply S.uAbs))) rfl rfl) ?_
    simp only [List.cons_append, List.nil_append]
    refine Eq.trans (evalK_callk h41 (S.hMul _ (by repeat (first | exact uAt _ _ | exact c1U | exact c2U | exact hu | apply S.uAdd | apply S.uMul | apply S.uSub | apply S.uAbs)) (by repeat (first | exact uAt _ _ | exact c1U | exact c2U | exact hu | apply S.uAdd | apply S.uMul | apply S.uSub | apply S.uAbs))) rfl rfl) ?_
    simp only [List.cons_append, List.nil_append]
    refine Eq.trans (evalK_callk h36 (S.hSub _ (by repeat (first | exact uAt _ _ | exact c1U | exact c2U | exact hu | apply S.uAdd | apply S.uMul | apply S.uSub | apply S.uAbs)) (by repeat (first | exact uAt _ _ | exact c1U | exact c2U | exact hu | apply S.uAdd | apply S.uMul | apply S.uSub | apply S.uAbs))) rfl rfl) ?_
    simp only [List.cons_append, List.nil_append]
    refine Eq.trans (evalK_primk (ev_eql_self _) no_cmp rfl rfl) ?_
    simp only [List.cons_append, List.nil_append]
    refine Eq.trans (evalK_jump0 rfl) ?_
    exact evalK_retk rfl

theorem law_true (hHead : ∀ k, fHead [] k = k [.bool true])
    (hMade : (all.length : Int) ≤ 100 → ∃ (r c s : Int) (d : List Int) (V : Int → Int → Int), (∀ k, fMade [.int (gbits .and .i64 n 7), .ints all, .int 0, .int 0, .int (gbits .and .i64 n 7)] k = k [.int r, .int c, .int s, .ints d]) ∧
      (∀ i j k, fAt [.int r, .int c, .int s, .ints d, .int i, .int j] k = k [.int (V i j)]) ∧ (∀ i j, u64 (V i j)) ∧
      (∀ k, fUs [.int r, .int c, .int s, .ints d, .int hi] k = k [.int (uSum S V W hi), .int (uProd S V W hi)]) ∧
      (∀ k, fOt [.int r, .int c, .int s, .ints d, .int hi] k = k [.int (oSum S V W hi), .int (oProd S V W hi)])) (hW : ∀ n, IntKind.i64.wrap n = W n)
    (h5 : tb[5]? = some fAt) (h43 : tb[43]? = some fAdd) (h41 : tb[41]? = some fMul) (h36 : tb[36]? = some fSub) (h16 : tb[16]? = some fAbs)
    (h72 : tb[72]? = some fHead) (h73 : tb[73]? = some fMade) (h74 : tb[74]? = some fUs) (h75 : tb[75]? = some fOt) :
    evalK tb t76 [.int n, .ints all, .int hi] some [] = some [.bool true] := by
  unfold t76
  refine Eq.trans (evalK_callk h72 hHead rfl rfl) ?_
  simp only [List.cons_append, List.nil_append]
  refine Eq.trans (evalK_primk (rfl : ev .bnot [.bool true] = some [.bool false]) no_bnot rfl rfl) ?_
  simp only [List.cons_append, List.nil_append]
  refine Eq.trans (evalK_ff rfl) ?_
  refine Eq.trans (evalK_primk (rfl : ev (.len 1) [.ints all] = some [.int ((all.length / 1 : Nat) : Int)]) no_len rfl rfl) ?_
  simp only [List.cons_append, List.nil_append]
  refine Eq.trans (evalK_primk (rfl : ev (.cmp .gtr) [.int ((all.length / 1 : Nat) : Int), .int 100] = some [.bool (decide (((all.length / 1 : Nat) : Int) > 100))]) no_cmp rfl rfl) ?_
  simp only [List.cons_append, List.nil_append]
  refine Eq.trans (evalK_itek rfl) ?_
  cases hc : decide (((all.length / 1 : Nat) : Int) > 100) with
  | true =>
    simp only [cond_true]
    exact evalK_retk rfl
  | false =>
    simp only [cond_false]
    have hlen : (all.length : Int) ≤ 100 := by
      have := of_decide_eq_false hc
      rw [Nat.div_one] at this
      omega
    obtain ⟨r, c, s, d, V, hM, hAt, uAt, hUs, hOt⟩ := hMade hlen
    refine Eq.trans (evalK_primk (rfl : ev (.bin .and .i64) [.int n, .int 7] = some [.int (gbits .and .i64 n 7)]) no_bin rfl rfl) ?_
    simp only [List.cons_append, List.nil_append]
    refine Eq.trans (evalK_callk h73 hM rfl rfl) ?_
    simp only [List.cons_append, List.nil_append]
    refine Eq.trans evalK_seqk ?_
    refine Eq.trans (evalK_primk (rfl : ev (.cmp .gtr) [.int hi, .int 1099511627776] = some [.bool (decide (hi > 1099511627776))]) no_cmp rfl rfl) ?_
    simp only [List.cons_append, List.nil_append]
    refine Eq.trans (evalK_itek rfl) ?_
    cases decide (hi > 1099511627776) with
    | true =>
      simp only [cond_true]
      refine Eq.trans (evalK_jump0 rfl) ?_
      refine Eq.trans (evalK_tt rfl) ?_
      exact evalK_retk rfl
    | false =>
      simp only [cond_false]
      refine Eq.trans (evalK_primk (rfl : ev (.cmp .lss) [.int hi, .int (-1099511627776)] = some [.bool (decide (hi < -1099511627776))]) no_cmp rfl rfl) ?_
      simp only [List.cons_append, List.nil_append]
      refine Eq.trans (evalK_jump0 rfl) ?_
      cases decide (hi < -1099511627776) with
      | true =>
        refine Eq.trans (evalK_tt rfl) ?_
        exact evalK_retk rfl
      | false =>
        refine Eq.trans (evalK_ff rfl) ?_
        exact law_rest S hAt uAt hW h5 h43 h41 h36 h16 h74 h75 hUs hOt rfl
end
end Ythkbmedkbacgmaa.Gp
end Go.Proofs

/- The law of the shifts holds of the functions that the program's code is. -/
namespace Go.Proofs
open Go Gm
namespace Ythkbmedkbacgmaa.Gp

theorem sumAdd : SumOk F31 (binP, [binQ]) := y31 _ (List.mem_singleton.2 rfl)
theorem sumSub : SumOk F32 (binP, [binQ]) := y32 _ (List.mem_singleton.2 rfl)
theorem sumMul : SumOk F39 (binP, [binQ]) := y39 _ (List.mem_singleton.2 rfl)
theorem sumAbs : SumOk F16 (unP, q16_0) := y16 _ (List.mem_singleton.2 rfl)

def soft : Soft F43 F36 F41 F16 where
  add a b := val F31 [.int a, .int b] 0
  sub a b := val F32 [.int a, .int b] 0
  mul a b := val F39 [.int a, .int b] 0
  ab a := val F16 [.int a] 0
  ga f a b := gbits .or .u8 f (val F31 [.int a, .int b] 1)
  gs f a b := gbits .or .u8 f (val F32 [.int a, .int b] 1)
  gm f a b := gbits .or .u8 f (val F39 [.int a, .int b] 1)
  hAdd f _ _ ha hb k := calc_eq (i := 31) (j := 34) (tb := Tb43) (tb' := Tb34) rfl rfl sumAdd w31 f ha hb k
  hSub f _ _ ha hb k := calc_eq (i := 32) (j := 34) (tb := Tb36) (tb' := Tb34) rfl rfl sumSub w32 f ha hb k
  hMul f _ _ ha hb k := calc_eq (i := 39) (j := 34) (tb := Tb41) (tb' := Tb34) rfl rfl sumMul w39 f ha hb k
  hAbs ha k := law_k w16 (un_some (A := ⟨[J, U], [(1, 0, 0)]⟩) rfl sumAbs ha).1 k
  uAdd ha hb := (bin_some sumAdd ha hb).2
  uSub ha hb := (bin_some sumSub ha hb).2
  uMul ha hb := (bin_some sumMul ha hb).2
  uAbs ha := (un_some (A := ⟨[J, U], [(1, 0, 0)]⟩) rfl sumAbs ha).2

theorem eAt {r c s i j : Int} {d : List Int} (M : MatArgs r c s d) (k : KF) : F5 [.int r, .int c, .int s, .ints d, .int i, .int j] k = k [.int (atV r c s d i j)] :=
  at_eq (n := 1) (tb := Tb5) (tb' := Tb1) rfl M k

theorem and7 (n : Int) : 0 ≤ gbits .and .i64 n 7 ∧ gbits .and .i64 n 7 ≤ 7 := by
  have h1 : (BitVec.ofInt 64 n &&& BitVec.ofInt 64 7).toNat ≤ 7 := by
    rw [BitVec.toNat_and]
    exact Nat.le_trans Nat.and_le_right (by decide)
  have h2 : gbits .and .i64 n 7 = ((BitVec.ofInt 64 n &&& BitVec.ofInt 64 7).toNat : Int) := by
    show IntKind.i64.wrap ((BitVec.ofInt 64 n &&& BitVec.ofInt 64 7).toNat : Int) = _
    generalize (BitVec.ofInt 64 n &&& BitVec.ofInt 64 7).toNat = z at h1
    refine wrap_in (k := .i64) ?_ ?_
    · show (-9223372036854775808 : Int) ≤ _; omega
    · show _ ≤ (9223372036854775807 : Int); omega
  omega

theorem made_some {m : Int} {all : List Int} (hm : 0 ≤ m ∧ m ≤ 7) (hall : ∀ x ∈ all, u64 x) (hlen : (all.length : Int) ≤ 100) :
    ∃ r c s d, F73 [.int m, .ints all, .int 0, .int 0, .int m] some = some [.int r, .int c, .int s, .ints d] ∧ MatArgs r c s d := by
  have hA : AS.ok p73_0 [.int m, .ints all, .int 0, .int 0, .int m] := by
    refine ⟨rfl, ?_, fun a b c hm => (by cases hm)⟩
    refine slots_cons ⟨trivial, fun n e => (by cases e; exact hm.1), fun n e => (by cases e; exact hm.2), trivial⟩ (slots_cons ⟨⟨by decide, Nat.mod_one _, hall⟩, fun n e => ?_, fun n e => ?_, trivial⟩ (slots_cons (U_ok ⟨by decide, by decide⟩) (slots_cons ⟨trivial, fun n e => ?_, fun n e => ?_, trivial⟩ (slots_cons ⟨trivial, fun n e => ?_, fun n e => ?_, trivial⟩ slots_nil))))
    · cases e; exact Int.natCast_nonneg _
    · cases e; show ((all.length / 1 : Nat) : Int) ≤ 1099511627776; rw [Nat.div_one]; omega
    · cases e; show (-9223372036854775808 : Int) ≤ 0; decide
    · cases e; show (0 : Int) ≤ 9223372036854775807; decide
    · cases e; show (-9223372036854775808 : Int) ≤ m; omega
    · cases e; show m ≤ 9223372036854775807; omega
  obtain ⟨rs, h1, A, h2, h3⟩ := y73 (p73_0, q73_0) (List.mem_singleton.2 rfl) _ hA
  have h2' := List.mem_singleton.1 h2
  subst h2'
  have h4 : rs.length = 4 := by have := h3.len; simp at this; omega
  match rs, h4, h1, h3 with
  | [a, b, c, d], _, h1, h3 =>
    obtain ⟨r, rfl, r1, r2⟩ := slot_int (h3.slot 5 _ a rfl rfl)
    obtain ⟨c, rfl, c1, c2⟩ := slot_int (h3.slot 6 _ b rfl rfl)
    obtain ⟨s, rfl, s1, s2⟩ := slot_int (h3.slot 7 _ _ rfl rfl)
    obtain ⟨l, rfl, l1⟩ := slot_list (h3.slot 8 _ _ rfl rfl)
    exact ⟨r, c, s, l, h1, r2, c2, by omega, l1⟩

theorem sweep_law {n hi : Int} {all : List Int} (hall : ∀ x ∈ all, u64 x) : F76 [.int n, .ints all, .int hi] some = some [.bool true] := by
  show evalK Tb76 t76 [.int n, .ints all, .int hi] some [] = _
  refine law_true soft (tb := Tb76) (fAt := F5) (fHead := F72) (fMade := F73) (fUs := F74) (fOt := F75) (W := IntKind.i64.wrap) (law_k w72 head_true) (fun hlen => ?_) (fun _ => rfl) rfl rfl rfl rfl rfl rfl rfl rfl rfl
  obtain ⟨r, c, s, d, h1, M⟩ := made_some (and7 n) hall hlen
  exact ⟨r, c, s, d, fun i j => atV r c s d i j, law_k w73 h1, fun i j k => eAt M k, fun i j => atV_in M,
    fun k => usual_eq soft (tb := Tb74) (fun i j k => eAt M k) (fun i j => atV_in M) (fun _ => rfl) rfl rfl rfl rfl rfl k,
    fun k => other_eq soft (tb := Tb75) (fun i j k => eAt M k) (fun i j => atV_in M) (fun _ => rfl) rfl rfl rfl rfl rfl k⟩

end Ythkbmedkbacgmaa.Gp
end Go.Proofs

/- The row of the shifts. -/
namespace Go.Proofs.Ythkbmedkbacgmaa
open Go.ChangeShapes Go.WideShapes Go.ChangeAt Go.RowKit

theorem Try.own : ownKnob Try.prog.godebug = none := by kernel_rfl
theorem Try.laidOut : laidOutB Try.prog = true := by kernel_rfl
theorem Try.rec22 : Try.prog.readableRec 22 = true := by kernel_rfl
theorem Try.row22 : 22 < Try.prog.types.size := of_decide_eq_true (by kernel_rfl)
theorem Try.cells27 : Try.prog.cellsOf 27 = 1 := by kernel_rfl

set_option maxRecDepth 100000 in
theorem sweep_any {W : World} {H : Type} {enc : TypeId × Value → H} {base : Nat} {d : DataW H} {p : List MemPlace} (n hi : Int) {v : Value} (hval : Value.okWide Try.prog W .any base 22 v)
    (hd : DataW.Trod enc Try.prog W 0 (fun _ => true) true 22 v d p) :
    Calls Try.prog 3 #[.int .i64 n, v, .int .i64 hi] W fun e w' => e = .returned (.bool true) ∧ Below W.heap.size W w' := by
  obtain ⟨l, rb, h1, h2, h3, h4, h5, h6⟩ := Gm.u64_list Try.underlying22 Try.underlying27 Try.cells27 hval hd
  refine Gm.law_calls (ρ := fun b => if b = 0 then some rb else none) (ps := [.int n, .ints l, .int hi]) Gp.o76 Try.func3 (by kernel_rfl) (body := _) rfl rfl rfl ?_ ?_ ?_ ?_ rfl (Gp.sweep_law h1)
  · intro b sb hb
    cases b with
    | zero => cases hb; rfl
    | succ b => cases b <;> cases hb
  · refine ⟨⟨n, rfl, rfl⟩, ?_, ⟨hi, rfl, rfl⟩, trivial⟩
    obtain ⟨cap, c1, c2, c3, c4⟩ := h2
    exact ⟨rb, cap, rfl, c1, c2, c3, c4⟩
  · refine ⟨fun b sb hb => ?_, fun b b' sb sb' rb rb' hb hb' hne => ?_⟩
    · cases b with
      | zero =>
        cases hb
        exact ⟨rb, rfl, l, rfl, h3, h4, h5, h6⟩
      | succ b => cases b <;> cases hb
    · have z : ∀ {b : Nat} {sb : Gm.SB}, Gm.hpf Gp.e76.sg.heap b = some sb → b = 0 := by
        intro b sb hb
        cases b with
        | zero => rfl
        | succ b => cases b <;> cases hb
      exact absurd ((z hb).trans (z hb').symm) hne
  · intro b hb
    have : b ≠ 0 := by
      have : 1 ≤ b := hb
      omega
    simp [this]

set_option maxRecDepth 100000 in
theorem sweepShifts_lifted (os : Os) (started : os.Started) (H : Type) (enc : TypeId × Value → H) :
    ReturnsInHanded {} Try.checked os 3 .any (Rows.sweepShiftsSpec.pre6 enc Try.prog Try.f3 Rows.sweepShiftsRow.domain false) (Rows.sweepShiftsSpec.post enc Try.prog Try.f3 false true false false) := by
  refine returnsInHanded_of_change (C := Try.checked) Try.own started (by kernel_rfl) Try.func3
    (ChangeSpec.witness6 (enc := enc) (C := Try.checked) false ⟨#[], #[.int .i64 0, .slice none 0 0, .int .i64 0], []⟩ 8 (by kernel_rfl) (by kernel_rfl) (by kernel_rfl) (by kernel_rfl)) ?_
  intro W base args ds gs before hval0 hW _ _
  have hval : ∀ (j : Nat) t v, Try.f3.params[j]? = some t → args[j]? = some v → Value.okWide Try.prog W .any base t v := hval0
  have hW' := hW
  obtain ⟨p, q, hA0, hV, rfl, _, _⟩ := hW
  have hA : DataW.TrodAll enc Try.prog W 0 (fun _ => true) true Try.f3.params.toList args.toList ds p := hA0
  rw [Try.params3] at hA hval
  obtain ⟨v0, v1, v2, d0, d1, d2, p0, p1, p2, rfl, rfl, rfl, h0, h1, h2⟩ := trodAll_three hA
  obtain ⟨rfl, rfl⟩ := trodVars_none hV
  obtain ⟨n, rfl, rfl, rfl, wn⟩ := open_int Try.underlying3 (hval 0 3 v0 rfl rfl) h0
  obtain ⟨hi, rfl, rfl, rfl, wh⟩ := open_int Try.underlying3 (hval 2 3 v2 rfl rfl) h2
  clear hA0 hval0
  simp only [List.append_nil] at hW'
  refine (sweep_any n hi (hval 1 22 v1 rfl rfl) h1).mono fun e W' ⟨he, hb⟩ => ?_
  subst he
  have hlt : ∀ x ∈ p1, x.block < W.heap.size := fun x hx => hW'.lt x (by simp [hx])
  exact ⟨_, rfl, Gm.post_law hW' hb rfl Try.underlying4 rfl (trodAll_mk3 (shut_int Try.underlying3 wn) (Below.trod Try.laidOut Try.rec22 Try.row22 h1 hb hlt) (shut_int Try.underlying3 wh)) (pv := []) rfl⟩

theorem sweepShifts_holds : Rows.SweepShiftsSaid :=
  OpenClaim.holds_of_wide 3 Try.f3 rfl rfl rfl rfl rfl rfl rfl ⟨rfl, rfl, rfl, rfl, rfl⟩ rfl rfl rfl rfl rfl (by kernel_rfl) Try.func3 (by kernel_rfl)
    (of_decide_eq_true (by kernel_rfl)) (by unfold Func.isWrapper; first | (rw [if_pos (by decide +kernel)]; kernel_rfl) | (rw [if_neg (by decide +kernel)]; exact ⟨rfl, rfl⟩))
    (fun os started H enc _ => sweepShifts_lifted os started H enc)

end Go.Proofs.Ythkbmedkbacgmaa

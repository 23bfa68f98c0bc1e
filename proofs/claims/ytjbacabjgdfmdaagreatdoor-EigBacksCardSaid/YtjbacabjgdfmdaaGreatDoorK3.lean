/- Each operation does what its static side says (seventh part: places, parts of slices, sums and tests). -/
import Derived.Test.YtjbacabjgdfmdaaGreatDoorK2
import Derived.Laws.Tables
namespace Gm
open Go

section
variable {P : Program} {o : Oper} {a : Act} {w : World} {C : Ctx} {η : List PV} {ρ : Rho} {h : Hp} {s : SSt} {r : Res} {tb : List PF}

theorem InsOK.zero {ne : Nat} {p : Prim} {as : List Atom} {l : List Ins} (H : InsOK tb η ne (⟨p, as, 0⟩ :: l)) : ∃ vs, looks η as = some vs ∧ step tb p vs = some [] ∧ InsOK tb η ne l := by
  obtain ⟨vs, rs, h1, h2, h3, h4, h5⟩ := H
  cases rs with
  | nil => exact ⟨vs, h1, h2, h5⟩
  | cons x t => simp at h3

theorem adr_add (p : Nat × Nat) (n : Nat) : (adr p).add n = adr (p.1, p.2 + n) := add_at p.1 p.2 n

/-- an element's place -/
theorem run_indexAt {t e : TypeId} {g : TypeInfo} {k : IntKind} {i : Int} {ad : Addr} {n cap : Nat} {x y : Value} (hu : P.underlying t = some (.slice e)) (hg : inf P e = some g)
    (hx : x = .slice (some ad) n cap) (hy : y = .int k i) (h0 : 0 ≤ i) (h1 : i < n) : (Instr.indexAt t x y).run P w = .ok (.pointer (some (ad.add (i.toNat * g.size)))) w := by
  subst hx; subst hy
  simp [Instr.indexAt, asIntOf, under_ok hu, h0, h1, run_size hg]

theorem run_indexAt_arr {t e : TypeId} {len : Nat} {g : TypeInfo} {k : IntKind} {i : Int} {ad : Addr} {x y : Value} (hu : P.underlying t = some (.array len e)) (hg : inf P e = some g)
    (hx : x = .pointer (some ad)) (hy : y = .int k i) (h0 : 0 ≤ i) (h1 : i < len) : (Instr.indexAt t x y).run P w = .ok (.pointer (some (ad.add (i.toNat * g.size)))) w := by
  subst hx; subst hy
  simp [Instr.indexAt, asIntOf, under_ok hu, h0, h1, run_size hg, Instr.sureAddr]

theorem sIndexAddr_ok {gl : Nat → Option (CK × List Int)} {t : TypeId} {x i : Operand} (hs : sIndexAddr P gl s t x i = .ok r) (ho : o.op = .indexAddr t x i) (S : St C η ρ h s r w)
    (hx : TmOK η ρ s a x) (hi : TmOK η ρ s a i) (I : InsOK tb η s.ne r.ins) : OpSem P o a w (Post C η ρ h s r) := by
  replace hs := ebind hs
  obtain ⟨v, e1, hs⟩ := hs
  replace hs := ebind hs
  obtain ⟨j, e2, hs⟩ := hs
  have hv := opn_ok (η := η) (ρ := ρ) e1 hx
  have hj := opn_ok (η := η) (ρ := ρ) e2 hi
  split at hs
  · rename_i k at_
    obtain ⟨n, hn, hjv⟩ := hj
    split at hs
    · rename_i e hu
      split at hs
      · cases hs
      · rename_i g hg
        split at hs
        · rename_i b
          replace hs := ebind hs
          obtain ⟨⟨ck, wd, l, rw_⟩, e3, hs⟩ := hs
          have hc := listAt_ok e3
          simp only at hs
          split at hs
          · rename_i hcond
            obtain ⟨hwd, hw0⟩ := hcond
            cases hs
            have hb : h b = some (.list ck wd l rw_) := by rw [S.ag b (by simp)]; exact hc
            obtain ⟨rb, cap, hr, hn1, hn2, hvx, hnone⟩ := hv
            obtain ⟨rb', hr', bc⟩ := S.hr.bc b _ hb
            rw [hr] at hr'; cases hr'
            obtain ⟨ls, q1, q2, q3⟩ := bc.len
            obtain ⟨vs, i1, i2, _⟩ := InsOK.zero I
            obtain ⟨p1, p2, l1, l2, rfl⟩ := looks2 i1
            rw [q1] at l1; rw [hn] at l2
            cases l1; cases l2
            simp only [step, ev] at i2
            split at i2
            · rename_i hrange
              obtain ⟨h0, h1⟩ := hrange
              have hdiv : ls.length / wd = rb.n := by rw [q2]; exact Nat.mul_div_cancel _ (by omega)
              rw [hdiv] at h1
              cases hat : rb.at_ with
              | none => have := hnone hat; omega
              | some p =>
                rw [hat] at hvx
                refine OpSem.value (v := .pointer (some ((adr p).add (n.toNat * g.size)))) (w' := w) ?_ (Post.plain S rfl ⟨rb, p.1, p.2, n, hr, hat, hn, h0, ?_⟩ (Later.refl _))
                · have := run_indexAt (P := P) (w := w) hu hg hvx hjv h0 h1
                  simp [execOp, ho, this]
                · rw [adr_add, ← hwd]; rfl
            · cases i2
          · cases hs
        · rename_i b lo m
          replace hs := ebind hs
          obtain ⟨⟨ck, wd, l, rw_⟩, e3, hs⟩ := hs
          have hc := listAt_ok e3
          simp only at hs
          split at hs
          · rename_i hcond
            obtain ⟨hwd, hw0⟩ := hcond
            cases hs
            have hb : h b = some (.list ck wd l rw_) := by rw [S.ag b (by simp)]; exact hc
            obtain ⟨rb, lv, mv, ad, cap, hr, hlo, hm, hl0, hm0, hlm, hcap, hvx, hpos, _⟩ := hv
            obtain ⟨rb', hr', bc⟩ := S.hr.bc b _ hb
            rw [hr] at hr'; cases hr'
            obtain ⟨ls, q1, q2, q3⟩ := bc.len
            obtain ⟨vs, i1, i2, I2⟩ := InsOK.zero I
            obtain ⟨p1, p2, l1, l2, rfl⟩ := looks2 i1
            rw [hm] at l1; rw [hn] at l2
            cases l1; cases l2
            obtain ⟨vs', z, j1, j2, j3, _⟩ := InsOK.one I2
            obtain ⟨p3, p4, l3, l4, rfl⟩ := looks2 j1
            rw [hlo] at l3; rw [hn] at l4
            cases l3; cases l4
            simp [step, ev] at j2
            subst j2
            simp only [step, ev] at i2
            split at i2
            · rename_i hrange
              obtain ⟨h0, h1⟩ := hrange
              obtain ⟨blk, off, hat, hade⟩ := hpos (by omega)
              rw [hade] at hvx
              refine OpSem.value (v := .pointer (some ((adr (blk, off + lv.toNat * rb.wd)).add (n.toNat * g.size)))) (w' := w) ?_ (Post.plain S rfl ⟨rb, blk, off, lv + n, hr, hat, j3, by omega, ?_⟩ (Later.refl _))
              · have := run_indexAt (P := P) (w := w) hu hg hvx hjv h0 (by omega)
                simp [execOp, ho, this]
              · rw [adr_add, ← hwd, q3]
                have e1 : (lv + n).toNat = lv.toNat + n.toNat := by omega
                rw [e1, Nat.add_mul]
                show Value.pointer (some ⟨blk, off + lv.toNat * wd + n.toNat * wd, none⟩) = _
                congr 3
                omega
            · cases i2
          · cases hs
        · rename_i b m w'
          split at hs
          · rename_i z
            split at hs
            · rename_i hcond
              obtain ⟨h0, h1, hwd⟩ := hcond
              cases hs
              cases hn
              obtain ⟨rb, blk, cap, hr, hat, hcap, hvx⟩ := hv
              refine OpSem.value (v := .pointer (some ((⟨blk, 0, none⟩ : Addr).add (n.toNat * g.size)))) (w' := w) ?_ (Post.plain S rfl ⟨rb, blk, hr, hat, ?_⟩ (Later.refl _))
              · have := run_indexAt (P := P) (w := w) hu hg hvx hjv h0 h1
                simp [execOp, ho, this]
              · rw [add_at, hwd]; simp
            · cases hs
          · cases hs
        · cases hs
    · rename_i len e hu
      split at hs
      · cases hs
      · rename_i g hg
        split at hs
        · rename_i b off z
          split at hs
          · rename_i hcond
            obtain ⟨h0, h1⟩ := hcond
            cases hs
            cases hn
            obtain ⟨rb, blk, hr, hat, hvx⟩ := hv
            refine OpSem.value (v := .pointer (some ((⟨blk, off, none⟩ : Addr).add (n.toNat * g.size)))) (w' := w) ?_ (Post.plain S rfl ⟨rb, blk, hr, hat, ?_⟩ (Later.refl _))
            · have := run_indexAt_arr (P := P) (w := w) hu hg hvx hjv h0 h1
              simp [execOp, ho, this]
            · rw [add_at]
          · cases hs
        · rename_i _ q
          split at hs
          · rename_i hcond
            obtain ⟨h1, _⟩ := hcond
            cases hs
            obtain ⟨vs, i1, i2, _⟩ := InsOK.zero I
            obtain ⟨p1, p2, l1, l2, rfl⟩ := looks2 i1
            rw [hn] at l2
            cases l2
            cases l1
            simp only [step, ev] at i2
            split at i2
            · rename_i hrange
              obtain ⟨h0, h2⟩ := hrange
              refine OpSem.value (v := .pointer (some ((⟨q, 0, none⟩ : Addr).add (n.toNat * g.size)))) (w' := w) ?_ (Post.plain S rfl ⟨n, hn, h0, ?_⟩ (Later.refl _))
              · have := run_indexAt_arr (P := P) (w := w) hu hg hv hjv h0 h2
                simp [execOp, ho, this]
              · rw [add_at, h1]; simp
            · cases i2
          · cases hs
        · cases hs
    · cases hs
  · cases hs

theorem bound_ok {d : Atom} {x : Option Operand} {y : Atom} (hs : bound P s d x = .ok y) (hx : ∀ z, x = some z → TmOK η ρ s a z) :
    (x = none ∧ y = d) ∨ ∃ z k n, x = some z ∧ look η y = some (.int n) ∧ a.eval z = .int k n := by
  unfold bound at hs
  split at hs
  · cases hs; exact .inl ⟨rfl, rfl⟩
  · rename_i z
    replace hs := ebind hs
    obtain ⟨v, e1, hs⟩ := hs
    have hv := opn_ok (η := η) (ρ := ρ) e1 (hx z rfl)
    split at hs
    · cases hs
      obtain ⟨n, h1, h2⟩ := hv
      exact .inr ⟨z, _, n, rfl, h1, h2⟩
    · cases hs

theorem run_sliceBound {v : Value} {k : IntKind} {n : Int} {m : Nat} {c : BoundsCode} (hv : v = .int k n) (h0 : 0 ≤ n) (h1 : n ≤ m) : (Instr.sliceBound v m c).run P w = .ok n.toNat w := by
  subst hv
  simp [Instr.sliceBound, asIntOf, h0, h1]

/-- bounds of a slice of a slice, as far as they are within its length -/
theorem run_bounds {len cap : Nat} {lo hi mx : Option Value} {l h' m : Nat} (hle : l ≤ h') (hlen : h' ≤ m) (hm : m ≤ cap) (hc : len ≤ cap)
    (h1 : (lo = none ∧ l = 0) ∨ ∃ k n, lo = some (.int k n) ∧ 0 ≤ n ∧ l = n.toNat)
    (h2 : (hi = none ∧ mx = none ∧ h' = len) ∨ ∃ k n, hi = some (.int k n) ∧ 0 ≤ n ∧ h' = n.toNat)
    (h3 : (mx = none ∧ m = cap) ∨ ∃ k n, mx = some (.int k n) ∧ 0 ≤ n ∧ m = n.toNat) : (Instr.sliceBounds true len cap lo hi mx).run P w = .ok (l, h', m) w := by
  unfold Instr.sliceBounds
  rcases h3 with ⟨rfl, rfl⟩ | ⟨k3, n3, rfl, p3, rfl⟩
  · rcases h2 with ⟨rfl, _, rfl⟩ | ⟨k2, n2, rfl, p2, rfl⟩
    · rcases h1 with ⟨rfl, rfl⟩ | ⟨k1, n1, rfl, p1, rfl⟩
      · simp
      · simp [run_sliceBound (v := .int k1 n1) rfl p1 (show n1 ≤ (h' : Int) by omega)]
    · rcases h1 with ⟨rfl, rfl⟩ | ⟨k1, n1, rfl, p1, rfl⟩
      · simp [run_sliceBound (v := .int k2 n2) rfl p2 (show n2 ≤ (m : Int) by omega)]
      · simp [run_sliceBound (v := .int k2 n2) rfl p2 (show n2 ≤ (m : Int) by omega), run_sliceBound (v := .int k1 n1) rfl p1 (show n1 ≤ (n2.toNat : Int) by omega)]
  · rcases h2 with ⟨rfl, q, rfl⟩ | ⟨k2, n2, rfl, p2, rfl⟩
    · cases q
    · rcases h1 with ⟨rfl, rfl⟩ | ⟨k1, n1, rfl, p1, rfl⟩
      · simp [run_sliceBound (v := .int k3 n3) rfl p3 (show n3 ≤ (cap : Int) by omega), run_sliceBound (v := .int k2 n2) rfl p2 (show n2 ≤ (n3.toNat : Int) by omega)]
      · simp [run_sliceBound (v := .int k3 n3) rfl p3 (show n3 ≤ (cap : Int) by omega), run_sliceBound (v := .int k2 n2) rfl p2 (show n2 ≤ (n3.toNat : Int) by omega),
          run_sliceBound (v := .int k1 n1) rfl p1 (show n1 ≤ (n2.toNat : Int) by omega)]

theorem run_slice_slice {t e : TypeId} {g : TypeInfo} {ad : Option (Nat × Nat)} {len cap l h' m : Nat} {lo hi mx : Option Value} (hu : P.underlying t = some (.slice e)) (hg : inf P e = some g)
    (hb : (Instr.sliceBounds true len cap lo hi mx).run P w = .ok (l, h', m) w) :
    (Instr.sliceAt t (.slice (ad.map adr) len cap) lo hi mx).run P w = .ok (.slice ((if m = l then ad else ad.map (fun p => (p.1, p.2 + l * g.size))).map adr) (h' - l) (m - l)) w := by
  have hmap : ((ad.map adr).map (fun x => x.add (l * g.size))) = (ad.map (fun p => (p.1, p.2 + l * g.size))).map adr := by
    cases ad with
    | none => rfl
    | some p => simp [adr_add]
  simp only [Instr.sliceAt, Instr.slice, Sem.run_bind, under_ok hu, Result.andThen_ok, hb, run_size hg, Sem.run_pure]
  by_cases hm : m = l
  · simp [hm]
  · simp only [if_neg hm, hmap]

end
end Gm

/- Each operation does what its static side says (eighth part: parts of slices, sums and tests). -/
namespace Gm
open Go

section
variable {P : Program} {o : Oper} {a : Act} {w : World} {C : Ctx} {η : List PV} {ρ : Rho} {h : Hp} {s : SSt} {r : Res} {tb : List PF}

/-- the bounds as `run_bounds` wants them -/
theorem bound_lo {x : Option Operand} {y : Atom} (hs : bound P s (.i 0) x = .ok y) (hx : ∀ z, x = some z → TmOK η ρ s a z) {n : Int} (hl : look η y = some (.int n)) (h0 : 0 ≤ n) :
    (x.map a.eval = none ∧ n.toNat = 0) ∨ ∃ k m, x.map a.eval = some (.int k m) ∧ 0 ≤ m ∧ n.toNat = m.toNat := by
  rcases bound_ok hs hx with ⟨rfl, rfl⟩ | ⟨z, k, m, rfl, h1, h2⟩
  · cases hl; exact .inl ⟨rfl, rfl⟩
  · rw [h1] at hl; cases hl
    exact .inr ⟨k, n, by simp [h2], h0, rfl⟩

theorem bound_hi {d : Atom} {N : Int} {x : Option Operand} {y : Atom} (hs : bound P s d x = .ok y) (hx : ∀ z, x = some z → TmOK η ρ s a z) (hd : look η d = some (.int N)) {n : Int}
    (hl : look η y = some (.int n)) (h0 : 0 ≤ n) : (x.map a.eval = none ∧ n = N) ∨ ∃ k m, x.map a.eval = some (.int k m) ∧ 0 ≤ m ∧ n.toNat = m.toNat := by
  rcases bound_ok hs hx with ⟨rfl, rfl⟩ | ⟨z, k, m, rfl, h1, h2⟩
  · rw [hd] at hl; cases hl; exact .inl ⟨rfl, rfl⟩
  · rw [h1] at hl; cases hl
    exact .inr ⟨k, n, by simp [h2], h0, rfl⟩

theorem run_val {m : Sem Value} {u : Value} {w' : World} (h : m.run P w = .ok u w') : (do pure (Next.value (← m)) : Sem Next).run P w = .ok (.value u) w' := by
  rw [Sem.run_bind, h]; rfl

theorem ev_rng {x y z : PV} {q : PV} (h : ev .rng [x, y, z] = some [q]) : ∃ l m n, x = .int l ∧ y = .int m ∧ z = .int n ∧ 0 ≤ l ∧ l ≤ m ∧ m ≤ n ∧ q = .int (m - l) := by
  cases x <;> cases y <;> cases z <;> simp only [ev] at h <;> try (cases h)
  rename_i l m n
  split at h
  · rename_i hc
    cases h
    exact ⟨l, m, n, rfl, rfl, rfl, hc.1, hc.2.1, hc.2.2, rfl⟩
  · cases h

theorem sSlice_ok {t : TypeId} {x : Operand} {lo hi mx : Option Operand} (hs : sSlice P s t x lo hi mx = .ok r) (ho : o.op = .slice t x lo hi mx) (S : St C η ρ h s r w) (hx : TmOK η ρ s a x)
    (hlo : ∀ z, lo = some z → TmOK η ρ s a z) (hhi : ∀ z, hi = some z → TmOK η ρ s a z) (hmx : ∀ z, mx = some z → TmOK η ρ s a z) (I : InsOK tb η s.ne r.ins) : OpSem P o a w (Post C η ρ h s r) := by
  replace hs := ebind hs
  obtain ⟨v, e1, hs⟩ := hs
  have hv := opn_ok (η := η) (ρ := ρ) e1 hx
  split at hs
  · rename_i e hu
    split at hs
    · cases hs
    · rename_i g hg
      split at hs
      · rename_i b
        replace hs := ebind hs
        obtain ⟨⟨ck, wd, l, rw_⟩, e3, hs⟩ := hs
        have hc := listAt_ok e3
        simp only at hs
        split at hs
        · cases hs
        · rename_i hcond
          simp only [not_or, Decidable.not_not] at hcond
          obtain ⟨hwd, hw0⟩ := hcond
          replace hs := ebind hs
          obtain ⟨la, ea, hs⟩ := hs
          replace hs := ebind hs
          obtain ⟨ha, eh, hs⟩ := hs
          obtain ⟨rb, cap, hr, hn1, hn2, hvx, hnone⟩ := hv
          split at hs
          · cases hs
            have hb : h b = some (.list ck wd l rw_) := by rw [S.ag b (by simp)]; exact hc
            obtain ⟨rb', hr', bc⟩ := S.hr.bc b _ hb
            rw [hr] at hr'; cases hr'
            obtain ⟨ls, q1, q2, q3⟩ := bc.len
            obtain ⟨vs, z, i1, i2, i3, I⟩ := InsOK.one I
            obtain ⟨p1, l1, rfl⟩ := looks1 i1
            rw [q1] at l1; cases l1
            simp only [step, ev] at i2
            have hdiv : ls.length / wd = rb.n := by rw [q2]; exact Nat.mul_div_cancel _ (by omega)
            rw [hdiv] at i2
            cases i2
            obtain ⟨vs, z, j1, j2, j3, _⟩ := InsOK.one I
            obtain ⟨p1, p2, p3, l1, l2, l3, rfl⟩ := looks3 j1
            obtain ⟨lv, hv', nv, rfl, rfl, rfl, r0, r1, r2, rfl⟩ := ev_rng j2
            rw [i3] at l3; cases l3
            have B := run_bounds (P := P) (w := w) (len := rb.n) (cap := cap) (lo := lo.map a.eval) (hi := hi.map a.eval) (mx := (none : Option Value)) (l := lv.toNat) (h' := hv'.toNat) (m := cap) (by omega) (by omega) (Nat.le_refl _) (by omega)
              (bound_lo ea hlo l1 r0) ((bound_hi eh hhi i3 l2 (by omega)).imp (fun q => ⟨q.1, rfl, by omega⟩) id) (.inl ⟨rfl, rfl⟩)
            have R := run_slice_slice (P := P) (w := w) (ad := rb.at_) hu hg B
            rw [← hvx] at R
            refine OpSem.value (w' := w) (by simp only [execOp, ho, Option.map_none]; exact run_val R) (Post.plain S rfl ?_ (Later.refl _))
            refine ⟨rb, lv, hv' - lv, (if cap = lv.toNat then rb.at_ else rb.at_.map (fun p => (p.1, p.2 + lv.toNat * g.size))), cap - lv.toNat, hr, l1, j3, r0, by omega, by omega, by omega, ?_, fun hpos => ?_, fun q => ?_⟩
            · have : (hv' - lv).toNat = hv'.toNat - lv.toNat := by omega
              rw [this]
            · rw [if_neg (by omega)]
              cases hat : rb.at_ with
              | none => have := hnone hat; omega
              | some p => exact ⟨p.1, p.2, rfl, by simp [q3, hwd]⟩
            · have : rb.at_ = none := by
                split at q
                · exact q
                · simpa using q
              have := hnone this; omega
          · rename_i z
            replace hs := ebind hs
            obtain ⟨ma, em, hs⟩ := hs
            split at hs
            · cases hs
            · rename_i hhn
              cases hs
              have hb : h b = some (.list ck wd l rw_) := by rw [S.ag b (by simp)]; exact hc
              obtain ⟨rb', hr', bc⟩ := S.hr.bc b _ hb
              rw [hr] at hr'; cases hr'
              obtain ⟨ls, q1, q2, q3⟩ := bc.len
              obtain ⟨vs, z', i1, i2, i3, I⟩ := InsOK.one I
              obtain ⟨p1, l1, rfl⟩ := looks1 i1
              rw [q1] at l1; cases l1
              simp only [step, ev] at i2
              have hdiv : ls.length / wd = rb.n := by rw [q2]; exact Nat.mul_div_cancel _ (by omega)
              rw [hdiv] at i2
              cases i2
              obtain ⟨vs, z', j1, j2, j3, I⟩ := InsOK.one I
              obtain ⟨p1, p2, p3, l1, l2, l3, rfl⟩ := looks3 j1
              obtain ⟨lv, hv', nv, rfl, rfl, rfl, r0, r1, r2, rfl⟩ := ev_rng j2
              rw [i3] at l3; cases l3
              obtain ⟨vs, z', k1, k2, k3, _⟩ := InsOK.one I
              obtain ⟨p1, p2, p3, m1, m2, m3, rfl⟩ := looks3 k1
              obtain ⟨hv2, mv, nv, rfl, rfl, rfl, s0, s1, s2, rfl⟩ := ev_rng k2
              rw [i3] at m3; cases m3
              rw [l2] at m1; cases m1
              have B := run_bounds (P := P) (w := w) (len := rb.n) (cap := cap) (lo := lo.map a.eval) (hi := hi.map a.eval) (mx := some (a.eval z)) (l := lv.toNat) (h' := hv'.toNat) (m := mv.toNat) (by omega) (by omega) (by omega) (by omega)
                (bound_lo ea hlo l1 r0) (by
                  rcases bound_hi eh hhi i3 l2 (by omega) with ⟨q1, _⟩ | q
                  · cases hi with
                    | none => simp at hhn
                    | some _ => cases q1
                  · exact .inr q) (by
                  rcases bound_hi em hmx i3 m2 (by omega) with ⟨q1, _⟩ | q
                  · cases q1
                  · exact .inr q)
              have R := run_slice_slice (P := P) (w := w) (ad := rb.at_) hu hg B
              rw [← hvx] at R
              refine OpSem.value (w' := w) (by simp only [execOp, ho, Option.map_some]; exact run_val R) (Post.plain S rfl ?_ (Later.refl _))
              refine ⟨rb, lv, hv' - lv, (if mv.toNat = lv.toNat then rb.at_ else rb.at_.map (fun p => (p.1, p.2 + lv.toNat * g.size))), mv.toNat - lv.toNat, hr, l1, j3, r0, by omega, by omega, by omega, ?_, fun hpos => ?_, fun q => ?_⟩
              · have : (hv' - lv).toNat = hv'.toNat - lv.toNat := by omega
                rw [this]
              · rw [if_neg (by omega)]
                cases hat : rb.at_ with
                | none => have := hnone hat; omega
                | some p => exact ⟨p.1, p.2, rfl, by simp [q3, hwd]⟩
              · have : rb.at_ = none := by
                  split at q
                  · exact q
                  · simpa using q
                have := hnone this; omega
      · rename_i b lo0 n0
        replace hs := ebind hs
        obtain ⟨⟨ck, wd, l, rw_⟩, e3, hs⟩ := hs
        have hc := listAt_ok e3
        simp only at hs
        split at hs
        · cases hs
        · rename_i hcond
          simp only [not_or, Decidable.not_not] at hcond
          obtain ⟨hwd, hw0⟩ := hcond
          replace hs := ebind hs
          obtain ⟨la, ea, hs⟩ := hs
          replace hs := ebind hs
          obtain ⟨ha, eh, hs⟩ := hs
          obtain ⟨rb, l0, n0v, ad, cap, hr, hl0, hn0, hp0, hp1, hin, hcap, hvx, hpos0, hnon0⟩ := hv
          split at hs
          · cases hs
            have hb : h b = some (.list ck wd l rw_) := by rw [S.ag b (by simp)]; exact hc
            obtain ⟨rb', hr', bc⟩ := S.hr.bc b _ hb
            rw [hr] at hr'; cases hr'
            obtain ⟨ls, q1, q2, q3⟩ := bc.len
            obtain ⟨vs, z, j1, j2, j3, I⟩ := InsOK.one I
            obtain ⟨p1, p2, p3, l1, l2, l3, rfl⟩ := looks3 j1
            obtain ⟨lv, hv', nv, rfl, rfl, rfl, r0, r1, r2, rfl⟩ := ev_rng j2
            rw [hn0] at l3; cases l3
            obtain ⟨vs, z, k1, k2, k3, _⟩ := InsOK.one I
            obtain ⟨p1, p2, m1, m2, rfl⟩ := looks2 k1
            rw [hl0] at m1; rw [l1] at m2
            cases m1; cases m2
            simp [step, ev] at k2
            subst k2
            have B := run_bounds (P := P) (w := w) (len := n0v.toNat) (cap := cap) (lo := lo.map a.eval) (hi := hi.map a.eval) (mx := (none : Option Value)) (l := lv.toNat) (h' := hv'.toNat) (m := cap) (by omega) (by omega) (Nat.le_refl _) (by omega)
              (bound_lo ea hlo l1 r0) ((bound_hi eh hhi hn0 l2 (by omega)).imp (fun q => ⟨q.1, rfl, by omega⟩) id) (.inl ⟨rfl, rfl⟩)
            have R := run_slice_slice (P := P) (w := w) (ad := ad) hu hg B
            rw [← hvx] at R
            refine OpSem.value (w' := w) (by simp only [execOp, ho, Option.map_none]; exact run_val R) (Post.plain S rfl ?_ (Later.refl _))
            refine ⟨rb, l0 + lv, hv' - lv, (if cap = lv.toNat then ad else ad.map (fun p => (p.1, p.2 + lv.toNat * g.size))), cap - lv.toNat, hr, k3, j3, by omega, by omega, by omega, by omega, ?_, fun hpos => ?_, fun q => ?_⟩
            · have : (hv' - lv).toNat = hv'.toNat - lv.toNat := by omega
              rw [this]
            · rw [if_neg (by omega)]
              obtain ⟨blk, off, hat, hade⟩ := hpos0 (by omega)
              refine ⟨blk, off, hat, ?_⟩
              have : (l0 + lv).toNat = l0.toNat + lv.toNat := by omega
              rw [hade, this, Nat.add_mul, q3, ← hwd]
              simp [Nat.add_assoc]
            · have : ad = none := by
                split at q
                · exact q
                · simpa using q
              have := hnon0 this; omega
          · cases hs
      · cases hs
  · cases hs

end
end Gm

/- Each operation does what its static side says (ninth part: sums and tests). -/
namespace Gm
open Go

section
variable {P : Program} {o : Oper} {a : Act} {w : World} {C : Ctx} {η : List PV} {ρ : Rho} {h : Hp} {s : SSt} {r : Res} {tb : List PF}

theorem run_shift {op : BinOp} {t : TypeId} {k k' : IntKind} {x y z : Int} (hop : isShift op = true) (hb : binInt op k x y = some z) :
    (binOp op t (.int k x) (.int k' y)).run P w = .ok (.int k z) w := by
  cases op <;> simp [isShift] at hop
  · simp only [binInt] at hb
    split at hb
    · cases hb
    · rename_i hn
      cases hb
      simp [binOp, Op.shift, hn]
  · simp only [binInt] at hb
    split at hb
    · cases hb
    · rename_i hn
      cases hb
      simp [binOp, Op.shift, hn]

theorem run_arith {op : BinOp} {t : TypeId} {k : IntKind} {x y z : Int} (hop : isShift op = false) (hop2 : isCmp op = false) (hb : binInt op k x y = some z) :
    (binOp op t (.int k x) (.int k y)).run P w = .ok (.int k z) w := by
  cases op <;> simp [isShift, isCmp] at hop hop2 <;> simp only [binInt] at hb
  case add => cases hb; simp [binOp, Op.intArith]
  case sub => cases hb; simp [binOp, Op.intArith]
  case mul => cases hb; simp [binOp, Op.intArith]
  case quo =>
    split at hb
    · cases hb
    · rename_i hn; cases hb; simp [binOp, Op.intDiv, hn]
  case rem =>
    split at hb
    · cases hb
    · rename_i hn; cases hb; simp [binOp, Op.intDiv, hn]
  all_goals (cases hb; simp only [binOp, ne_eq, not_true, if_false, Op.intBits]; rfl)

theorem run_cmp {op : BinOp} {t : TypeId} {k : IntKind} {x y : Int} {z : Bool} (hop2 : isCmp op = true) (hb : cmpInt op x y = some z) :
    (binOp op t (.int k x) (.int k y)).run P w = .ok (.bool z) w := by
  cases op <;> simp [isCmp] at hop2 <;> simp only [cmpInt] at hb <;> cases hb <;> simp only [binOp, ne_eq, not_true, if_false, Op.intCmp] <;> rfl

theorem run_bin_val {op : BinOp} {t : TypeId} {x y : Operand} {u v z : Value} (ho : ∃ q, o.op = .binOp op t x y q) (hu : a.eval x = u) (hv : a.eval y = v) (hg : (eqGuard op t x y u v).run P w = .ok () w)
    (hz : (binOp op t u v).run P w = .ok z w) : (execOp a.eval o).run P w = .ok (.value z) w := by
  obtain ⟨q, ho⟩ := ho
  simp only [execOp, ho, hu, hv]
  exact run_val (by rw [Sem.run_bind, hg]; exact hz)

/-- fields that are numbers, compared -/
def allEq : List Int → List Int → Bool
  | x :: l, y :: m => x == y && allEq l m
  | _, _ => true

theorem run_part_int {t : TypeId} {k : IntKind} {cs : Array Value} {off : Nat} {v : Value} (hu : P.underlying t = some (.int k)) (hv : cs[off]? = some v) : (part t cs off).run P w = .ok v w := by
  have hi : (isAgg t).run P w = .ok false w := by
    simp only [isAgg, Sem.run_bind, under_ok hu, Result.andThen_ok]
    rfl
  simp only [part, Sem.run_bind, hi, Result.andThen_ok]
  simp [hv]

theorem run_eqIn_int {t : TypeId} {k k' : IntKind} {d : Nat} {x y : Int} (hu : P.underlying t = some (.int k)) : (Op.equalIn (d + 1) t (.int k' x) (.int k' y)).run P w = .ok (x == y) w := by
  unfold Op.equalIn
  simp only [Sem.run_bind, under_ok hu, Result.andThen_ok]
  simp

/-- fields, compared one by one -/
theorem run_eqLoop {xs ys : Array Value} : ∀ (fs : List Field) (ns ms : List Int) (ks : List IntKind) (i : Nat), ns.length = fs.length → ms.length = fs.length → ks.length = fs.length →
    (∀ (j : Nat) (f : Field), fs[j]? = some f → (f.name == "_") = false ∧ f.offset = i + j ∧ ∃ k, P.underlying f.type = some (.int k)) →
    (∀ (j : Nat) (n : Int) (k : IntKind), ns[j]? = some n → ks[j]? = some k → xs[i + j]? = some (.int k n)) → (∀ (j : Nat) (n : Int) (k : IntKind), ms[j]? = some n → ks[j]? = some k → ys[i + j]? = some (.int k n)) →
    (forIn fs ((none : Option Bool), ()) fun (f : Field) _ =>
            if f.name = "_" then pure (ForInStep.yield (none, ()))
            else do
              let __do_lift ← Go.part f.type xs f.offset
              let __do_lift_1 ← part f.type ys f.offset
              let __do_lift ← Op.equalIn 9999 f.type __do_lift __do_lift_1
              if __do_lift = false then pure (ForInStep.done (some false, ())) else pure (ForInStep.yield (none, ())) : Sem (Option Bool × Unit)).run P w = .ok (if allEq ns ms then none else some false, ()) w
  | [], ns, ms, ks, i, h1, h2, h3, _, _, _ => by
    cases ns with
    | nil => rfl
    | cons _ _ => simp at h1
  | f :: fs, [], ms, ks, i, h1, h2, h3, _, _, _ => by simp at h1
  | f :: fs, n :: ns, [], ks, i, h1, h2, h3, _, _, _ => by simp at h2
  | f :: fs, n :: ns, m :: ms, [], i, h1, h2, h3, _, _, _ => by simp at h3
  | f :: fs, n :: ns, m :: ms, k :: ks, i, h1, h2, h3, hf, hx, hy => by
    obtain ⟨f1, f2, k', f3⟩ := hf 0 f rfl
    have e1 := run_part_int (P := P) (w := w) f3 (hx 0 n k rfl rfl)
    have e2 := run_part_int (P := P) (w := w) f3 (hy 0 m k rfl rfl)
    have f1' : ¬ f.name = "_" := by simpa using f1
    rw [List.forIn_cons, if_neg f1', f2]
    simp only [Sem.run_bind, e1, e2, run_eqIn_int f3, Result.andThen_ok]
    by_cases hnm : n = m
    · subst hnm
      simp only [beq_self_eq_true, Bool.true_eq_false, if_false, Sem.run_pure, Result.andThen_ok]
      rw [run_eqLoop fs ns ms ks (i + 1) (by simpa using h1) (by simpa using h2) (by simpa using h3)
        (fun j g hg => by obtain ⟨g1, g2, g3⟩ := hf (j + 1) g (by simpa using hg); exact ⟨g1, by omega, g3⟩)
        (fun j z k hz hk => by have := hx (j + 1) z k (by simpa using hz) (by simpa using hk); rwa [show i + (j + 1) = i + 1 + j by omega] at this)
        (fun j z k hz hk => by have := hy (j + 1) z k (by simpa using hz) (by simpa using hk); rwa [show i + (j + 1) = i + 1 + j by omega] at this)]
      simp [allEq]
    · have : (n == m) = false := by simpa using hnm
      simp [this, allEq]

theorem eqChain_ok : ∀ {l m : List SC} {us vs : List Value} {ne : Nat} {acc z : Atom} {is rest : List Ins} {b : Bool}, eqChain ne acc l m = some (z, is) → VL η ρ l us → VL η ρ m vs →
    look η acc = some (.bool b) → InsOK tb η ne (is ++ rest) → ∃ (ns ms : List Int) (ks : List IntKind), ns.length = l.length ∧ ms.length = l.length ∧ ks.length = l.length ∧
      (∀ (j : Nat) (n : Int) (k : IntKind), ns[j]? = some n → ks[j]? = some k → us[j]? = some (.int k n)) ∧ (∀ (j : Nat) (n : Int) (k : IntKind), ms[j]? = some n → ks[j]? = some k → vs[j]? = some (.int k n)) ∧
      look η z = some (.bool (b && allEq ns ms)) ∧ InsOK tb η (ne + insN is) rest
  | [], [], us, vs, ne, acc, z, is, rest, b, e, hu, hv, ha, I => by
    simp only [eqChain] at e
    cases e
    exact ⟨[], [], [], rfl, rfl, rfl, by simp, by simp, by simpa [allEq] using ha, I⟩
  | .int k x :: l, .int k' y :: m, [], _, _, _, _, _, _, _, _, hu, _, _, _ => hu.elim
  | .int k x :: l, .int k' y :: m, u :: us, [], _, _, _, _, _, _, _, _, hv, _, _ => hv.elim
  | .int k x :: l, .int k' y :: m, u :: us, v :: vs, ne, acc, z, is, rest, b, e, hu, hv, ha, I => by
    simp only [eqChain] at e
    split at e
    · rename_i hk
      subst hk
      split at e
      · rename_i r0 is0 he
        cases e
        obtain ⟨⟨n1, hn1, rfl⟩, hu'⟩ := hu
        obtain ⟨⟨n2, hn2, rfl⟩, hv'⟩ := hv
        obtain ⟨p, q, i1, i2, i3, I⟩ := InsOK.one I
        obtain ⟨p1, p2, l1, l2, rfl⟩ := looks2 i1
        rw [hn1] at l1; rw [hn2] at l2; cases l1; cases l2
        simp [step, ev, cmpInt] at i2
        subst i2
        obtain ⟨p, q, j1, j2, j3, I⟩ := InsOK.one I
        obtain ⟨p1, p2, l1, l2, rfl⟩ := looks2 j1
        rw [ha] at l1; rw [i3] at l2; cases l1; cases l2
        simp [step, ev] at j2
        subst j2
        obtain ⟨ns, ms, ks, a1, a2, a3, a4, a5, a6, a7⟩ := eqChain_ok he hu' hv' j3 I
        refine ⟨n1 :: ns, n2 :: ms, k :: ks, by simp [a1], by simp [a2], by simp [a3], ?_, ?_, ?_, ?_⟩
        · intro j n k' h1 h2
          cases j with
          | zero => simp at h1 h2; subst h1; subst h2; rfl
          | succ j => simp at h1 h2 ⊢; exact a4 j n k' h1 h2
        · intro j n k' h1 h2
          cases j with
          | zero => simp at h1 h2; subst h1; subst h2; rfl
          | succ j => simp at h1 h2 ⊢; exact a5 j n k' h1 h2
        · rw [a6]; simp [allEq, Bool.and_assoc]
        · have : ne + insN (⟨.cmp .eql, [x, y], 1⟩ :: ⟨.band, [acc, .v ne], 1⟩ :: is0) = ne + 1 + 1 + insN is0 := by simp only [insN]; omega
          rw [this]; exact a7
      · cases e
    · cases e
  | [], _ :: _, _, _, _, _, _, _, _, _, e, _, _, _, _ => by simp [eqChain] at e
  | .int _ _ :: _, [], _, _, _, _, _, _, _, _, e, _, _, _, _ => by simp [eqChain] at e
  | .int _ _ :: _, .any :: _, _, _, _, _, _, _, _, _, e, _, _, _, _ => by simp [eqChain] at e
  | .int _ _ :: _, .bool _ :: _, _, _, _, _, _, _, _, _, e, _, _, _, _ => by simp [eqChain] at e
  | .int _ _ :: _, .str _ :: _, _, _, _, _, _, _, _, _, e, _, _, _, _ => by simp [eqChain] at e
  | .int _ _ :: _, .nilp :: _, _, _, _, _, _, _, _, _, e, _, _, _, _ => by simp [eqChain] at e
  | .int _ _ :: _, .ptr _ _ :: _, _, _, _, _, _, _, _, _, e, _, _, _, _ => by simp [eqChain] at e
  | .int _ _ :: _, .eptr _ _ _ _ :: _, _, _, _, _, _, _, _, _, e, _, _, _, _ => by simp [eqChain] at e
  | .int _ _ :: _, .nils :: _, _, _, _, _, _, _, _, _, e, _, _, _, _ => by simp [eqChain] at e
  | .int _ _ :: _, .slc _ :: _, _, _, _, _, _, _, _, _, e, _, _, _, _ => by simp [eqChain] at e
  | .int _ _ :: _, .sub _ _ _ :: _, _, _, _, _, _, _, _, _, e, _, _, _, _ => by simp [eqChain] at e
  | .int _ _ :: _, .csl _ _ _ :: _, _, _, _, _, _, _, _, _, e, _, _, _, _ => by simp [eqChain] at e
  | .int _ _ :: _, .fn _ _ _ :: _, _, _, _, _, _, _, _, _, e, _, _, _, _ => by simp [eqChain] at e
  | .int _ _ :: _, .gptr _ :: _, _, _, _, _, _, _, _, _, e, _, _, _, _ => by simp [eqChain] at e
  | .int _ _ :: _, .gel _ _ :: _, _, _, _, _, _, _, _, _, e, _, _, _, _ => by simp [eqChain] at e
  | .any :: _, _, _, _, _, _, _, _, _, _, e, _, _, _, _ => by simp [eqChain] at e
  | .bool _ :: _, _, _, _, _, _, _, _, _, _, e, _, _, _, _ => by simp [eqChain] at e
  | .str _ :: _, _, _, _, _, _, _, _, _, _, e, _, _, _, _ => by simp [eqChain] at e
  | .nilp :: _, _, _, _, _, _, _, _, _, _, e, _, _, _, _ => by simp [eqChain] at e
  | .ptr _ _ :: _, _, _, _, _, _, _, _, _, _, e, _, _, _, _ => by simp [eqChain] at e
  | .eptr _ _ _ _ :: _, _, _, _, _, _, _, _, _, _, e, _, _, _, _ => by simp [eqChain] at e
  | .nils :: _, _, _, _, _, _, _, _, _, _, e, _, _, _, _ => by simp [eqChain] at e
  | .slc _ :: _, _, _, _, _, _, _, _, _, _, e, _, _, _, _ => by simp [eqChain] at e
  | .sub _ _ _ :: _, _, _, _, _, _, _, _, _, _, e, _, _, _, _ => by simp [eqChain] at e
  | .csl _ _ _ :: _, _, _, _, _, _, _, _, _, _, e, _, _, _, _ => by simp [eqChain] at e
  | .fn _ _ _ :: _, _, _, _, _, _, _, _, _, _, e, _, _, _, _ => by simp [eqChain] at e
  | .gptr _ :: _, _, _, _, _, _, _, _, _, _, e, _, _, _, _ => by simp [eqChain] at e
  | .gel _ _ :: _, _, _, _, _, _, _, _, _, _, e, _, _, _, _ => by simp [eqChain] at e

/-- two structs of numbers, compared -/
theorem run_equal_struct {t : TypeId} {n : Nat} {us vs : Array Value} {ns ms : List Int} {ks : List IntKind} (hf : eqFields P t n = true) (h1 : ns.length = n) (h2 : ms.length = n) (h3 : ks.length = n)
    (hx : ∀ (j : Nat) (n : Int) (k : IntKind), ns[j]? = some n → ks[j]? = some k → us.toList[j]? = some (.int k n))
    (hy : ∀ (j : Nat) (n : Int) (k : IntKind), ms[j]? = some n → ks[j]? = some k → vs.toList[j]? = some (.int k n)) : (Op.equal t (.agg us) (.agg vs)).run P w = .ok (allEq ns ms) w := by
  unfold eqFields at hf
  split at hf
  · rename_i fs hu
    simp only [Bool.and_eq_true, beq_iff_eq, Bool.not_eq_true'] at hf
    obtain ⟨⟨hn, hst⟩, hall⟩ := hf
    have L := run_eqLoop (P := P) (w := w) (xs := us) (ys := vs) fs.toList ns ms ks 0 (by simp [h1, hn]) (by simp [h2, hn]) (by simp [h3, hn]) (fun j f hj => by
        have hm : (f, j) ∈ fs.toList.zipIdx := by
          rw [List.mem_iff_getElem?]
          exact ⟨j, by simp at hj; simp [List.getElem?_zipIdx, hj]⟩
        have := List.all_eq_true.1 hall _ hm
        simp only [Bool.and_eq_true, bne_iff_ne, ne_eq, beq_iff_eq, Bool.not_eq_true'] at this
        obtain ⟨⟨⟨c1, c2⟩, c3⟩, _⟩ := this
        refine ⟨by simpa using c1, by omega, ?_⟩
        split at c3
        · exact ⟨_, ‹_›⟩
        · cases c3) (fun j z k hz hk => by have := hx j z k hz hk; simpa using this) (fun j z k hz hk => by have := hy j z k hz hk; simpa using this)
    unfold Op.equal Op.maxDepth Op.equalIn
    simp only [Sem.run_bind, under_ok hu, Result.andThen_ok]
    simp [hst]
    rw [← Array.forIn_toList]
    rw [L]
    cases allEq ns ms <;> simp
  · cases hf

theorem run_equal_bool {t : TypeId} {x y : Bool} (hu : P.underlying t = some .bool) : (Op.equal t (.bool x) (.bool y)).run P w = .ok (x == y) w := by
  unfold Op.equal Op.maxDepth Op.equalIn
  simp only [Sem.run_bind, under_ok hu, Result.andThen_ok]
  simp

theorem run_equal_nn {t e : TypeId} (hu : P.underlying t = some (.pointer e)) : (Op.equal t (.pointer none) (.pointer none)).run P w = .ok true w := by
  unfold Op.equal Op.maxDepth Op.equalIn
  simp only [Sem.run_bind, under_ok hu, Result.andThen_ok]
  simp

theorem run_equal_pn {t e : TypeId} {x : Addr} (hu : P.underlying t = some (.pointer e)) : (Op.equal t (.pointer (some x)) (.pointer none)).run P w = .ok false w := by
  unfold Op.equal Op.maxDepth Op.equalIn
  simp only [Sem.run_bind, under_ok hu, Result.andThen_ok]
  simp

theorem run_eql {t : TypeId} {u v : Value} {z : Bool} (hu : (∃ b c, u = .bool b ∧ v = .bool c) ∨ (∃ p q, u = .pointer p ∧ v = .pointer q) ∨ (∃ p q, u = .agg p ∧ v = .agg q))
    (h : (Op.equal t u v).run P w = .ok z w) : (binOp .eql t u v).run P w = .ok (.bool z) w ∧ (binOp .neq t u v).run P w = .ok (.bool (!z)) w := by
  rcases hu with ⟨b, c, rfl, rfl⟩ | ⟨b, c, rfl, rfl⟩ | ⟨b, c, rfl, rfl⟩ <;> simp [binOp, h]

theorem run_guard_agg {op : BinOp} {t : TypeId} {x y : Operand} {xs ys : Array Value} (h : P.eqGuardType P.depth t = false) : (eqGuard op t x y (.agg xs) (.agg ys)).run P w = .ok () w := by
  cases op <;> simp [eqGuard, h]

theorem sBin_ok {op : BinOp} {t : TypeId} {x y : Operand} (hs : sBin P s op t x y = .ok r) (ho : ∃ q, o.op = .binOp op t x y q) (S : St C η ρ h s r w) (hx : TmOK η ρ s a x) (hy : TmOK η ρ s a y)
    (I : InsOK tb η s.ne r.ins) : OpSem P o a w (Post C η ρ h s r) := by
  replace hs := ebind hs
  obtain ⟨u, e1, hs⟩ := hs
  replace hs := ebind hs
  obtain ⟨v, e2, hs⟩ := hs
  have hu := opn_ok (η := η) (ρ := ρ) e1 hx
  have hv := opn_ok (η := η) (ρ := ρ) e2 hy
  split at hs
  · rename_i k p k' q
    obtain ⟨n, hn, hun⟩ := hu
    obtain ⟨m, hm, hvm⟩ := hv
    split at hs
    · rename_i hsh
      generalize hq : prim1 s.ne (.bin op k) _ = z at hs
      obtain ⟨zz, is⟩ := z
      cases hs
      obtain ⟨vs, z, i1, i2, i3, _⟩ := prim1_ok rfl hq I.nil_app
      obtain ⟨p1, p2, l1, l2, rfl⟩ := looks2 i1
      rw [hn] at l1; rw [hm] at l2; cases l1; cases l2
      simp only [ev] at i2
      split at i2
      · rename_i z' hz
        cases i2
        exact OpSem.value (run_bin_val ho hun hvm (by rw [eqGuard_at_int]; rfl) (run_shift hsh hz)) (Post.plain S rfl ⟨_, i3, rfl⟩ (Later.refl _))
      · cases i2
    · rename_i hsh
      split at hs
      · cases hs
      · rename_i hk
        simp only [ne_eq, Decidable.not_not] at hk
        subst hk
        split at hs
        · rename_i hcmp
          generalize hq : prim1 s.ne (.cmp op) _ = z at hs
          obtain ⟨zz, is⟩ := z
          cases hs
          obtain ⟨vs, z, i1, i2, i3, _⟩ := prim1_ok rfl hq I.nil_app
          obtain ⟨p1, p2, l1, l2, rfl⟩ := looks2 i1
          rw [hn] at l1; rw [hm] at l2; cases l1; cases l2
          simp only [ev] at i2
          split at i2
          · rename_i z' hz
            cases i2
            exact OpSem.value (run_bin_val ho hun hvm (by rw [eqGuard_at_int]; rfl) (run_cmp hcmp hz)) (Post.plain S rfl ⟨_, i3, rfl⟩ (Later.refl _))
          · cases i2
        · rename_i hcmp
          generalize hq : prim1 s.ne (.bin op k) _ = z at hs
          obtain ⟨zz, is⟩ := z
          cases hs
          obtain ⟨vs, z, i1, i2, i3, _⟩ := prim1_ok rfl hq I.nil_app
          obtain ⟨p1, p2, l1, l2, rfl⟩ := looks2 i1
          rw [hn] at l1; rw [hm] at l2; cases l1; cases l2
          simp only [ev] at i2
          split at i2
          · rename_i z' hz
            cases i2
            exact OpSem.value (run_bin_val ho hun hvm (by rw [eqGuard_at_int]; rfl) (run_arith (by simpa using hsh) (by simpa using hcmp) hz)) (Post.plain S rfl ⟨_, i3, rfl⟩ (Later.refl _))
          · cases i2
  · obtain ⟨n, hn, hun⟩ := hu
    obtain ⟨m, hm, hvm⟩ := hv
    split at hs
    · rename_i hd
      generalize hq : prim1 s.ne .beq _ = z at hs
      obtain ⟨zz, is⟩ := z
      cases hs
      obtain ⟨vs, z, i1, i2, i3, _⟩ := prim1_ok rfl hq I.nil_app
      obtain ⟨p1, p2, l1, l2, rfl⟩ := looks2 i1
      rw [hn] at l1; rw [hm] at l2; cases l1; cases l2
      simp only [ev] at i2
      cases i2
      exact OpSem.value (run_bin_val ho hun hvm (by rw [eqGuard_at_bool]; rfl) (run_eql (.inl ⟨_, _, rfl, rfl⟩) (run_equal_bool hd)).1) (Post.plain S rfl ⟨_, i3, rfl⟩ (Later.refl _))
    · rename_i hd
      generalize hq : prim1 s.ne .bne _ = z at hs
      obtain ⟨zz, is⟩ := z
      cases hs
      obtain ⟨vs, z, i1, i2, i3, _⟩ := prim1_ok rfl hq I.nil_app
      obtain ⟨p1, p2, l1, l2, rfl⟩ := looks2 i1
      rw [hn] at l1; rw [hm] at l2; cases l1; cases l2
      simp only [ev] at i2
      cases i2
      exact OpSem.value (run_bin_val ho hun hvm (by rw [eqGuard_at_bool]; rfl) (run_eql (.inl ⟨_, _, rfl, rfl⟩) (run_equal_bool hd)).2) (Post.plain S rfl ⟨_, i3, rfl⟩ (Later.refl _))
    · cases hs
  · split at hs
    · rename_i hd
      cases hs
      exact OpSem.value (run_bin_val ho hu hv (by rw [eqGuard_at_pointer]; rfl) (run_eql (.inr (.inl ⟨_, _, rfl, rfl⟩)) (run_equal_nn hd)).1) (Post.plain S rfl ⟨_, rfl, rfl⟩ (Later.refl _))
    · rename_i hd
      cases hs
      exact OpSem.value (run_bin_val ho hu hv (by rw [eqGuard_at_pointer]; rfl) (run_eql (.inr (.inl ⟨_, _, rfl, rfl⟩)) (run_equal_nn hd)).2) (Post.plain S rfl ⟨_, rfl, rfl⟩ (Later.refl _))
    · cases hs
  · obtain ⟨rb, blk, _, _, hu⟩ := hu
    split at hs
    · rename_i hd
      cases hs
      exact OpSem.value (run_bin_val ho hu hv (by rw [eqGuard_at_pointer]; rfl) (run_eql (.inr (.inl ⟨_, _, rfl, rfl⟩)) (run_equal_pn hd)).1) (Post.plain S rfl ⟨_, rfl, rfl⟩ (Later.refl _))
    · rename_i hd
      cases hs
      exact OpSem.value (run_bin_val ho hu hv (by rw [eqGuard_at_pointer]; rfl) (run_eql (.inr (.inl ⟨_, _, rfl, rfl⟩)) (run_equal_pn hd)).2) (Post.plain S rfl ⟨_, rfl, rfl⟩ (Later.refl _))
    · cases hs
  · obtain ⟨us, hus, hul⟩ := hu
    obtain ⟨vs, hvs, hvl⟩ := hv
    split at hs
    · rename_i hc
      simp only [Bool.and_eq_true, beq_iff_eq, Bool.not_eq_true'] at hc
      obtain ⟨⟨hf, hlen⟩, hg⟩ := hc
      split at hs
      · rename_i z is he
        split at hs
        · cases hs
          obtain ⟨ns, ms, ks, a1, a2, a3, a4, a5, a6, _⟩ := eqChain_ok he hul hvl (b := true) rfl I.nil_app
          have R := run_equal_struct (P := P) (w := w) hf a1 a2 a3 a4 a5
          exact OpSem.value (run_bin_val ho hus hvs (run_guard_agg hg) (run_eql (.inr (.inr ⟨_, _, rfl, rfl⟩)) R).1) (Post.plain S rfl ⟨_, a6, by simp⟩ (Later.refl _))
        · cases hs
          obtain ⟨ns, ms, ks, a1, a2, a3, a4, a5, a6, I⟩ := eqChain_ok he hul hvl (b := true) rfl I
          have R := run_equal_struct (P := P) (w := w) hf a1 a2 a3 a4 a5
          obtain ⟨vs, z, i1, i2, i3, _⟩ := InsOK.one I
          obtain ⟨p1, l1, rfl⟩ := looks1 i1
          rw [a6] at l1; cases l1
          simp [step, ev] at i2
          subst i2
          exact OpSem.value (run_bin_val ho hus hvs (run_guard_agg hg) (run_eql (.inr (.inr ⟨_, _, rfl, rfl⟩)) R).2) (Post.plain S rfl ⟨_, i3, rfl⟩ (Later.refl _))
        · cases hs
      · cases hs
    · cases hs
  · cases hs

end
end Gm

/- Each operation does what its static side says (tenth part: composites). -/
namespace Gm
open Go

section
variable {P : Program} {o : Oper} {a : Act} {w : World} {C : Ctx} {η : List PV} {ρ : Rho} {h : Hp} {s : SSt} {r : Res} {tb : List PF}

theorem lay_ok : ∀ (vs : List Value) (k off : Nat) (arr : Array Value), off + k + vs.length ≤ arr.size →
    ((vs.zipIdx k).foldl (fun cs (p : Value × Nat) => cs.setIfInBounds (off + p.2) p.1) arr).toList = arr.toList.take (off + k) ++ vs ++ arr.toList.drop (off + k + vs.length)
  | [], k, off, arr, _ => by simp
  | v :: vs, k, off, arr, h => by
    simp only [List.length_cons] at h
    rw [List.zipIdx_cons, List.foldl_cons, lay_ok vs (k + 1) off _ (by simp; omega)]
    simp only [Array.toList_setIfInBounds, List.length_cons]
    have h1 : (arr.toList.set (off + k) v).take (off + (k + 1)) = arr.toList.take (off + k) ++ [v] := by
      rw [show off + (k + 1) = off + k + 1 by omega, List.take_add_one, List.take_set]
      simp only [List.getElem?_set, if_true]
      rw [if_pos (by simp; omega), List.set_eq_of_length_le (by simp; omega)]
      simp
    rw [h1, List.drop_set_of_lt (by omega)]
    simp [Nat.add_assoc, Nat.add_comm 1]

/-- parts, read -/
def PartsOK (η : List PV) (ρ : Rho) : List (Nat × List SC) → List (Nat × Value) → Prop
  | [], [] => True
  | (i, c) :: l, (j, v) :: m => i = j ∧ VL η ρ c v.cells.toList ∧ PartsOK η ρ l m
  | _, _ => False

theorem PartsOK.up {η η' : List PV} {ρ ρ' : Rho} (hη : Pre η η') (hρ : Ext ρ ρ') : ∀ {l : List (Nat × List SC)} {m : List (Nat × Value)}, PartsOK η ρ l m → PartsOK η' ρ' l m
  | [], [], _ => trivial
  | (_, _) :: _, (_, _) :: _, h => ⟨h.1, h.2.1.up hη hρ, h.2.2.up hη hρ⟩
  | [], (_, _) :: _, h => h.elim
  | (_, _) :: _, [], h => h.elim

theorem fill_ok {place place' : Nat → Option (Nat × Nat)} (hp : ∀ i p, place i = some p → place' i = some p) : ∀ {ps : List (Nat × List SC)} {vals : List (Nat × Value)} {cs l : List SC} {arr : Array Value},
    fillS place cs ps = some l → VL η ρ cs arr.toList → PartsOK η ρ ps vals → ∃ arr', Instr.fill place' arr vals = some arr' ∧ VL η ρ l arr'.toList
  | [], [], cs, l, arr, e, hv, _ => by simp only [fillS] at e; cases e; exact ⟨arr, rfl, hv⟩
  | (i, c) :: ps, (j, v) :: vals, cs, l, arr, e, hv, ⟨hij, hc, hps⟩ => by
    subst hij
    simp only [fillS] at e
    split at e
    · cases e
    · rename_i off size hpl
      split at e
      · rename_i hcond
        obtain ⟨h1, h2⟩ := hcond
        have hcl := hc.len
        have hvl := hv.len
        simp only [Array.length_toList] at hcl hvl
        simp only [Instr.fill, hp i _ hpl]
        rw [if_neg (by simp; omega)]
        refine fill_ok hp e ?_ hps
        have L := lay_ok v.cells.toList 0 off arr (by simp; omega)
        simp only [Nat.add_zero, Array.length_toList] at L
        have : (v.cells.zipIdx.foldl (fun cs (p : Value × Nat) => cs.setIfInBounds (off + p.2) p.1) arr) = (v.cells.toList.zipIdx.foldl (fun cs (p : Value × Nat) => cs.setIfInBounds (off + p.2) p.1) arr) := by
          rw [← Array.foldl_toList]; simp
        show VL η ρ _ (v.cells.zipIdx.foldl (fun cs (p : Value × Nat) => cs.setIfInBounds (off + p.2) p.1) arr).toList
        rw [this, L, hcl]
        exact ((hv.take off).app hc).app (hv.drop _)
      · cases e
  | [], _ :: _, _, _, _, _, _, h => h.elim
  | (_, _) :: _, [], _, _, _, _, _, h => h.elim

theorem partsS_ok {tys : Nat → TypeId} : ∀ {ps : List (Nat × Operand)} {base : Nat} {qs : List (Nat × List SC)} {bs : List (Option SB)}, partsS P s tys ps base = .ok (qs, bs) →
    (∀ p ∈ ps, TmOK η ρ s a p.2) → (∀ b, base ≤ b → b < base + bs.length → ρ b = none) → Nils bs ∧ PartsOK η (nilsR ρ base bs) qs (ps.map fun p => (p.1, a.eval p.2))
  | [], base, qs, bs, e, _, _ => by simp only [partsS] at e; cases e; exact ⟨Nils.nil, trivial⟩
  | (i, x) :: ps, base, qs, bs, e, ht, hf => by
    simp only [partsS] at e
    replace e := ebind e
    obtain ⟨⟨v, b1⟩, e1, e⟩ := e
    simp only at e
    split at e
    · rename_i c hc
      replace e := ebind e
      obtain ⟨⟨r, b2⟩, e2, e⟩ := e
      cases e
      have hlen : (List.replicate base (none : Option SB)).length = base := by simp
      have h1 := opnd_ok (η := η) (ρ := ρ) (s := { s with hp := List.replicate base none }) (a := a) e1 (ht (i, x) (by simp)) (by
        intro b hb hl
        simp only [hlen] at hb hl
        exact hf b hb (by simp; omega))
      simp only [hlen] at h1
      obtain ⟨n1, v1⟩ := h1
      obtain ⟨n2, v2⟩ := partsS_ok e2 (fun p hp => ht p (by simp [hp])) (fun b hb hl => hf b (by omega) (by simp at hl ⊢; omega))
      refine ⟨n1.app n2, rfl, ?_, ?_⟩
      · exact VV.cells_ok (v1.up (Pre.refl _) (nilsR_left hf)) hc
      · exact v2.up (Pre.refl _) (nilsR_right hf)
    · cases e

/-- a step that brings empty lists alone, in two goes -/
theorem nilsR_app {base : Nat} {b1 b2 : List (Option SB)} (hf : ∀ b, base ≤ b → b < base + (b1 ++ b2).length → ρ b = none) :
    Ext (nilsR ρ base b1) (nilsR ρ base (b1 ++ b2)) ∧ Ext (nilsR ρ (base + b1.length) b2) (nilsR ρ base (b1 ++ b2)) := ⟨nilsR_left hf, nilsR_right hf⟩

theorem places_ok {fs : Array Field} (hall : fs.toList.all (fun f => (inf P f.type).isSome) = true) : ∃ places : List (Nat × Nat), fs.toList.mapM (fun f => (P.info? f.type).map fun i => (f.offset, i.size)) = some places ∧
    ∀ (i : Nat) (p : Nat × Nat), (match (fs[i]? : Option Field) with | some f => (match inf P f.type with | some g => some (f.offset, g.size) | none => none) | none => none) = some p → places.toArray[i]? = some p := by
  have key : ∀ (l : List Field), l.all (fun f => (inf P f.type).isSome) = true → ∃ places : List (Nat × Nat), l.mapM (fun f => (P.info? f.type).map fun i => (f.offset, i.size)) = some places ∧
      ∀ (i : Nat) p, (match (l[i]? : Option Field) with | some f => (match inf P f.type with | some g => some (f.offset, g.size) | none => none) | none => none) = some p → places[i]? = some p := by
    intro l
    induction l with
    | nil => intro _; exact ⟨[], rfl, by simp⟩
    | cons f l ih =>
      intro hl
      simp only [List.all_cons, Bool.and_eq_true] at hl
      obtain ⟨q, h1, h2⟩ := ih hl.2
      obtain ⟨g, hg⟩ := Option.isSome_iff_exists.1 hl.1
      refine ⟨(f.offset, g.size) :: q, by simp [List.mapM_cons, (inf_ok hg).1, h1], ?_⟩
      intro i p hp
      cases i with
      | zero => simp [hg] at hp; simp [hp]
      | succ i => simp at hp ⊢; exact h2 i p (by simpa using hp)
  obtain ⟨q, h1, h2⟩ := key fs.toList hall
  exact ⟨q, h1, fun i p hp => by
    have := h2 i p (by simpa using hp)
    simpa using this⟩

theorem sBuild_ok {t : TypeId} {parts : Array (Nat × Operand)} (hs : sBuild P s t parts = .ok r) (ho : o.op = .build t parts) (S : St C η ρ h s r w) (ht : ∀ p ∈ parts, TmOK η ρ s a p.2) :
    OpSem P o a w (Post C η ρ h s r) := by
  replace hs := ebind hs
  obtain ⟨z, e1, hs⟩ := hs
  obtain ⟨i, hi, hz⟩ := zeroOf_ok e1
  generalize h1 : constCs P (cellTys P 8 t) z.cells.toList s.hp.length = x at hs
  obtain ⟨zs, bs⟩ := x
  simp only at hs
  have hvals : (parts.map fun (p : Nat × Operand) => (p.1, a.eval p.2)).toList = parts.toList.map fun p => (p.1, a.eval p.2) := by simp
  have fin : ∀ (cells : Array Value) (l : List SC) (bs' : List (Option SB)), r = ⟨.agg l, s.hp ++ bs ++ bs', [], []⟩ → P.built t (parts.toList.map fun p => (p.1, a.eval p.2)) = some cells →
      VL η (nilsR ρ s.hp.length (bs ++ bs')) l cells.toList → Nils (bs ++ bs') → OpSem P o a w (Post C η ρ h s r) := by
    intro cells l bs' hr hb hl hn
    subst hr
    refine OpSem.value (v := .agg cells) (w' := w) ?_ (Post.nils S (by simp) hn ⟨cells, rfl, hl⟩)
    simp only [execOp, ho]
    exact run_val (run_build w t _ cells (by rw [hvals]; exact hb))
  split at hs
  · rename_i fs hu
    replace hs := ebind hs
    obtain ⟨⟨ps, bs'⟩, e2, hs⟩ := hs
    simp only at hs
    split at hs
    · rename_i l hfill
      split at hs
      · rename_i hall
        cases hs
        have hf : ∀ b, s.hp.length ≤ b → b < s.hp.length + (bs ++ bs').length → ρ b = none := fun b h1 h2 => (S.fresh b h1 (by simp at h2 ⊢; omega)).1
        obtain ⟨n1, v1⟩ := constCs_ok P (η := η) (ρ := ρ) h1 (fun b h1 h2 => hf b h1 (by simp; omega))
        obtain ⟨n2, v2⟩ := partsS_ok (η := η) (ρ := ρ) (a := a) e2 (fun p hp => ht p (by simpa using hp)) (fun b h1 h2 => hf b (by omega) (by simp; omega))
        obtain ⟨q, hq, hpl⟩ := places_ok hall
        obtain ⟨arr', hfl, hvl⟩ := fill_ok (place' := fun i => q.toArray[i]?) hpl hfill (v1.up (Pre.refl _) (nilsR_left hf)) (v2.up (Pre.refl _) (nilsR_right hf))
        refine fin arr' l bs' rfl ?_ hvl (n1.app n2)
        unfold Program.built
        simp only [(inf_ok hi).1, hu, hz, hq]
        exact hfl
      · cases hs
    · cases hs
  · rename_i n e hu
    replace hs := ebind hs
    obtain ⟨⟨ps, bs'⟩, e2, hs⟩ := hs
    simp only at hs
    split at hs
    · rename_i g hg
      split at hs
      · rename_i l hfill
        cases hs
        have hf : ∀ b, s.hp.length ≤ b → b < s.hp.length + (bs ++ bs').length → ρ b = none := fun b h1 h2 => (S.fresh b h1 (by simp at h2 ⊢; omega)).1
        obtain ⟨n1, v1⟩ := constCs_ok P (η := η) (ρ := ρ) h1 (fun b h1 h2 => hf b h1 (by simp; omega))
        obtain ⟨n2, v2⟩ := partsS_ok (η := η) (ρ := ρ) (a := a) e2 (fun p hp => ht p (by simpa using hp)) (fun b h1 h2 => hf b (by omega) (by simp; omega))
        obtain ⟨arr', hfl, hvl⟩ := fill_ok (place' := fun i => some (i * g.size, g.size)) (fun _ _ h => h) hfill (v1.up (Pre.refl _) (nilsR_left hf)) (v2.up (Pre.refl _) (nilsR_right hf))
        refine fin arr' l bs' rfl ?_ hvl (n1.app n2)
        unfold Program.built
        simp only [(inf_ok hi).1, hu, hz, (inf_ok hg).1]
        exact hfl
      · cases hs
    · cases hs
  · cases hs

end
end Gm

/- Each operation does what its static side says (eleventh part: slices written out). -/
namespace Gm
open Go

section
variable {P : Program} {o : Oper} {a : Act} {w : World} {C : Ctx} {η : List PV} {ρ : Rho} {h : Hp} {s : SSt} {r : Res} {tb : List PF}

/-- parts in order fill a row from end to end -/
theorem fill_order {size : Nat} : ∀ {ps : List (Nat × List SC)} {vals : List (Nat × Value)} {n : Nat} {arr : Array Value}, PartsOK η ρ ps vals → inOrder ps n = true → (ps.all fun p => p.2.length == size) = true →
    arr.size = (n + ps.length) * size → ∃ arr', Instr.fill (fun i => some (i * size, size)) arr vals = some arr' ∧ arr'.toList = arr.toList.take (n * size) ++ vals.flatMap (fun p => p.2.cells.toList)
  | [], [], n, arr, _, _, _, hs => by
    refine ⟨arr, rfl, ?_⟩
    have : arr.toList.length ≤ n * size := by simp at hs ⊢; omega
    simp [List.take_of_length_le this]
  | (i, c) :: ps, (j, v) :: vals, n, arr, ⟨hij, hc, hps⟩, ho, hl, hs => by
    subst hij
    simp only [inOrder, Bool.and_eq_true, beq_iff_eq] at ho
    obtain ⟨rfl, ho⟩ := ho
    simp only [List.all_cons, Bool.and_eq_true, beq_iff_eq] at hl
    obtain ⟨hcl, hl⟩ := hl
    have hvl := hc.len
    simp only [Array.length_toList] at hvl
    have hsz : arr.size = i * size + size + ps.length * size := by rw [hs, List.length_cons, Nat.add_mul, Nat.add_mul]; omega
    simp only [Instr.fill]
    rw [if_neg (by simp; omega)]
    have L := lay_ok v.cells.toList 0 (i * size) arr (by simp; omega)
    simp only [Nat.add_zero, Array.length_toList] at L
    have e1 : (v.cells.zipIdx.foldl (fun cs (p : Value × Nat) => cs.setIfInBounds (i * size + p.2) p.1) arr) = (v.cells.toList.zipIdx.foldl (fun cs (p : Value × Nat) => cs.setIfInBounds (i * size + p.2) p.1) arr) := by
      rw [← Array.foldl_toList]; simp
    rw [← e1] at L
    have L' : (v.cells.zipIdx.foldl (fun cs x => match x with | (c, j) => cs.setIfInBounds (i * size + j) c) arr).toList = List.take (i * size) arr.toList ++ v.cells.toList ++ List.drop (i * size + v.cells.size) arr.toList := L
    generalize v.cells.zipIdx.foldl (fun cs x => match x with | (c, j) => cs.setIfInBounds (i * size + j) c) arr = arr1 at L' ⊢
    have hs1 : arr1.size = arr.size := by
      have : arr1.toList.length = arr.toList.length := by rw [L']; simp; omega
      simpa using this
    obtain ⟨arr', h1, h2⟩ := fill_order (n := i + 1) (arr := arr1) hps ho hl (by rw [hs1, hsz, Nat.add_mul, Nat.add_mul]; omega)
    refine ⟨arr', h1, ?_⟩
    rw [h2, L', List.flatMap_cons]
    have hlen : ((i + 1) * size) = (List.take (i * size) arr.toList ++ v.cells.toList).length := by simp [Nat.add_mul]; omega
    rw [hlen, List.take_left]
    simp
  | [], _ :: _, _, _, h, _, _, _ => h.elim
  | (_, _) :: _, [], _, _, h, _, _, _ => h.elim

theorem PartsOK.flat : ∀ {ps : List (Nat × List SC)} {vals : List (Nat × Value)}, PartsOK η ρ ps vals → VL η ρ (ps.flatMap (·.2)) (vals.flatMap (fun p => p.2.cells.toList))
  | [], [], _ => trivial
  | (i, c) :: ps, (j, v) :: vals, ⟨_, hc, hps⟩ => by simpa using hc.app hps.flat
  | [], _ :: _, h => h.elim
  | (_, _) :: _, [], h => h.elim

theorem atomsOf_int {k : IntKind} : ∀ {cs : List SC} {as : List Atom} {us : List Value} {pv : List PV}, atomsOf (.int k) cs = some as → VL η ρ cs us → looks η as = some pv →
    ∃ L, ints pv = some L ∧ us = L.map (CK.int k).val
  | [], as, us, pv, e, hv, hl => by
    simp only [atomsOf] at e
    cases e
    cases us with
    | nil => simp only [looks] at hl; cases hl; exact ⟨[], rfl, rfl⟩
    | cons _ _ => exact hv.elim
  | c :: cs, as, [], pv, e, hv, hl => hv.elim
  | c :: cs, as, u :: us, pv, e, ⟨hc, hv⟩, hl => by
    simp only [atomsOf] at e
    split at e
    · rename_i k1 k' at_ hk1
      cases hk1
      split at e
      · rename_i hk
        subst hk
        split at e
        · rename_i rr hr
          cases e
          obtain ⟨n, hn, rfl⟩ := hc
          simp only [looks, hn] at hl
          split at hl
          · rename_i ps hps
            cases hl
            obtain ⟨L, h1, h2⟩ := atomsOf_int hr hv hps
            exact ⟨n :: L, by simp [ints, h1], by simp [CK.val, h2]⟩
          · cases hl
        · cases e
      · cases e
    · rename_i hk1; cases hk1
    · cases e

theorem atomsOf_bool : ∀ {cs : List SC} {as : List Atom} {us : List Value} {pv : List PV}, atomsOf .bool cs = some as → VL η ρ cs us → looks η as = some pv →
    ∃ L, bools pv = some L ∧ us = L.map CK.bool.val
  | [], as, us, pv, e, hv, hl => by
    simp only [atomsOf] at e
    cases e
    cases us with
    | nil => simp only [looks] at hl; cases hl; exact ⟨[], rfl, rfl⟩
    | cons _ _ => exact hv.elim
  | c :: cs, as, [], pv, e, hv, hl => hv.elim
  | c :: cs, as, u :: us, pv, e, ⟨hc, hv⟩, hl => by
    simp only [atomsOf] at e
    split at e
    · rename_i hk1; cases hk1
    · rename_i at_ _
      split at e
      · rename_i rr hr
        cases e
        obtain ⟨n, hn, rfl⟩ := hc
        simp only [looks, hn] at hl
        split at hl
        · rename_i ps hps
          cases hl
          obtain ⟨L, h1, h2⟩ := atomsOf_bool hr hv hps
          exact ⟨(if n then 1 else 0) :: L, by simp [bools, h1], by cases n <;> simp [CK.val, h2]⟩
        · cases hl
      · cases e
    · cases e

theorem flat_len {n : Nat} : ∀ {ps : List (Nat × List SC)}, (ps.all fun p => p.2.length == n) = true → (ps.flatMap (·.2)).length = ps.length * n
  | [], _ => by simp
  | p :: ps, h => by
    simp only [List.all_cons, Bool.and_eq_true, beq_iff_eq] at h
    simp only [List.flatMap_cons, List.length_append, List.length_cons, flat_len h.2, h.1, Nat.add_mul]
    omega

theorem sBuildSlice_ok {t : TypeId} {len : Nat} {parts : Array (Nat × Operand)} (hs : sBuildSlice P s t len parts = .ok r) (ho : o.op = .buildSlice t len parts) (S : St C η ρ h s r w)
    (ht : ∀ p ∈ parts, TmOK η ρ s a p.2) (I : InsOK tb η s.ne r.ins) : OpSem P o a w (Post C η ρ h s r) := by
  unfold sBuildSlice at hs
  split at hs
  · rename_i e hu
    split at hs
    · cases hs
    · rename_i g hg
      replace hs := ebind hs
      obtain ⟨⟨ps, bs⟩, e2, hs⟩ := hs
      simp only at hs
      split at hs
      · cases hs
      · rename_i hc
        simp only [Bool.not_eq_true', Bool.not_eq_false, Bool.and_eq_true, beq_iff_eq, decide_eq_true_eq, ne_eq] at hc
        obtain ⟨⟨⟨⟨⟨c1, c2⟩, c3⟩, c4⟩, c5⟩, c6⟩ := hc
        obtain ⟨z, hz⟩ := Option.isSome_iff_exists.1 c6
        have hvals : (parts.map fun (p : Nat × Operand) => (p.1, a.eval p.2)).toList = parts.toList.map fun p => (p.1, a.eval p.2) := by simp
        have run : ∀ ρ' : Rho, PartsOK η ρ' ps (parts.toList.map fun p => (p.1, a.eval p.2)) → ∃ arr : Array Value, arr.toList = (parts.toList.map fun p => (p.1, a.eval p.2)).flatMap (fun p => p.2.cells.toList) ∧
            (execOp a.eval o).run P w = .ok (.value (.slice (some ⟨w.heap.size, 0, none⟩) len len)) { w with heap := w.heap.push (.cells arr e) } := by
          intro ρ' hp
          obtain ⟨arr, f1, f2⟩ := fill_order (n := 0) (arr := (Array.range (len * g.size)).map (fun j => (if len * g.size = 0 then #[] else z.cells)[j % (if len * g.size = 0 then #[] else z.cells).size]!)) hp c1
            (by rw [List.all_eq_true] at c3 ⊢; exact c3) (by simp [c2])
          refine ⟨arr, by simpa using f2, ?_⟩
          simp only [execOp, ho]
          refine run_val ?_
          have hbig : ¬ (len * g.size > 2 ^ 24) := by omega
          simp only [Instr.buildSlice, Sem.run_bind, under_ok hu, Result.andThen_ok, run_size hg, if_neg hbig, hvals]
          by_cases h0 : len * g.size = 0
          · have h0' : len = 0 ∨ g.size = 0 := Nat.mul_eq_zero.1 h0
            simp [h0] at f1
            simp [h0, f1, newRow]
          · simp only [if_neg h0] at f1
            simp [h0, zeroValue, typeInfo, (inf_ok hg).1, hz, f1, newRow]
        split at hs
        · rename_i ck wd hk
          split at hs
          · rename_i as ha
            split at hs
            · rename_i hwd
              subst hwd
              cases hs
              obtain ⟨n2, v2⟩ := partsS_ok (η := η) (ρ := ρ) (a := a) e2 (fun p hp => ht p (by simpa using hp)) (by intro b h1 h2; simp at h2; omega)
              rw [nilsR_nil] at v2
              obtain ⟨arr, r1, r2⟩ := run ρ v2
              obtain ⟨vs, q, i1, i2, i3, _⟩ := InsOK.one I
              have hfl := v2.flat
              rw [← r1] at hfl
              obtain ⟨L, hL, hq⟩ : ∃ L, q = .ints L ∧ arr.toList = L.map ck.val := by
                cases ck with
                | int k =>
                  obtain ⟨L, h1, h2⟩ := atomsOf_int ha hfl i1
                  simp only [step, ev, h1] at i2
                  exact ⟨L, by cases i2; rfl, h2⟩
                | bool =>
                  obtain ⟨L, h1, h2⟩ := atomsOf_bool ha hfl i1
                  simp only [step, ev, h1] at i2
                  exact ⟨L, by cases i2; rfl, h2⟩
              subst hL
              have hlen : L.length = len * g.size := by
                have h1 := hfl.len
                have h2 := flat_len c3
                rw [hq, List.length_map] at h1
                rw [h1, h2, c2]
              have hsz : arr.size = len * g.size := by
                have : arr.toList.length = L.length := by rw [hq]; simp
                simp at this
                omega
              refine OpSem.value r2 (Post.newlist (rb := ⟨some (w.heap.size, 0), len, len, g.size, [w.heap.size]⟩) S rfl (fun ρ' => ⟨_, i3, rfl, hlen, Nat.le_refl _, .inr ⟨w.heap.size, arr, e, rfl, rfl, by simp, by show len * g.size ≤ _; omega, ?_⟩⟩)
                (Later.push _ _) (by simp) fun ρ' hr' => ⟨_, len, hr', Nat.le_refl _, Nat.le_refl _, rfl, by simp⟩)
              intro j v hj
              rw [← Array.getElem?_toList, hq, List.getElem?_map, hj]; rfl
            · cases hs
          · cases hs
        · cases hs
          have hf : ∀ b, s.hp.length + 1 ≤ b → b < s.hp.length + 1 + bs.length → ρ b = none := fun b h1 h2 => (S.fresh b (by omega) (by simp; omega)).1
          obtain ⟨n2, v2⟩ := partsS_ok (η := η) (ρ := ρ) (a := a) e2 (fun p hp => ht p (by simpa using hp)) hf
          obtain ⟨arr, r1, r2⟩ := run _ v2
          have hfl := v2.flat
          rw [← r1] at hfl
          exact OpSem.value r2 (Post.block S rfl n2 hfl fun ρ' hr' _ => ⟨_, _, len, hr', rfl, Nat.le_refl _, rfl⟩)
  · cases hs

end
end Gm

/- Steps in several goes; operands of calls; parts of lists that are lent. -/
namespace Gm
open Go

section
variable {P : Program} {o : Oper} {a : Act} {w : World} {C : Ctx} {η : List PV} {ρ ρ' : Rho} {h : Hp} {s s' : SSt} {r : Res} {tb : List PF}

/-- a state turned into another one, the world left as it was or turned too -/
structure Mid (C : Ctx) (η : List PV) (ρ : Rho) (h : Hp) (hp hp' : List (Option SB)) (w : World) (ρ' : Rho) : Prop where
  ext : Ext ρ ρ'
  dom : ∀ b, ρ' b ≠ ρ b → hp.length ≤ b ∧ b < hp'.length
  hr : HR η ρ' (upd h hp hp') w
  fr : FR C ρ' (upd h hp hp') w

theorem Post.iff {cv : Value} : Post C η ρ h s r cv w ↔ ∃ ρ', VV η ρ' r.val cv ∧ Mid C η ρ h s.hp r.hp w ρ' :=
  ⟨fun ⟨ρ', a, b, c, d, e⟩ => ⟨ρ', a, b, c, d, e⟩, fun ⟨ρ', a, m⟩ => ⟨ρ', a, m.ext, m.dom, m.hr, m.fr⟩⟩

/-- two goes are one -/
theorem upd_upd {hp hp1 hp2 : List (Option SB)} (hb : ∀ b, hpf hp2 b = hpf hp b → hpf hp1 b ≠ hpf hp b → h b = hpf hp b) : upd (upd h hp hp1) hp1 hp2 = upd h hp hp2 := by
  funext b
  unfold upd
  by_cases e1 : hpf hp2 b = hpf hp1 b
  · rw [if_pos e1]
    by_cases e2 : hpf hp1 b = hpf hp b
    · rw [if_pos e2, if_pos (e1.trans e2)]
    · rw [if_neg e2, if_neg (by rw [e1]; exact e2), e1]
  · rw [if_neg e1]
    by_cases e2 : hpf hp2 b = hpf hp b
    · rw [if_pos e2, hb b e2 (fun q => e1 (e2.trans q.symm)), e2]
    · rw [if_neg e2]

theorem Mid.trans {w' : World} {hp hp1 hp2 : List (Option SB)} {ρ1 ρ2 : Rho} (m : Mid C η ρ h hp hp1 w ρ1) (n : Mid C η ρ1 (upd h hp hp1) hp1 hp2 w' ρ2) (l1 : hp.length ≤ hp1.length) (l2 : hp1.length ≤ hp2.length)
    (hb : ∀ b, hpf hp2 b = hpf hp b → hpf hp1 b ≠ hpf hp b → h b = hpf hp b) : Mid C η ρ h hp hp2 w' ρ2 := by
  refine ⟨m.ext.trans n.ext, fun b hb => ?_, by rw [← upd_upd hb]; exact n.hr, by rw [← upd_upd hb]; exact n.fr⟩
  by_cases q : ρ2 b = ρ1 b
  · rw [q] at hb; have := m.dom b hb; omega
  · have := n.dom b q; omega

/-- the second go of a step -/
theorem St.next {r0 : Res} {ρ1 : Rho} (S : St C η ρ h s r w) (m : Mid C η ρ h s.hp s'.hp w ρ1) (l1 : s.hp.length ≤ s'.hp.length) (l2 : s'.hp.length ≤ r0.hp.length) (e : r.hp = r0.hp)
    (hrd : ∀ b ∈ r0.rd, (b < s.hp.length ∧ b ∈ r.rd) ∨ (s.hp.length ≤ b ∧ b < s'.hp.length)) : St C η ρ1 (upd h s.hp s'.hp) s' r0 w := by
  refine ⟨m.hr, m.fr, fun b hb => ?_, fun b h1 h2 => ?_⟩
  · unfold upd
    split
    · rename_i q
      rcases hrd b hb with ⟨_, q2⟩ | ⟨q1, q2⟩
      · rw [S.ag b q2, q]
      · rw [(S.fresh b q1 (by rw [e]; omega)).2, q, hpf_ge q1]
    · rfl
  · have f := S.fresh b (by omega) (by rw [e]; exact h2)
    refine ⟨?_, ?_⟩
    · by_cases q : ρ1 b = ρ b
      · rw [q]; exact f.1
      · have := m.dom b q; omega
    · unfold upd
      rw [hpf_ge h1]
      split
      · exact f.2
      · rfl

/-- and its end -/
theorem Post.first {r0 : Res} {ρ1 : Rho} {cv : Value} {w' : World} (S : St C η ρ h s r w) (m : Mid C η ρ h s.hp s'.hp w ρ1) (l1 : s.hp.length ≤ s'.hp.length) (l2 : s'.hp.length ≤ r0.hp.length) (e : r.hp = r0.hp) (ev : r.val = r0.val)
    (hrd : ∀ b, b < s.hp.length → hpf s'.hp b ≠ hpf s.hp b → b ∈ r.rd) (Q : Post C η ρ1 (upd h s.hp s'.hp) s' r0 cv w') : Post C η ρ h s r cv w' := by
  rw [Post.iff] at Q ⊢
  obtain ⟨ρ2, hv, n⟩ := Q
  refine ⟨ρ2, by rw [ev]; exact hv, ?_⟩
  rw [e]
  refine m.trans n l1 l2 fun b q1 q2 => ?_
  rcases Nat.lt_or_ge b s.hp.length with hb | hb
  · exact S.ag b (hrd b hb q2)
  · have q3 : b < s'.hp.length := by
      rcases Nat.lt_or_ge b s'.hp.length with q | q
      · exact q
      · rw [hpf_ge q, hpf_ge hb] at q2; exact absurd rfl q2
    rw [(S.fresh b hb (by rw [e]; omega)).2, hpf_ge hb]

theorem Mid.nils {bs : List (Option SB)} (H : HR η ρ h w) (F : FR C ρ h w) (hn : Nils bs) (hp : List (Option SB)) (hf : ∀ b, hp.length ≤ b → b < hp.length + bs.length → ρ b = none ∧ h b = none) :
    Mid C η ρ h hp (hp ++ bs) w (nilsR ρ hp.length bs) := by
  have h1 : ∀ b, hp.length ≤ b → b < hp.length + bs.length → ρ b = none := fun b q1 q2 => (hf b q1 q2).1
  have h2 : ∀ b, hp.length ≤ b → b < hp.length + bs.length → h b = none := fun b q1 q2 => (hf b q1 q2).2
  refine ⟨nilsR_ext' h1, fun b hb => ?_, ?_, ?_⟩
  · unfold nilsR at hb
    split at hb
    · rename_i hge
      refine ⟨hge, ?_⟩
      rcases Nat.lt_or_ge b (hp ++ bs).length with q | q
      · exact q
      · have : hpf bs (b - hp.length) = none := hpf_ge (by simp at q; omega)
        rw [this] at hb
        exact absurd rfl hb
    · exact absurd rfl hb
  · rw [upd_nils h2]; exact H.nils hn h1
  · rw [upd_nils h2]; exact F.nils H hn h1

/-! ### operands of calls -/
def VVs (η : List PV) (ρ : Rho) : List SV → List Value → Prop
  | [], [] => True
  | s :: l, v :: vs => VV η ρ s v ∧ VVs η ρ l vs
  | _, _ => False

theorem VVs.up {η η' : List PV} {ρ ρ' : Rho} (hη : Pre η η') (hρ : Ext ρ ρ') : ∀ {l : List SV} {vs : List Value}, VVs η ρ l vs → VVs η' ρ' l vs
  | [], [], _ => trivial
  | _ :: _, _ :: _, h => ⟨h.1.up hη hρ, h.2.up hη hρ⟩
  | [], _ :: _, h => h.elim
  | _ :: _, [], h => h.elim

theorem VVs.len {η : List PV} {ρ : Rho} : ∀ {l : List SV} {vs : List Value}, VVs η ρ l vs → vs.length = l.length
  | [], [], _ => rfl
  | _ :: _, _ :: _, h => by simp [h.2.len]
  | [], _ :: _, h => h.elim
  | _ :: _, [], h => h.elim

theorem VVs.app {η : List PV} {ρ : Rho} : ∀ {l : List SV} {vs : List Value} {m : List SV} {us : List Value}, VVs η ρ l vs → VVs η ρ m us → VVs η ρ (l ++ m) (vs ++ us)
  | [], [], _, _, _, h => h
  | _ :: _, _ :: _, _, _, h, k => ⟨h.1, h.2.app k⟩
  | [], _ :: _, _, _, h, _ => h.elim
  | _ :: _, [], _, _, h, _ => h.elim

theorem opnds_ok : ∀ {xs : List Operand} {ts : List TypeId} {s s1 : SSt} {vs : List SV}, opnds P s xs ts = .ok (vs, s1) → (∀ x ∈ xs, ∀ t sv, x = .tmp t → s.tm[t]? = some sv → VV η ρ sv (a.eval x)) →
    ∃ bs, s1 = { s with hp := s.hp ++ bs } ∧ ((∀ b, s.hp.length ≤ b → b < s.hp.length + bs.length → ρ b = none) → Nils bs ∧ VVs η (nilsR ρ s.hp.length bs) vs (xs.map a.eval))
  | [], ts, s, s1, vs, e, _ => by
    simp only [opnds] at e
    cases e
    exact ⟨[], by simp, fun _ => ⟨Nils.nil, trivial⟩⟩
  | x :: xs, ts, s, s1, vs, e, ht => by
    simp only [opnds] at e
    replace e := ebind e
    obtain ⟨⟨v, b1⟩, e1, e⟩ := e
    simp only at e
    replace e := ebind e
    obtain ⟨⟨rr, s2⟩, e2, e⟩ := e
    cases e
    obtain ⟨b2, q1, q2⟩ := opnds_ok (s := { s with hp := s.hp ++ b1 }) e2 (fun y hy => ht y (by simp [hy]))
    refine ⟨b1 ++ b2, by rw [q1]; simp, fun hf => ?_⟩
    obtain ⟨n1, v1⟩ := opnd_ok (η := η) (ρ := ρ) (a := a) e1 (ht x (by simp)) (fun b h1 h2 => hf b h1 (by simp; omega))
    obtain ⟨n2, v2⟩ := q2 (fun b h1 h2 => hf b (by simp at h1; omega) (by simp at h2 ⊢; omega))
    refine ⟨n1.app n2, v1.up (Pre.refl _) (nilsR_left hf), ?_⟩
    have : (s.hp ++ b1).length = s.hp.length + b1.length := by simp
    rw [this] at v2
    exact v2.up (Pre.refl _) (nilsR_right hf)

/-! ### parts of lists that are lent -/
structure Rdy (C : Ctx) (η : List PV) (ρ : Rho) (h : Hp) (s s' : SSt) (rd : List Nat) (w : World) : Prop where
  hr : HR η ρ h w
  fr : FR C ρ h w
  ag : ∀ b ∈ rd, b < s.hp.length → h b = hpf s.hp b
  fresh : ∀ b, s.hp.length ≤ b → b < s'.hp.length → ρ b = none ∧ h b = none

structure Vw (C : Ctx) (η : List PV) (ρ : Rho) (h : Hp) (s s' : SSt) (is : List Ins) (rd : List Nat) (w : World) (ρ1 : Rho) : Prop where
  mid : Mid C η ρ h s.hp s'.hp w ρ1
  len : s.hp.length ≤ s'.hp.length
  ne : s'.ne = s.ne + insN is
  tm : s'.tm = s.tm
  rd : ∀ b, b < s.hp.length → hpf s'.hp b ≠ hpf s.hp b → b ∈ rd

theorem insN_app : ∀ {l m : List Ins}, insN (l ++ m) = insN l + insN m
  | [], m => by simp [insN]
  | i :: l, m => by simp [insN, insN_app (l := l) (m := m), Nat.add_assoc]

theorem Mid.refl {hp : List (Option SB)} (H : HR η ρ h w) (F : FR C ρ h w) : Mid C η ρ h hp hp w ρ :=
  ⟨Ext.refl _, fun b hb => absurd rfl hb, by rw [upd_same]; exact H, by rw [upd_same]; exact F⟩

theorem Vw.refl {s s' : SSt} {rd : List Nat} (R : Rdy C η ρ h s s' rd w) : Vw C η ρ h s s [] rd w ρ :=
  ⟨Mid.refl R.hr R.fr, Nat.le_refl _, by simp [insN], rfl, fun b _ hb => absurd rfl hb⟩

theorem Rdy.left {s s1 s2 : SSt} {rd1 rd2 : List Nat} (R : Rdy C η ρ h s s2 (rd1 ++ rd2) w) (hl : s1.hp.length ≤ s2.hp.length) : Rdy C η ρ h s s1 rd1 w :=
  ⟨R.hr, R.fr, fun b hb => R.ag b (by simp [hb]), fun b q1 q2 => R.fresh b q1 (by omega)⟩

theorem Rdy.right {s s1 s2 : SSt} {rd1 rd2 : List Nat} {is : List Ins} {ρ1 : Rho} (R : Rdy C η ρ h s s2 (rd1 ++ rd2) w) (hl : s1.hp.length ≤ s2.hp.length) (V : Vw C η ρ h s s1 is rd1 w ρ1) :
    Rdy C η ρ1 (upd h s.hp s1.hp) s1 s2 rd2 w := by
  refine ⟨V.mid.hr, V.mid.fr, fun b hb hb1 => ?_, fun b q1 q2 => ⟨?_, ?_⟩⟩
  · unfold upd
    split
    · rename_i q
      rcases Nat.lt_or_ge b s.hp.length with q1 | q1
      · rw [R.ag b (by simp [hb]) q1, q]
      · rw [(R.fresh b q1 (Nat.lt_of_lt_of_le hb1 hl)).2, q, hpf_ge q1]
    · rfl
  · by_cases q : ρ1 b = ρ b
    · rw [q]; exact (R.fresh b (Nat.le_trans V.len q1) q2).1
    · have := V.mid.dom b q; omega
  · unfold upd
    rw [hpf_ge q1]
    split
    · exact (R.fresh b (Nat.le_trans V.len q1) q2).2
    · rfl

theorem Vw.trans {s s1 s2 : SSt} {rd1 rd2 : List Nat} {is js : List Ins} {ρ1 ρ2 : Rho} (R : Rdy C η ρ h s s2 (rd1 ++ rd2) w) (V : Vw C η ρ h s s1 is rd1 w ρ1) (W : Vw C η ρ1 (upd h s.hp s1.hp) s1 s2 js rd2 w ρ2) :
    Vw C η ρ h s s2 (is ++ js) (rd1 ++ rd2) w ρ2 := by
  refine ⟨V.mid.trans W.mid V.len W.len fun b q1 q2 => ?_, Nat.le_trans V.len W.len, by rw [insN_app, W.ne, V.ne]; omega, W.tm.trans V.tm, fun b q1 q2 => ?_⟩
  · rcases Nat.lt_or_ge b s.hp.length with hb | hb
    · exact R.ag b (List.mem_append_left _ (V.rd b hb q2)) hb
    · have q3 : b < s1.hp.length := by
        rcases Nat.lt_or_ge b s1.hp.length with q | q
        · exact q
        · rw [hpf_ge q, hpf_ge hb] at q2; exact absurd rfl q2
      rw [(R.fresh b hb (Nat.lt_of_lt_of_le q3 W.len)).2, hpf_ge hb]
  · by_cases q : hpf s1.hp b = hpf s.hp b
    · exact List.mem_append_right _ (W.rd b (Nat.lt_of_lt_of_le q1 V.len) (by rw [q]; exact q2))
    · exact List.mem_append_left _ (V.rd b q1 q)

theorem Mid.weak {hp : List (Option SB)} {b : Nat} {ck : CK} {wd : Nat} {x : Atom} {rw : Bool} (H : HR η ρ h w) (F : FR C ρ h w) (hb : hpf hp b = some (.list ck wd x rw)) (hh : h b = hpf hp b) :
    Mid C η ρ h hp (hp.set b (some (.list ck wd x false))) w ρ := by
  have e := upd_set (h := h) (x := some (.list ck wd x false)) (hpf_lt hb) hh
  exact ⟨Ext.refl _, fun b hb => absurd rfl hb, by rw [e]; exact H.weak (hh.trans hb), by rw [e]; exact F.weak (hh.trans hb)⟩

theorem Mid.add {hp : List (Option SB)} {sb : SB} {rb : RB} {w' : World} (H : HR η ρ h w) (F : FR C ρ h w) (L : Later w w') (hr : ρ hp.length = none) (hh : h hp.length = none)
    (hb : BC η (setR ρ hp.length rb) w' rb sb)
    (hn : (∀ x ∈ rb.foot, w.heap.size ≤ x) ∨ (sb.rw = false ∧ ∀ x ∈ rb.foot, ∃ c sc rc, h c = some sc ∧ sc.rw = false ∧ ρ c = some rc ∧ x ∈ rc.foot)) :
    Mid C η ρ h hp (hp ++ [some sb]) w' (setR ρ hp.length rb) := by
  have e := upd_app (sb := some sb) hh
  refine ⟨setR_ext hr, fun b hb => ?_, by rw [e]; exact H.add L hr hb hn, by rw [e]; exact F.add H L hr hn⟩
  unfold setR at hb
  split at hb
  · rename_i q; subst q; simp
  · exact absurd rfl hb

/-- a part of a list, told by a list of its own -/
theorem part_view {b : Nat} {lo n x : Atom} {ck : CK} {wd : Nat} {rw : Bool} {v : Value} {rb : RB} {L : List Int} (hr : ρ b = some rb) (bc : BC η ρ w rb (.list ck wd x rw)) (hL : look η x = some (.ints L))
    (hv : VC η ρ (.sub b lo n) v) : ∃ l m ad cap, look η lo = some (.int l) ∧ look η n = some (.int m) ∧ 0 ≤ l ∧ 0 ≤ m ∧ (l + m).toNat * wd ≤ L.length ∧ m.toNat ≤ cap ∧ v = .slice (ad.map adr) m.toNat cap ∧ (ad = none → cap = 0) ∧
      ((L.drop (l.toNat * wd)).take (m.toNat * wd)).length = m.toNat * wd ∧
      ∀ (i : Nat) (z : Int), ((L.drop (l.toNat * wd)).take (m.toNat * wd))[i]? = some z → ∃ blk off arr t fr, ad = some (blk, off) ∧ blk ∈ rb.foot ∧ w.heap[blk]? = some (.cells arr t fr) ∧ arr[off + i]? = some (ck.val z) := by
  obtain ⟨rb', l, m, ad, cap, hr', hl, hm, h0, h1, hin, hcap, hvx, hpos, hnon⟩ := hv
  rw [hr] at hr'; cases hr'
  obtain ⟨L', q1, q2, q3⟩ := bc.len
  rw [hL] at q1; cases q1
  have hle : (l + m).toNat * wd ≤ L.length := by rw [q2]; exact Nat.mul_le_mul_right _ (by omega)
  have hlm : (l + m).toNat * wd = l.toNat * wd + m.toNat * wd := by rw [← Nat.add_mul]; congr 1; omega
  refine ⟨l, m, ad, cap, hl, hm, h0, h1, hle, hcap, hvx, hnon, by simp; omega, fun i z hi => ?_⟩
  rw [List.getElem?_take] at hi
  split at hi
  · rename_i hlt
    rw [List.getElem?_drop] at hi
    have hm0 : 0 < m := by
      rcases Int.lt_or_le 0 m with q | q
      · exact q
      · have : m.toNat = 0 := by omega
        rw [this] at hlt; simp at hlt
    obtain ⟨blk, off, hat, hade⟩ := hpos hm0
    have wk := bc.weak
    obtain ⟨L2, e1, e2, e3, e4, e5⟩ := wk
    rw [hL] at e1; cases e1
    obtain ⟨blk', off', arr, t, fr, a1, a2, a3, a4⟩ := e5 _ _ hi
    rw [hat] at a1; cases a1
    refine ⟨blk, off + l.toNat * rb.wd, arr, t, fr, hade, a2, a3, ?_⟩
    rw [q3, Nat.add_assoc]; exact a4
  · cases hi


theorem viewC_ok {s s' : SSt} {c c' : SC} {is : List Ins} {rd : List Nat} {v : Value} (e : viewC s c = .ok (c', s', is, rd)) (R : Rdy C η ρ h s s' rd w) (hv : VC η ρ c v) (I : InsOK tb η s.ne is) :
    ∃ ρ1, Vw C η ρ h s s' is rd w ρ1 ∧ VC η ρ1 c' v := by
  unfold viewC at e
  split at e
  · rename_i b lo n
    replace e := ebind e
    obtain ⟨⟨ck, wd, x, rw_⟩, e1, e⟩ := e
    have hc := listAt_ok e1
    cases e
    have hb := R.ag b (by simp) (hpf_lt hc)
    obtain ⟨rb, hr, bc⟩ := R.hr.bc b _ (hb.trans hc)
    obtain ⟨L, hL, hLl, hwd⟩ := bc.len
    obtain ⟨l, m, ad, cap, hl, hm, h0, h1, hle, hcap, hvx, hnon, hlen, hcell⟩ := part_view hr bc hL hv
    obtain ⟨vs, q, i1, i2, i3, _⟩ := InsOK.one I
    obtain ⟨p1, p2, p3, l1, l2, l3, rfl⟩ := looks3 i1
    rw [hL] at l1; rw [hl] at l2; rw [hm] at l3
    cases l1; cases l2; cases l3
    simp only [step, ev, h0, h1, and_self, if_true] at i2
    cases i2
    have M1 := Mid.weak R.hr R.fr hc hb
    have hlen0 : (s.hp.set b (some (.list ck wd x false))).length = s.hp.length := by simp
    have hfr := R.fresh s.hp.length (Nat.le_refl _) (by simp)
    have hnl : upd h s.hp (s.hp.set b (some (.list ck wd x false))) (s.hp.set b (some (.list ck wd x false))).length = none := by
      rw [upd_set (hpf_lt hc) hb, hlen0]
      unfold setH
      rw [if_neg (Nat.ne_of_gt (hpf_lt hc))]
      exact hfr.2
    have M2 := Mid.add (sb := .list ck wd (.v s.ne) false) (rb := ⟨ad, m.toNat, cap, wd, rb.foot⟩) M1.hr M1.fr (Later.refl w) (by rw [hlen0]; exact hfr.1) hnl
      ⟨_, i3, rfl, hlen, bc.foot, hcell⟩
      (.inr ⟨rfl, fun y hy => ⟨b, .list ck wd x false, rb, by rw [upd_set (hpf_lt hc) hb]; simp [setH], rfl, hr, hy⟩⟩)
    have M := M1.trans M2 (by simp) (by simp) (fun c q1 q2 => by
      rw [hpf_set (hpf_lt hc)] at q2
      split at q2
      · rename_i q; subst q; exact hb
      · exact absurd rfl q2)
    refine ⟨_, ⟨M, by simp, by simp [insN], rfl, fun c q1 q2 => ?_⟩, ?_⟩
    · by_cases q : c = b
      · simp [q]
      · have : hpf (s.hp.set b (some (.list ck wd x false)) ++ [some (.list ck wd (.v s.ne) false)]) c = hpf s.hp c := by
          rw [hpf_app_lt (by simpa using q1), hpf_set (hpf_lt hc), if_neg q]
        exact absurd this q2
    · refine ⟨⟨ad, m.toNat, cap, wd, rb.foot⟩, cap, ?_, hcap, Nat.le_refl _, hvx, hnon⟩
      rw [hlen0]
      simp [setR]
  · cases e
    exact ⟨ρ, Vw.refl R, hv⟩

theorem viewL_ok : ∀ {l l' : List SC} {s s' : SSt} {is : List Ins} {rd : List Nat} {vs : List Value} {ρ : Rho} {h : Hp}, viewL s l = .ok (l', s', is, rd) → Rdy C η ρ h s s' rd w → VL η ρ l vs → InsOK tb η s.ne is →
    ∃ ρ1, Vw C η ρ h s s' is rd w ρ1 ∧ VL η ρ1 l' vs
  | [], l', s, s', is, rd, vs, ρ, h, e, R, hv, I => by
    simp only [viewL] at e
    cases e
    exact ⟨ρ, Vw.refl R, hv⟩
  | c :: l, l', s, s', is, rd, [], ρ, h, e, R, hv, I => hv.elim
  | c :: l, l', s, s', is, rd, v :: vs, ρ, h, e, R, hv, I => by
    simp only [viewL] at e
    replace e := ebind e
    obtain ⟨⟨c1, s1, is1, rd1⟩, e1, e⟩ := e
    simp only at e
    replace e := ebind e
    obtain ⟨⟨l2, s2, is2, rd2⟩, e2, e⟩ := e
    cases e
    have key := viewL_len e2
    obtain ⟨I1, I2⟩ := InsOK.app I
    obtain ⟨ρ1, V1, w1⟩ := viewC_ok e1 (R.left key) hv.1 I1
    rw [← V1.ne] at I2
    obtain ⟨ρ2, V2, w2⟩ := viewL_ok e2 (R.right key V1) (hv.2.up (Pre.refl _) V1.mid.ext) I2
    exact ⟨ρ2, Vw.trans R V1 V2, w1.up (Pre.refl _) V2.mid.ext, w2⟩
  where
  viewL_len : ∀ {l l' : List SC} {s s' : SSt} {is : List Ins} {rd : List Nat}, viewL s l = .ok (l', s', is, rd) → s.hp.length ≤ s'.hp.length
    | [], l', s, s', is, rd, e => by simp only [viewL] at e; cases e; exact Nat.le_refl _
    | c :: l, l', s, s', is, rd, e => by
      simp only [viewL] at e
      replace e := ebind e
      obtain ⟨⟨c1, s1, is1, rd1⟩, e1, e⟩ := e
      simp only at e
      replace e := ebind e
      obtain ⟨⟨l2, s2, is2, rd2⟩, e2, e⟩ := e
      cases e
      refine Nat.le_trans ?_ (viewL_len e2)
      unfold viewC at e1
      split at e1
      · replace e1 := ebind e1
        obtain ⟨⟨ck, wd, x, rw_⟩, e3, e1⟩ := e1
        cases e1
        simp
      · cases e1; exact Nat.le_refl _

theorem viewC_len {c c' : SC} {s s' : SSt} {is : List Ins} {rd : List Nat} (e : viewC s c = .ok (c', s', is, rd)) : s.hp.length ≤ s'.hp.length := by
  unfold viewC at e
  split at e
  · replace e := ebind e
    obtain ⟨⟨ck, wd, x, rw_⟩, e3, e⟩ := e
    cases e
    simp
  · cases e; exact Nat.le_refl _

theorem viewV_len {c c' : SV} {s s' : SSt} {is : List Ins} {rd : List Nat} (e : viewV s c = .ok (c', s', is, rd)) : s.hp.length ≤ s'.hp.length := by
  unfold viewV at e
  split at e
  · replace e := ebind e
    obtain ⟨⟨x, r⟩, e1, e⟩ := e
    cases e
    exact viewC_len e1
  · replace e := ebind e
    obtain ⟨⟨x, r⟩, e1, e⟩ := e
    cases e
    exact viewL_ok.viewL_len e1
  · cases e

theorem viewV_ok {s s' : SSt} {c c' : SV} {is : List Ins} {rd : List Nat} {v : Value} (e : viewV s c = .ok (c', s', is, rd)) (R : Rdy C η ρ h s s' rd w) (hv : VV η ρ c v) (I : InsOK tb η s.ne is) :
    ∃ ρ1, Vw C η ρ h s s' is rd w ρ1 ∧ VV η ρ1 c' v := by
  unfold viewV at e
  split at e
  · replace e := ebind e
    obtain ⟨⟨x, r⟩, e1, e⟩ := e
    cases e
    exact viewC_ok e1 R hv I
  · replace e := ebind e
    obtain ⟨⟨x, r⟩, e1, e⟩ := e
    cases e
    obtain ⟨cs, rfl, hl⟩ := hv
    obtain ⟨ρ1, V, hl'⟩ := viewL_ok e1 R hl I
    exact ⟨ρ1, V, cs, rfl, hl'⟩
  · cases e

theorem viewVs_len : ∀ {l l' : List SV} {s s' : SSt} {is : List Ins} {rd : List Nat}, viewVs s l = .ok (l', s', is, rd) → s.hp.length ≤ s'.hp.length
  | [], l', s, s', is, rd, e => by simp only [viewVs] at e; cases e; exact Nat.le_refl _
  | c :: l, l', s, s', is, rd, e => by
    simp only [viewVs] at e
    replace e := ebind e
    obtain ⟨⟨c1, s1, is1, rd1⟩, e1, e⟩ := e
    simp only at e
    replace e := ebind e
    obtain ⟨⟨l2, s2, is2, rd2⟩, e2, e⟩ := e
    cases e
    exact Nat.le_trans (viewV_len e1) (viewVs_len e2)

theorem viewVs_ok : ∀ {l l' : List SV} {s s' : SSt} {is : List Ins} {rd : List Nat} {vs : List Value} {ρ : Rho} {h : Hp}, viewVs s l = .ok (l', s', is, rd) → Rdy C η ρ h s s' rd w → VVs η ρ l vs → InsOK tb η s.ne is →
    ∃ ρ1, Vw C η ρ h s s' is rd w ρ1 ∧ VVs η ρ1 l' vs
  | [], l', s, s', is, rd, vs, ρ, h, e, R, hv, I => by
    simp only [viewVs] at e
    cases e
    exact ⟨ρ, Vw.refl R, hv⟩
  | c :: l, l', s, s', is, rd, [], ρ, h, e, R, hv, I => hv.elim
  | c :: l, l', s, s', is, rd, v :: vs, ρ, h, e, R, hv, I => by
    simp only [viewVs] at e
    replace e := ebind e
    obtain ⟨⟨c1, s1, is1, rd1⟩, e1, e⟩ := e
    simp only at e
    replace e := ebind e
    obtain ⟨⟨l2, s2, is2, rd2⟩, e2, e⟩ := e
    cases e
    obtain ⟨I1, I2⟩ := InsOK.app I
    obtain ⟨ρ1, V1, w1⟩ := viewV_ok e1 (R.left (viewVs_len e2)) hv.1 I1
    rw [← V1.ne] at I2
    obtain ⟨ρ2, V2, w2⟩ := viewVs_ok e2 (R.right (viewVs_len e2) V1) (hv.2.up (Pre.refl _) V1.mid.ext) I2
    exact ⟨ρ2, Vw.trans R V1 V2, w1.up (Pre.refl _) V2.mid.ext, w2⟩

end
end Gm

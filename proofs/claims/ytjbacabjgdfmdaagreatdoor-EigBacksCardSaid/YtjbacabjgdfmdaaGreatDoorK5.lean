/- Each operation does what its static side says: all of them. -/
import Derived.Test.YtjbacabjgdfmdaaGreatDoorK4
import Derived.LoopN
namespace Gm
open Go

section
variable {P : Program} {o : Oper} {a : Act} {w : World} {C : Ctx} {η : List PV} {ρ : Rho} {h : Hp} {s : SSt} {r : Res} {tb : List PF}

theorem run_call_value {c : Call} {g : Operand} {f : FuncId} {xs ys : Array Value} (ho : o.op = .call c) (hc : c.callee = .value g) (hg : a.eval g = .func (.func f) xs ys) :
    (execOp a.eval o).run P w = (callFunc f (xs ++ c.args.map a.eval ++ ys)).run P w := by
  simp only [execOp, ho, resolve, hc, Deferred.ofValue, hg, Sem.run_bind, Sem.run_pure, Result.andThen_ok, invoke]

theorem run_call_builtin {c : Call} {b : Builtin} (ho : o.op = .call c) (hc : c.callee = .builtin b) : ∃ cs, (execOp a.eval o).run P w = (builtin b c.argTypes o.type cs (c.args.map a.eval)).run P w := by
  refine ⟨c.args.map fun | .const _ => true | _ => false, ?_⟩
  simp only [execOp, ho, resolve, hc, Sem.run_bind, Sem.run_pure, Result.andThen_ok, invoke]
  rfl

theorem VCps.vvs : ∀ {l : List Cp} {vs : List Value}, VCps η ρ l vs → VVs η ρ (l.map fun x => .c (cpC x)) vs
  | [], [], _ => trivial
  | c :: l, v :: vs, h => by
    refine ⟨?_, h.2.vvs⟩
    cases c <;> exact h.1
  | [], _ :: _, h => h.elim
  | _ :: _, [], h => h.elim

theorem arr2 {c : Call} {u v : Value} (h : c.args.toList.map a.eval = [u, v]) : c.args.map a.eval = #[u, v] := by
  apply Array.ext'
  simpa using h

theorem arr1 {c : Call} {u : Value} (h : c.args.toList.map a.eval = [u]) : c.args.map a.eval = #[u] := by
  apply Array.ext'
  simpa using h

theorem VVs.two {x y : SV} {vs : List Value} (h : VVs η ρ [x, y] vs) : ∃ u v, vs = [u, v] ∧ VV η ρ x u ∧ VV η ρ y v := by
  cases vs with
  | nil => exact h.elim
  | cons u vs => cases vs with
    | nil => exact h.2.elim
    | cons v vs => cases vs with
      | nil => exact ⟨u, v, rfl, h.1, h.2.1⟩
      | cons _ _ => exact h.2.2.elim

theorem VVs.one {x : SV} {vs : List Value} (h : VVs η ρ [x] vs) : ∃ u, vs = [u] ∧ VV η ρ x u := by
  cases vs with
  | nil => exact h.elim
  | cons u vs => cases vs with
    | nil => exact ⟨u, rfl, h.1⟩
    | cons _ _ => exact h.2.elim

theorem VVs.more {x : SV} {l : List SV} {vs : List Value} (h : VVs η ρ (x :: l) vs) : ∃ u us, vs = u :: us ∧ VV η ρ x u ∧ VVs η ρ l us := by
  cases vs with
  | nil => exact h.elim
  | cons u vs => exact ⟨u, vs, rfl, h.1, h.2⟩

theorem sCall_ok {es : List Ent} {npin : Nat} {c : Call} (hs : sCall P es npin s c = .ok r) (ho : o.op = .call c) {gl : Nat → Option (CK × List Int)} (hE : Ents P gl es tb) (G : GL gl C) (S : St C η ρ h s r w)
    (ht : ∀ x ∈ c.operands, TmOK η ρ s a x) (I : InsOK tb η s.ne r.ins) : OpSem P o a w (Post C η ρ h s r) := by
  unfold sCall at hs
  replace hs := ebind hs
  obtain ⟨⟨args, s1⟩, e1, hs⟩ := hs
  simp only at hs
  have htA : ∀ x ∈ c.args.toList, ∀ t sv, x = .tmp t → s.tm[t]? = some sv → VV η ρ sv (a.eval x) := by
    intro x hx
    refine ht x ?_
    unfold Call.operands
    split <;> simp_all
  obtain ⟨bs, rfl, hargs⟩ := opnds_ok (P := P) (η := η) (ρ := ρ) (a := a) e1 htA
  split at hs
  · rename_i g hcal
    replace hs := ebind hs
    obtain ⟨v, e2, hs⟩ := hs
    split at hs
    · rename_i f l1 l2
      have hg := opn_ok (η := η) (ρ := ρ) (a := a) e2 (ht g (by unfold Call.operands; rw [hcal]; simp))
      obtain ⟨xs, ys, v1, v2, hg⟩ := hg
      have hlen : s.hp.length + bs.length ≤ r.hp.length := by
        unfold sCallF at hs
        replace hs := ebind hs
        obtain ⟨⟨args', s2, is, rd⟩, e3, hs⟩ := hs
        simp only at hs
        replace hs := ebind hs
        obtain ⟨r0, e4, hs⟩ := hs
        cases hs
        obtain ⟨j, en, _, _, j3⟩ := callTry_ok e4
        have q1 := viewVs_len e3
        have q2 := (callEnt_len j3).1
        simp at q1
        show _ ≤ r0.hp.length
        omega
      obtain ⟨hn, hv⟩ := hargs (fun b q1 q2 => (S.fresh b q1 (by omega)).1)
      have hx := nilsR_ext' (ρ := ρ) (base := s.hp.length) (bs := bs) (fun b q1 q2 => (S.fresh b q1 (by omega)).1)
      refine OpSem.call (run_call_value ho hcal hg) (callF_ok hs hE G S hn ?_ I)
      have q := ((v1.vvs.up (Pre.refl _) hx).app hv).app (v2.vvs.up (Pre.refl _) hx)
      simpa using q
    · cases hs
  · rename_i b hcal
    obtain ⟨cs, hrun⟩ := run_call_builtin (P := P) (w := w) (a := a) ho hcal
    split at hs
    · cases hs
    · rename_i t hat
      have drop0 : (s.hp ++ bs).drop s.hp.length = bs := by simp
      split at hs
      · -- len
        rename_i x hnew
        rw [drop0] at hnew; subst hnew
        obtain ⟨hn, hv⟩ := hargs (by intro b q1 q2; simp at q2; omega)
        rw [nilsR_nil] at hv
        obtain ⟨u, hu, hvu⟩ := hv.one
        obtain ⟨cv, w', q1, q2⟩ := sLen_ok (P := P) (ty := o.type) hat hs S hvu I
        refine OpSem.value (v := cv) (w' := w') ?_ q2
        rw [hrun, arr1 hu]
        exact run_val q1
      · -- append
        rename_i x y _
        split at hs
        · cases hs
        · rename_i hats
          simp only [bne_iff_ne, ne_eq, Decidable.not_not] at hats
          replace hs := ebind hs
          obtain ⟨r0, e3, hs⟩ := hs
          cases hs
          obtain ⟨len, hrd⟩ := sAppend_len e3
          simp only [List.length_append] at len hrd
          obtain ⟨hn, hv⟩ := hargs (fun b q1 q2 => (S.fresh b q1 (by show b < r0.hp.length; omega)).1)
          obtain ⟨u, v, huv, hvu, hvv⟩ := hv.two
          have V0 : Vw C η ρ h s { s with hp := s.hp ++ bs } [] [] w _ := Vw.nils S.hr S.fr hn (fun b q1 q2 => S.fresh b q1 (by show b < r0.hp.length; omega))
          have S1 := S.next (r0 := r0) (s' := { s with hp := s.hp ++ bs }) V0.mid (by simp) (by simp; omega) rfl (fun b hb => by
            rcases Nat.lt_or_ge b s.hp.length with q | q
            · exact .inl ⟨q, by simp [hb, q]⟩
            · exact .inr ⟨q, by simpa using hrd b hb⟩)
          obtain ⟨cv, w', q1, q2⟩ := sAppend_ok (P := P) (ty := o.type) e3 S1 hvu hvv I
          refine OpSem.value (v := cv) (w' := w') ?_ (Post.first S V0.mid (by simp) (by simp; omega) rfl rfl (fun b z1 z2 => by
            have := V0.rd b z1 z2; cases this) q2)
          rw [hrun, arr2 huv, hats]
          exact run_val q1
      · -- min
        rename_i x l hnew
        rw [drop0] at hnew; subst hnew
        obtain ⟨hn, hv⟩ := hargs (by intro b q1 q2; simp at q2; omega)
        rw [nilsR_nil] at hv
        obtain ⟨u, us, hu, hvu, hvl⟩ := hv.more
        obtain ⟨is, z1, z2, z3, z4⟩ := minmax_ok (P := P) (w := w) (mx := false) hs hvu hvl
        rw [z1] at I
        obtain ⟨cv, q1, q2⟩ := z4 I
        refine OpSem.value (v := cv) (w' := w) ?_ (Post.plain S z2 q2 (Later.refl _))
        rw [hrun]
        refine run_val ?_
        simp only [Builtin.min_, Array.toList_map, hu]
        exact q1
      · -- max
        rename_i x l hnew
        rw [drop0] at hnew; subst hnew
        obtain ⟨hn, hv⟩ := hargs (by intro b q1 q2; simp at q2; omega)
        rw [nilsR_nil] at hv
        obtain ⟨u, us, hu, hvu, hvl⟩ := hv.more
        obtain ⟨is, z1, z2, z3, z4⟩ := minmax_ok (P := P) (w := w) (mx := true) hs hvu hvl
        rw [z1] at I
        obtain ⟨cv, q1, q2⟩ := z4 I
        refine OpSem.value (v := cv) (w' := w) ?_ (Post.plain S z2 q2 (Later.refl _))
        rw [hrun]
        refine run_val ?_
        simp only [Builtin.max_, Array.toList_map, hu]
        exact q1
      · -- copy
        rename_i x y hnew
        rw [drop0] at hnew; subst hnew
        obtain ⟨hn, hv⟩ := hargs (by intro b q1 q2; simp at q2; omega)
        rw [nilsR_nil] at hv
        obtain ⟨u, v, hu, hvu, hvv⟩ := hv.two
        obtain ⟨cv, w', q1, q2⟩ := sCopy_ok (P := P) (ty := o.type) hat hs S hvu hvv I
        refine OpSem.value (v := cv) (w' := w') ?_ q2
        rw [hrun, arr2 hu]
        exact run_val q1
      · -- clear
        rename_i x hnew
        rw [drop0] at hnew; subst hnew
        obtain ⟨hn, hv⟩ := hargs (by intro b q1 q2; simp at q2; omega)
        rw [nilsR_nil] at hv
        obtain ⟨u, hu, hvu⟩ := hv.one
        obtain ⟨cv, w', q1, q2⟩ := sClear_ok (P := P) (ty := o.type) hat hs S hvu I
        refine OpSem.value (v := cv) (w' := w') ?_ q2
        rw [hrun, arr1 hu]
        exact run_val q1
      · cases hs
  · cases hs

end
end Gm

/- Each operation does what its static side says: the whole. -/
namespace Gm
open Go

section
variable {P : Program} {o : Oper} {a : Act} {w : World} {C : Ctx} {η : List PV} {ρ : Rho} {h : Hp} {s : SSt} {r : Res} {tb : List PF}

theorem stepO_ok {gl : Nat → Option (CK × List Int)} {es : List Ent} {npin : Nat} (hs : stepO P gl es npin s o.op o.type = .ok r) (hE : Ents P gl es tb) (hG : GL gl C) (S : St C η ρ h s r w)
    (ht : ∀ x ∈ o.op.operands, TmOK η ρ s a x) (I : InsOK tb η s.ne r.ins) : OpSem P o a w (Post C η ρ h s r) := by
  unfold stepO at hs
  split at hs <;> rename_i he
  · exact sMove_ok hs (.inl he) S (ht _ (by rw [he]; simp [Op.operands]))
  · exact sMove_ok hs (.inr he) S (ht _ (by rw [he]; simp [Op.operands]))
  · exact sPick_ok hs he S (ht _ (by rw [he]; simp [Op.operands])) (ht _ (by rw [he]; simp [Op.operands])) (ht _ (by rw [he]; simp [Op.operands])) I
  · exact sAlloc_ok hs he S
  · exact sBox_ok hs he S (ht _ (by rw [he]; simp [Op.operands]))
  · exact sBuild_ok hs he S (fun p hp => ht _ (by rw [he]; simp [Op.operands]; exact ⟨_, hp⟩))
  · exact sBuildSlice_ok hs he S (fun p hp => ht _ (by rw [he]; simp [Op.operands]; exact ⟨_, hp⟩)) I
  · exact sLoad_ok hs he S (ht _ (by rw [he]; simp [Op.operands])) I hG
  · exact sStore_ok hs he S (ht _ (by rw [he]; simp [Op.operands])) (ht _ (by rw [he]; simp [Op.operands])) I
  · exact sNilCheck_ok hs he S (ht _ (by rw [he]; simp [Op.operands]))
  · exact sBin_ok hs ⟨_, he⟩ S (ht _ (by rw [he]; simp [Op.operands])) (ht _ (by rw [he]; simp [Op.operands])) I
  · exact sUn_ok hs he S (ht _ (by rw [he]; simp [Op.operands])) I
  · exact sConvert_ok hs he S (ht _ (by rw [he]; simp [Op.operands])) I
  · exact sMakeFunc_ok hs he S (fun x hx => ht _ (by rw [he]; simp [Op.operands, hx])) (fun x hx => ht _ (by rw [he]; simp [Op.operands, hx]))
  · exact sMakeSlice_ok hs he S (ht _ (by rw [he]; simp [Op.operands])) (ht _ (by rw [he]; simp [Op.operands])) I
  · exact sSlice_ok hs he S (ht _ (by rw [he]; simp [Op.operands])) (fun z hz => ht _ (by rw [he]; simp [Op.operands, hz])) (fun z hz => ht _ (by rw [he]; simp [Op.operands, hz])) (fun z hz => ht _ (by rw [he]; simp [Op.operands, hz])) I
  · exact sFieldAddr_ok hs he S (ht _ (by rw [he]; simp [Op.operands]))
  · exact sField_ok hs he S (ht _ (by rw [he]; simp [Op.operands]))
  · exact sIndexAddr_ok hs he S (ht _ (by rw [he]; simp [Op.operands])) (ht _ (by rw [he]; simp [Op.operands])) I
  · exact sIndex_ok hs he S (ht _ (by rw [he]; simp [Op.operands])) (ht _ (by rw [he]; simp [Op.operands])) I
  · exact sExtract_ok hs he S (ht _ (by rw [he]; simp [Op.operands]))
  · exact sCall_ok hs he hE hG S (fun x hx => ht _ (by rw [he]; exact hx)) I
  · cases hs

end
end Gm

/- Regions: what is known of each operation, the steps on pure values having run. -/
namespace Gm
open Go

theorem look_known {η : List PV} {ρ : Rho} {x : Atom} {b : Bool} {v : SV} {u : Value} (h : look η x = some (.bool b)) (hv : VV η ρ v u) : VV η ρ (subC x b v) u := by
  unfold subC
  split
  · rename_i y
    obtain ⟨z, hz, hu⟩ := hv
    split
    · rename_i e
      subst e
      rw [h] at hz; cases hz
      exact ⟨b, rfl, hu⟩
    · exact ⟨z, hz, hu⟩
  · exact hv

/-- a state in which more is known -/
def KnownTo (η : List PV) (s s1 : SSt) : Prop := s1 = s ∨ ∃ x b, look η x = some (.bool b) ∧ s1 = known s x b

theorem KnownTo.pre {η η' : List PV} {s s1 : SSt} (hp : Pre η η') (h : KnownTo η s s1) : KnownTo η' s s1 := by
  rcases h with h | ⟨x, b, h1, h2⟩
  · exact .inl h
  · exact .inr ⟨x, b, look_pre hp h1, h2⟩

theorem KnownTo.hp {η : List PV} {s s1 : SSt} (h : KnownTo η s s1) : s1.hp = s.hp := by
  rcases h with rfl | ⟨x, b, _, rfl⟩ <;> rfl

theorem KnownTo.ne {η : List PV} {s s1 : SSt} (h : KnownTo η s s1) : s1.ne = s.ne := by
  rcases h with rfl | ⟨x, b, _, rfl⟩ <;> rfl

theorem KnownTo.len {η : List PV} {s s1 : SSt} (h : KnownTo η s s1) : s1.tm.length = s.tm.length := by
  rcases h with rfl | ⟨x, b, _, rfl⟩ <;> simp [known]

theorem KnownTo.tm {η : List PV} {s s1 : SSt} (h : KnownTo η s s1) {t : Nat} {sv : SV} (e : s1.tm[t]? = some sv) : ∃ sv0, s.tm[t]? = some sv0 ∧ ∀ ρ u, VV η ρ sv0 u → VV η ρ sv u := by
  rcases h with rfl | ⟨x, b, h1, rfl⟩
  · exact ⟨sv, e, fun _ _ h => h⟩
  · simp only [known, List.getElem?_map, Option.map_eq_some_iff] at e
    obtain ⟨sv0, e1, rfl⟩ := e
    exact ⟨sv0, e1, fun ρ u hv => look_known h1 hv⟩

/-- the frame's slots, read -/
structure TM (η : List PV) (ρ : Rho) (tm : List SV) (a : Act) : Prop where
  size : a.tmps.size = tm.length
  val : ∀ (t : Nat) (sv : SV), tm[t]? = some sv → VV η ρ sv (a.tmps.getD t undef)

theorem TM.up {η η' : List PV} {ρ ρ' : Rho} {tm : List SV} {a : Act} (h : TM η ρ tm a) (hη : Pre η η') (hρ : Ext ρ ρ') : TM η' ρ' tm a :=
  ⟨h.size, fun t sv e => (h.val t sv e).up hη hρ⟩

theorem TM.put {η : List PV} {ρ : Rho} {tm : List SV} {a : Act} {dst : Option Tmp} {v : SV} {u : Value} (h : TM η ρ tm a) (hv : VV η ρ v u) : TM η ρ (putT tm dst v) (a.put dst u) := by
  cases dst with
  | none => exact h
  | some d =>
    refine ⟨by simp [putT, Act.put, h.size], fun t sv e => ?_⟩
    simp only [putT, List.getElem?_set] at e
    simp only [Act.put, Array.getD_eq_getD_getElem?, Array.getElem?_setIfInBounds]
    split at e
    · rename_i q
      subst q
      split at e
      · rename_i hl
        cases e
        rw [if_pos rfl, if_pos (by rw [h.size]; exact hl)]
        exact hv
      · cases e
    · rename_i q
      rw [if_neg q]
      have := h.val t sv e
      simpa [Array.getD_eq_getD_getElem?] using this

theorem TM.known {η : List PV} {ρ : Rho} {s s1 : SSt} {a : Act} (h : TM η ρ s.tm a) (k : KnownTo η s s1) : TM η ρ s1.tm a :=
  ⟨by rw [h.size, k.len], fun t sv e => by obtain ⟨sv0, e0, f⟩ := k.tm e; exact f _ _ (h.val t sv0 e0)⟩

theorem undef_ok {η : List PV} {ρ : Rho} : VV η ρ (.tup []) undef := ⟨#[], rfl, trivial⟩

section
variable {ops : Array Oper} {η : List PV} {ρ : Rho} {s : SSt} {o : Oper} {a : Act}

/-- the slot that a guard looks at -/
def GuardOK (ops : Array Oper) (η : List PV) (ρ : Rho) (s : SSt) (o : Oper) (a : Act) : Prop :=
  ∀ j want d sv, o.guard = some (j, want) → (ops[j]?).bind (·.dst) = some d → s.tm[d]? = some sv → VV η ρ sv (a.tmps.getD d undef)

theorem tmps_get {d : Nat} {v : Value} (h : a.tmps.getD d undef = v) (hv : v ≠ undef) : a.tmps[d]? = some v := by
  rw [Array.getD_eq_getD_getElem?] at h
  cases e : a.tmps[d]? with
  | none => rw [e] at h; exact absurd h.symm hv
  | some x => rw [e] at h; simp at h; rw [h]

theorem wanted_go (h : guardS ops s o = .go) (hg : GuardOK ops η ρ s o a) : Region.wanted o (yielded ops a.tmps) = true := by
  unfold guardS at h
  unfold Region.wanted
  split at h
  · rename_i e; rw [e]
  · rename_i j want e
    rw [e]
    split at h
    · cases h
    · rename_i d hd
      split at h
      · rename_i x hx
        split at h
        · rename_i hw
          subst hw
          obtain ⟨y, hy, hv⟩ := hg j x d _ e hd hx
          cases hy
          have hy2 : yielded ops a.tmps j = some x := by
            unfold yielded
            rw [hd]
            have := tmps_get hv (by simp [undef])
            simp [this]
          simp [hy2]
        · cases h
      · cases h
      · cases h
      · cases h

theorem wanted_skip (h : guardS ops s o = .skip) (hg : GuardOK ops η ρ s o a) : Region.wanted o (yielded ops a.tmps) = false := by
  unfold guardS at h
  unfold Region.wanted
  split at h
  · cases h
  · rename_i j want e
    rw [e]
    split at h
    · cases h
    · rename_i d hd
      split at h
      · rename_i x hx
        split at h
        · cases h
        · rename_i hw
          obtain ⟨y, hy, hv⟩ := hg j want d _ e hd hx
          cases hy
          have hy2 : yielded ops a.tmps j = some x := by
            unfold yielded
            rw [hd]
            have := tmps_get hv (by simp [undef])
            simp [this]
          simp [hy2, hw]
      · cases h
      · rename_i hx
        obtain ⟨vs, hv, hl⟩ := hg j want d _ e hd hx
        have hvs : vs.toList = [] := by
          cases hq : vs.toList with
          | nil => rfl
          | cons _ _ => rw [hq] at hl; exact hl.elim
        have hy2 : yielded ops a.tmps j = none := by
          unfold yielded
          rw [hd]
          simp only [Option.bind_some]
          rw [Array.getD_eq_getD_getElem?] at hv
          cases hq : a.tmps[d]? with
          | none => rfl
          | some z => rw [hq] at hv; simp at hv; subst hv; rfl
        simp [hy2]
      · cases h

theorem guard_ask {x : Atom} {want : Bool} (h : guardS ops s o = .ask x want) : guardS ops (known s x want) o = .go ∧ guardS ops (known s x (!want)) o = .skip := by
  unfold guardS at h
  split at h
  · cases h
  · rename_i j w e
    split at h
    · cases h
    · rename_i d hd
      split at h
      · split at h <;> cases h
      · rename_i y hx
        cases h
        rename_i hne
        have k : ∀ z : Bool, (known s x z).tm[d]? = some (.c (.bool (.b z))) := by
          intro z
          simp [known, hx, subC]
        unfold guardS
        simp [e, hd, k]
      · cases h
      · cases h
end

/-! ### the path that the steps on pure values took -/
section
variable (c : Cfg) (ops : Array Oper) (tb : List PF) (η : List PV)

def nextS (o : Oper) (x : Rec) : SSt :=
  match x.r with
  | some r => after x.s o r
  | none => ⟨putT x.s.tm o.dst (.tup []), x.s.hp, x.s.ne⟩

/-- what one operation did -/
def Did (o : Oper) (x : Rec) : Prop :=
  match x.r with
  | some r => guardS ops x.s o = .go ∧ stepC c.P c.gl c.es c.npin x.s o.op o.type = .ok r ∧ InsOK tb η x.s.ne r.ins
  | none => guardS ops x.s o = .skip

def Chain : SSt → List (Nat × Oper) → List Rec → SSt → Prop
  | s, [], [], s' => s' = s
  | s, (i, o) :: l, x :: xs, s' => x.i = i ∧ KnownTo η s x.s ∧ Did c ops tb η o x ∧ Chain (nextS o x) l xs s'
  | _, _, _, _ => False
end

section
variable {c : Cfg} {ops : Array Oper} {tb : List PF} {η η' : List PV}

theorem InsOK.pre (hp : Pre η η') : ∀ {l : List Ins} {ne : Nat}, InsOK tb η ne l → InsOK tb η' ne l
  | [], _, _ => trivial
  | i :: l, ne, h => by
    obtain ⟨vs, rs, h1, h2, h3, h4, h5⟩ := h
    exact ⟨vs, rs, looks_pre hp h1, h2, h3, fun j x e => hp _ _ (h4 j x e), InsOK.pre hp h5⟩

theorem Did.pre {o : Oper} {x : Rec} (hp : Pre η η') (h : Did c ops tb η o x) : Did c ops tb η' o x := by
  unfold Did at *
  split
  · rename_i r e; rw [e] at h; exact ⟨h.1, h.2.1, h.2.2.pre hp⟩
  · rename_i e; rw [e] at h; exact h

/-- the steps on pure values, run -/
theorem insT_ok : ∀ {is : List Ins} {k : T} {out : Out} {η : List PV}, eval tb (insT is k) η = some out → ∃ e, InsOK tb (η ++ e) η.length is ∧ e.length = insN is ∧ eval tb k (η ++ e) = some out
  | [], k, out, η, h => ⟨[], trivial, rfl, by simpa [insT] using h⟩
  | i :: is, k, out, η, h => by
    simp only [insT, eval] at h
    cases h1 : looks η i.as with
    | none => simp [h1] at h
    | some vs =>
      simp only [h1] at h
      cases h2 : step tb i.p vs with
      | none => simp [h2] at h
      | some rs =>
        simp only [h2] at h
        split at h
        · rename_i hl
          obtain ⟨e, I, hn, he⟩ := insT_ok h
          refine ⟨rs ++ e, ⟨vs, rs, looks_pre (Pre.app _ _) h1, h2, hl, fun j x hx => ?_, ?_⟩, by simp [insN, hl, hn], by rw [← List.append_assoc]; exact he⟩
          · have hj : j < rs.length := (List.getElem?_eq_some_iff.1 hx).1
            rw [List.getElem?_append_right (by omega), show η.length + j - η.length = j by omega, List.getElem?_append_left hj]
            exact hx
          · rw [← List.append_assoc]
            have : (η ++ rs).length = η.length + i.n := by simp [hl]
            rw [this] at I
            exact I
        · cases h

theorem emitOps_ok : ∀ {l : List (Nat × Oper)} {s : SSt} {rs : List Rec} {k : SSt → List Rec → E T} {t : T} {η : List PV} {out : Out}, emitOps c ops l s rs k = .ok t → eval tb t η = some out → η.length = s.ne →
    ∃ xs s' η' t', Pre η η' ∧ η'.length = s'.ne ∧ Chain c ops tb η' s l xs s' ∧ k s' (xs.reverse ++ rs) = .ok t' ∧ eval tb t' η' = some out
  | [], s, rs, k, t, η, out, h, he, hn => ⟨[], s, η, t, Pre.refl _, hn, rfl, by simpa [emitOps] using h, he⟩
  | (i, o) :: l, s, rs, k, t, η, out, h, he, hn => by
    -- one operation done
    have one : ∀ {s1 : SSt} {r : Res} {t1 : T}, KnownTo η s s1 → guardS ops s1 o = .go → stepC c.P c.gl c.es c.npin s1 o.op o.type = .ok r →
        emitOps c ops l (after s1 o r) (⟨i, s1, some r⟩ :: rs) k = .ok t1 → eval tb (insT r.ins t1) η = some out →
        ∃ xs s' η' t', Pre η η' ∧ η'.length = s'.ne ∧ Chain c ops tb η' s ((i, o) :: l) xs s' ∧ k s' (xs.reverse ++ rs) = .ok t' ∧ eval tb t' η' = some out := by
      intro s1 r t1 hk hg hst h1 he1
      obtain ⟨e, I, hl, he2⟩ := insT_ok he1
      obtain ⟨xs, s', η', t', p1, p2, p3, p4, p5⟩ := emitOps_ok h1 he2 (by simp [after, hl, hn, hk.ne])
      have hp := (Pre.app η e).trans p1
      rw [hn, ← hk.ne] at I
      exact ⟨⟨i, s1, some r⟩ :: xs, s', η', t', hp, p2, ⟨rfl, hk.pre hp, ⟨hg, hst, I.pre p1⟩, p3⟩, by simpa using p4, p5⟩
    -- or passed over
    have skip : ∀ {s1 : SSt} {t1 : T}, KnownTo η s s1 → guardS ops s1 o = .skip → emitOps c ops l ⟨putT s1.tm o.dst (.tup []), s1.hp, s1.ne⟩ (⟨i, s1, none⟩ :: rs) k = .ok t1 → eval tb t1 η = some out →
        ∃ xs s' η' t', Pre η η' ∧ η'.length = s'.ne ∧ Chain c ops tb η' s ((i, o) :: l) xs s' ∧ k s' (xs.reverse ++ rs) = .ok t' ∧ eval tb t' η' = some out := by
      intro s1 t1 hk hg h1 he1
      obtain ⟨xs, s', η', t', p1, p2, p3, p4, p5⟩ := emitOps_ok h1 he1 (by simp [hn, hk.ne])
      exact ⟨⟨i, s1, none⟩ :: xs, s', η', t', p1, p2, ⟨rfl, hk.pre p1, hg, p3⟩, by simpa using p4, p5⟩
    simp only [emitOps] at h
    split at h
    · cases h
    · rename_i hg
      exact skip (.inl rfl) hg h he
    · rename_i hg
      split at h
      · cases h
      · rename_i r hst
        replace h := ebind h
        obtain ⟨t1, h1, h⟩ := h
        cases h
        exact one (.inl rfl) hg hst h1 he
    · rename_i x want hg
      split at h
      · obtain ⟨_, h1, _⟩ := ebind h
        cases h1
      rename_i r hst
      replace h := ebind h
      obtain ⟨t2, h2, h⟩ := h
      replace h := ebind h
      obtain ⟨t1, h1, h⟩ := h
      cases h1
      replace h := ebind h
      obtain ⟨t0, h0, h⟩ := h
      obtain ⟨g1, g0⟩ := guard_ask hg
      have asked : ∀ {y z : T}, eval tb (.ite x y z) η = some out → (look η x = some (.bool true) ∧ eval tb y η = some out) ∨ (look η x = some (.bool false) ∧ eval tb z η = some out) := by
        intro y z hh
        simp only [eval] at hh
        split at hh
        · rename_i b hb
          cases b with
          | true => exact .inl ⟨hb, hh⟩
          | false => exact .inr ⟨hb, hh⟩
        · cases hh
      have yes : look η x = some (.bool want) → eval tb (insT r.ins t2) η = some out → ∃ xs s' η' t', Pre η η' ∧ η'.length = s'.ne ∧ Chain c ops tb η' s ((i, o) :: l) xs s' ∧ k s' (xs.reverse ++ rs) = .ok t' ∧ eval tb t' η' = some out := by
        intro hx he1
        exact one (.inr ⟨x, want, hx, rfl⟩) g1 hst h2 he1
      have no : look η x = some (.bool (!want)) → eval tb t0 η = some out → ∃ xs s' η' t', Pre η η' ∧ η'.length = s'.ne ∧ Chain c ops tb η' s ((i, o) :: l) xs s' ∧ k s' (xs.reverse ++ rs) = .ok t' ∧ eval tb t' η' = some out := by
        intro hx he1
        exact skip (.inr ⟨x, !want, hx, rfl⟩) g0 h0 he1
      cases want with
      | true =>
        simp only [if_true] at h
        cases h
        rcases asked he with ⟨q1, q2⟩ | ⟨q1, q2⟩
        · exact yes q1 q2
        · exact no q1 q2
      | false =>
        simp only [Bool.false_eq_true, if_false] at h
        cases h
        rcases asked he with ⟨q1, q2⟩ | ⟨q1, q2⟩
        · exact no q1 q2
        · exact yes q1 q2
end
end Gm

/- Regions whose order is fixed; one operation at its place. -/
namespace Gm
open Go

def valOf (x : Rec) : SV :=
  match x.r with
  | some r => r.val
  | none => .tup []

def endHp (x : Rec) : List (Option SB) :=
  match x.r with
  | some r => r.hp
  | none => x.s.hp

theorem nextS_hp {o : Oper} {x : Rec} : (nextS o x).hp = endHp x := by
  unfold nextS endHp; cases x.r <;> rfl

theorem nextS_tm {o : Oper} {x : Rec} : (nextS o x).tm = putT x.s.tm o.dst (valOf x) := by
  unfold nextS valOf; cases x.r <;> rfl

section
variable {c : Cfg} {ops : Array Oper} {tb : List PF} {η : List PV} {C : Ctx} {ρ ρ0 : Rho} {h : Hp} {a : Act} {w : World} {o : Oper} {x : Rec}

theorem Did.len (hd : Did c ops tb η o x) : x.s.hp.length ≤ (endHp x).length := by
  unfold Did at hd
  unfold endHp
  split
  · rename_i r e
    rw [e] at hd
    obtain ⟨_, h2, _⟩ := hd
    unfold stepC at h2
    split at h2
    · split at h2
      · cases h2; assumption
      · cases h2
    · cases h2
  · exact Nat.le_refl _

theorem Did.step {i : Nat} (hd : Did c ops tb η o x) (hi : ops[i]? = some o) (hE : Ents c.P c.gl c.es tb) (hG : GL c.gl C) (H : HR η ρ h w) (F : FR C ρ h w)
    (hag : ∀ b ∈ rdOf x.r, h b = hpf x.s.hp b) (hfr : ∀ b, x.s.hp.length ≤ b → b < (endHp x).length → ρ b = none ∧ h b = none)
    (hlook : ∀ t ∈ looks_ ops o, ∀ sv, x.s.tm[t]? = some sv → VV η ρ sv (a.tmps.getD t undef)) {K : Act → World → Prop} {Q : Exit → Act → World → Prop}
    (hK : ∀ cv w' ρ', VV η ρ' (valOf x) cv → Mid C η ρ h x.s.hp (endHp x) w' ρ' → K (a.put o.dst cv) w') : wpOp c.P ops Q i K a w := by
  have hgd : GuardOK ops η ρ x.s o a := by
    intro j want d sv h1 h2 h3
    refine hlook d ?_ sv h3
    unfold looks_
    rw [h1]
    simp [h2]
  unfold wpOp
  simp only [hi]
  unfold Did at hd
  split at hd
  · rename_i r e
    obtain ⟨g, hs, I⟩ := hd
    rw [wanted_go g hgd]
    simp only [if_true]
    refine .inl ?_
    unfold stepC at hs
    split at hs
    · rename_i r' hs'
      split at hs
      · cases hs
        have S : St C η ρ h x.s r w := ⟨H, F, fun b hb => hag b (by unfold rdOf; rw [e]; exact hb), fun b q1 q2 => hfr b q1 (by unfold endHp; rw [e]; exact q2)⟩
        refine stepO_ok hs' hE hG S (fun y hy t sv q1 q2 => ?_) I K Q (fun cv w' R => ?_)
        · subst q1
          refine hlook t ?_ sv q2
          unfold looks_ tmpsOf
          refine List.mem_append_left _ (List.mem_filterMap.2 ⟨.tmp t, by simpa using hy, rfl⟩)
        · rw [Post.iff] at R
          obtain ⟨ρ', r1, r2⟩ := R
          refine hK cv w' ρ' ?_ ?_
          · unfold valOf; rw [e]; exact r1
          · unfold endHp; rw [e]; exact r2
      · cases hs
    · cases hs
  · rename_i e
    rw [wanted_skip hd hgd]
    simp only [Bool.false_eq_true, if_false]
    refine hK undef w ρ ?_ ?_
    · unfold valOf; rw [e]; exact undef_ok
    · unfold endHp; rw [e]; exact Mid.refl H F

/-- what holds between operations -/
structure Inv (C : Ctx) (η : List PV) (npin : Nat) (ρ0 : Rho) (s : SSt) (a : Act) (w : World) (ρ : Rho) : Prop where
  hr : HR η ρ (hpf s.hp) w
  fr : FR C ρ (hpf s.hp) w
  tm : TM η ρ s.tm a
  top : ∀ b, s.hp.length ≤ b → ρ b = none
  pin : ∀ b rb, b < npin → ρ0 b = some rb → ρ b = some rb
  df : a.defers = []

theorem Inv.known {npin : Nat} {s s1 : SSt} (I : Inv C η npin ρ0 s a w ρ) (k : KnownTo η s s1) : Inv C η npin ρ0 s1 a w ρ :=
  ⟨by rw [k.hp]; exact I.hr, by rw [k.hp]; exact I.fr, I.tm.known k, by rw [k.hp]; exact I.top, I.pin, I.df⟩

theorem Inv.pre {η' : List PV} {npin : Nat} {s : SSt} (I : Inv C η npin ρ0 s a w ρ) (hp : Pre η η') : Inv C η' npin ρ0 s a w ρ :=
  ⟨I.hr.up hp (Ext.refl _) (Nat.le_refl _) (fun _ _ => rfl), I.fr, I.tm.up hp (Ext.refl _), I.top, I.pin, I.df⟩

theorem put_defers' {dst : Option Tmp} {v : Value} : (a.put dst v).defers = a.defers := by cases dst <;> rfl

theorem Inv.next {npin : Nat} {s : SSt} {cv : Value} {w' : World} {ρ' : Rho} (I : Inv C η npin ρ0 x.s a w ρ) (hv : VV η ρ' (valOf x) cv) (m : Mid C η ρ (hpf x.s.hp) x.s.hp (endHp x) w' ρ') (hl : x.s.hp.length ≤ (endHp x).length) (e : s = nextS o x) :
    Inv C η npin ρ0 s (a.put o.dst cv) w' ρ' := by
  subst e
  refine ⟨?_, ?_, ?_, fun b hb => ?_, fun b rb h1 h2 => m.ext _ _ (I.pin b rb h1 h2), by rw [put_defers']; exact I.df⟩
  · rw [nextS_hp]; have := m.hr; rwa [upd_hpf] at this
  · rw [nextS_hp]; have := m.fr; rwa [upd_hpf] at this
  · rw [nextS_tm]; exact (I.tm.up (Pre.refl _) m.ext).put hv
  · rw [nextS_hp] at hb
    by_cases q : ρ' b = ρ b
    · rw [q]; exact I.top b (by omega)
    · have := m.dom b q; omega

theorem ord_ok {npin : Nat} (hE : Ents c.P c.gl c.es tb) (hG : GL c.gl C) {Q : Exit → Act → World → Prop} : ∀ {l : List (Nat × Oper)} {s s' : SSt} {xs : List Rec} {a : Act} {w : World} {ρ : Rho}, Chain c ops tb η s l xs s' →
    (∀ p ∈ l, ops[p.1]? = some p.2) → Inv C η npin ρ0 s a w ρ → (∀ a w ρ, Inv C η npin ρ0 s' a w ρ → Q .normal a w) → wpOps c.P ops Q (l.map (·.1)) a w
  | [], s, s', [], a, w, ρ, ch, _, I, hQ => by
    have e : s' = s := ch
    subst e
    exact hQ a w ρ I
  | [], s, s', _ :: _, a, w, ρ, ch, _, I, hQ => ch.elim
  | (i, o) :: l, s, s', [], a, w, ρ, ch, _, I, hQ => ch.elim
  | (i, o) :: l, s, s', x :: xs, a, w, ρ, ch, hl, I, hQ => by
    obtain ⟨h1, h2, h3, h4⟩ := ch
    have I1 := I.known h2
    rw [List.map_cons, wpOps_cons]
    refine h3.step (hl (i, o) (by simp)) hE hG I1.hr I1.fr (fun _ _ => rfl) (fun b q1 q2 => ⟨I1.top b q1, hpf_ge q1⟩) (fun t _ sv q => I1.tm.val t sv q) (fun cv w' ρ' q1 q2 => ?_)
    exact ord_ok hE hG h4 (fun p hp => hl p (by simp [hp])) (I1.next q1 q2 h3.len rfl) hQ

end
end Gm

/- Regions whose order is drawn. -/
namespace Gm
open Go

/-! ### which operations come first in every order -/
section
variable {ops : Array Oper} {D : Nat → Bool}

theorem bits_fold (acc : Array Nat) : ∀ (l : List Edge) (s0 k : Nat), (l.foldl (fun s e => if Region.binds .any e then s ||| 2 ^ e.on ||| acc.getD e.on 0 else s) s0).testBit k = true →
    s0.testBit k = true ∨ ∃ e ∈ l, Region.binds .any e = true ∧ (k = e.on ∨ (acc.getD e.on 0).testBit k = true)
  | [], s0, k, h => .inl h
  | e :: l, s0, k, h => by
    rw [List.foldl_cons] at h
    rcases bits_fold acc l _ k h with q | ⟨e', h1, h2, h3⟩
    · split at q
      · rename_i hb
        rw [Nat.testBit_or, Nat.testBit_or, Bool.or_eq_true, Bool.or_eq_true] at q
        rcases q with (q | q) | q
        · exact .inl q
        · rw [Nat.testBit_two_pow, decide_eq_true_eq] at q
          exact .inr ⟨e, by simp, hb, .inl q.symm⟩
        · exact .inr ⟨e, by simp, hb, .inr q⟩
      · exact .inl q
    · exact .inr ⟨e', by simp [h1], h2, h3⟩

/-- all the edges of an operation lead into a set -/
def EdgesIn (D : Nat → Bool) (o : Oper) : Prop := ∀ e ∈ o.after, Region.binds .any e = true → D e.on = true

theorem before_go (hcl : ∀ (i : Nat) (o : Oper), ops[i]? = some o → D i = true → EdgesIn D o) : ∀ (l : List Oper) (acc : Array Nat), (∀ (n : Nat) (o : Oper), l[n]? = some o → ops[acc.size + n]? = some o) →
    (∀ (i : Nat) (o : Oper), i < acc.size → ops[i]? = some o → EdgesIn D o → ∀ k, (acc.getD i 0).testBit k = true → D k = true) → acc.size ≤ ops.size →
    ∀ (i : Nat) (o : Oper), i < acc.size + l.length → ops[i]? = some o → EdgesIn D o → ∀ k,
      ((l.foldl (fun acc o => acc.push (o.after.foldl (fun s e => if Region.binds .any e then s ||| 2 ^ e.on ||| acc.getD e.on 0 else s) 0)) acc).getD i 0).testBit k = true → D k = true
  | [], acc, _, h, _, i, o, hi, ho, hD, k, hk => h i o (by simpa using hi) ho hD k (by simpa using hk)
  | o1 :: l, acc, hl, h, hsz, i, o, hi, ho, hD, k, hk => by
    rw [List.foldl_cons] at hk
    refine before_go hcl l _ (fun n p hp => ?_) (fun j p hj hp hDp k hk => ?_) ?_ i o (by simp at hi ⊢; omega) ho hD k hk
    · have := hl (n + 1) p (by simpa using hp)
      rw [Array.size_push, show acc.size + 1 + n = acc.size + (n + 1) by omega]; exact this
    · rw [Array.size_push] at hj
      rcases Nat.lt_or_ge j acc.size with q | q
      · refine h j p q hp hDp k ?_
        rw [Array.getD_eq_getD_getElem?, Array.getElem?_push_lt q] at hk
        rw [Array.getD_eq_getD_getElem?, Array.getElem?_eq_getElem q]
        exact hk
      · have hje : j = acc.size := by omega
        subst hje
        have h1 := hl 0 o1 rfl
        rw [Nat.add_zero, hp] at h1; cases h1
        rw [Array.getD_eq_getD_getElem?, Array.getElem?_push_size] at hk
        simp only [Option.getD_some] at hk
        rw [← Array.foldl_toList] at hk
        rcases bits_fold acc o1.after.toList 0 k hk with z | ⟨e, e1, e2, e3⟩
        · simp at z
        · have hDe := hDp e (by simpa using e1) e2
          rcases e3 with rfl | e3
          · exact hDe
          · rcases Nat.lt_or_ge e.on acc.size with q2 | q2
            · have hlt : e.on < ops.size := by omega
              exact h e.on _ q2 (Array.getElem?_eq_getElem hlt) (hcl e.on _ (Array.getElem?_eq_getElem hlt) hDe) k e3
            · rw [Array.getD_eq_getD_getElem?, Array.getElem?_eq_none q2] at e3
              simp at e3
    · rw [Array.size_push]
      have h1 := hl 0 o1 rfl
      have := (Array.getElem?_eq_some_iff.1 h1).1
      omega

theorem before_ok (hcl : ∀ (i : Nat) (o : Oper), ops[i]? = some o → D i = true → EdgesIn D o) {i : Nat} {o : Oper} (ho : ops[i]? = some o) (hD : EdgesIn D o) {k : Nat} (hk : ((Region.before ops).getD i 0).testBit k = true) : D k = true := by
  unfold Region.before at hk
  rw [← Array.foldl_toList] at hk
  refine before_go hcl ops.toList #[] (fun n p hp => by simpa using hp) (fun i o hi => by simp at hi) (by simp) i o ?_ ho hD k hk
  have := (Array.getElem?_eq_some_iff.1 ho).1
  simpa using this

theorem back_ok (h : backEdges ops = true) {i : Nat} {o : Oper} (ho : ops[i]? = some o) {e : Edge} (he : e ∈ o.after) (hb : Region.binds .any e = true) : e.on < i := by
  unfold backEdges at h
  have hm : (o, i) ∈ ops.toList.zipIdx := by
    rw [List.mem_iff_getElem?]
    exact ⟨i, by simp [List.getElem?_zipIdx, ho]⟩
  have h1 := List.all_eq_true.1 h _ hm
  have h2 := List.all_eq_true.1 h1 e (by simpa using he)
  simpa [hb] using h2
end

/-! ### two operations that don't meet -/
section
variable {ops : Array Oper}

def Changed (x : Rec) (b : Nat) : Prop := hpf (endHp x) b ≠ hpf x.s.hp b

theorem touched_of {x : Rec} (hl : x.s.hp.length ≤ (endHp x).length) {b : Nat} (h : Changed x b ∨ (x.s.hp.length ≤ b ∧ b < (endHp x).length)) : b ∈ touched x.s x.r := by
  unfold Changed endHp at *
  unfold touched
  cases hr : x.r with
  | none =>
    rw [hr] at h
    rcases h with h | h
    · exact absurd rfl h
    · have := h.2; simp only at this; omega
  | some r =>
    rw [hr] at h hl
    simp only at h hl ⊢
    rw [List.mem_filter, List.mem_range]
    rcases h with h | h
    · refine ⟨?_, by simp [Ne.symm h]⟩
      rcases Nat.lt_or_ge b r.hp.length with q | q
      · exact q
      · rw [hpf_ge q, hpf_ge (by omega)] at h; exact absurd rfl h
    · exact ⟨h.2, by simp [h.1]⟩

structure Free (ops : Array Oper) (x y : Rec) (o p : Oper) : Prop where
  d1 : ∀ d, o.dst = some d → d ∉ looks_ ops p ∧ p.dst ≠ some d
  d2 : ∀ d, p.dst = some d → d ∉ looks_ ops o
  t1 : ∀ b ∈ touched x.s x.r, b ∉ touched y.s y.r ∧ b ∉ rdOf y.r
  t2 : ∀ b ∈ touched y.s y.r, b ∉ rdOf x.r

theorem free_ok {x y : Rec} {o p : Oper} (h : free ops x y = true) (hx : ops[x.i]? = some o) (hy : ops[y.i]? = some p) : Free ops x y o p := by
  unfold free at h
  rw [hx, hy] at h
  simp only [Bool.and_eq_true] at h
  obtain ⟨⟨h1, h2⟩, h3⟩ := h
  refine ⟨fun d hd => ?_, fun d hd => ?_, fun b hb => ?_, fun b hb => ?_⟩
  · rw [hd] at h1; simpa using h1
  · rw [hd] at h2; simpa using h2
  · have := List.all_eq_true.1 h3.1 b hb; simpa using this
  · have := List.all_eq_true.1 h3.2 b hb; simpa using this

theorem freeAll_at {bits : Array Nat} : ∀ {xs1 : List Rec} {x : Rec} {xs2 : List Rec}, freeAll ops bits (xs1 ++ x :: xs2) = true →
    (∀ y ∈ xs1, (bits.getD x.i 0).testBit y.i = true ∨ free ops y x = true) ∧ (∀ y ∈ xs2, (bits.getD y.i 0).testBit x.i = true ∨ free ops x y = true)
  | [], x, xs2, h => by
    simp only [List.nil_append, freeAll, Bool.and_eq_true] at h
    refine ⟨by simp, fun y hy => ?_⟩
    have := List.all_eq_true.1 h.1 y hy
    simpa using this
  | z :: xs1, x, xs2, h => by
    simp only [List.cons_append, freeAll, Bool.and_eq_true] at h
    obtain ⟨h1, h2⟩ := freeAll_at h.2
    refine ⟨fun y hy => ?_, h2⟩
    rcases List.mem_cons.1 hy with rfl | hy
    · have := List.all_eq_true.1 h.1 x (by simp)
      simpa using this
    · exact h1 y hy
end

/-! ### the state when some operations are done -/
section
variable (ops : Array Oper) (D : Nat → Bool)

def hD : List Rec → Hp → Hp
  | [], h => h
  | x :: l, h => hD l (if D x.i then upd h x.s.hp (endHp x) else h)

def dstOf (x : Rec) : Option Tmp := (ops[x.i]?).bind (·.dst)

def tD : List Rec → List SV → List SV
  | [], tm => tm
  | x :: l, tm => tD l (if D x.i then putT tm (dstOf ops x) (valOf x) else tm)
end

section
variable {c : Cfg} {ops : Array Oper} {tb : List PF} {η : List PV} {D D' : Nat → Bool}

theorem putT_len {tm : List SV} {dst : Option Tmp} {v : SV} : (putT tm dst v).length = tm.length := by cases dst <;> simp [putT]

theorem tD_len : ∀ {xs : List Rec} {tm : List SV}, (tD ops D xs tm).length = tm.length
  | [], _ => rfl
  | x :: l, tm => by simp only [tD]; rw [tD_len]; split <;> simp [putT_len]

theorem hD_app {xs ys : List Rec} : ∀ {h : Hp}, hD D (xs ++ ys) h = hD D ys (hD D xs h) := by
  induction xs with
  | nil => intro h; rfl
  | cons x l ih => intro h; simp only [List.cons_append, hD]; exact ih

theorem tD_app {xs ys : List Rec} : ∀ {tm : List SV}, tD ops D (xs ++ ys) tm = tD ops D ys (tD ops D xs tm) := by
  induction xs with
  | nil => intro h; rfl
  | cons x l ih => intro h; simp only [List.cons_append, tD]; exact ih

theorem hD_cong : ∀ {xs : List Rec} {h : Hp}, (∀ x ∈ xs, D x.i = D' x.i) → hD D xs h = hD D' xs h
  | [], _, _ => rfl
  | x :: l, h, e => by simp only [hD, e x (by simp)]; exact hD_cong (fun y hy => e y (by simp [hy]))

theorem tD_cong : ∀ {xs : List Rec} {tm : List SV}, (∀ x ∈ xs, D x.i = D' x.i) → tD ops D xs tm = tD ops D' xs tm
  | [], _, _ => rfl
  | x :: l, h, e => by simp only [tD, e x (by simp)]; exact tD_cong (fun y hy => e y (by simp [hy]))

theorem hD_keep {b : Nat} : ∀ {xs : List Rec} {h : Hp}, (∀ x ∈ xs, D x.i = true → ¬ Changed x b) → hD D xs h b = h b
  | [], _, _ => rfl
  | x :: l, h, e => by
    simp only [hD]
    rw [hD_keep (fun y hy => e y (by simp [hy]))]
    split
    · rename_i q
      have := e x (by simp) q
      unfold Changed at this
      unfold upd
      rw [if_pos (by simpa using this)]
    · rfl

theorem putT_ne {tm : List SV} {dst : Option Tmp} {v : SV} {t : Nat} (h : dst ≠ some t) : (putT tm dst v)[t]? = tm[t]? := by
  cases dst with
  | none => rfl
  | some d => simp only [putT, List.getElem?_set]; rw [if_neg (fun q => h (by rw [q]))]

theorem tD_keep {t : Nat} : ∀ {xs : List Rec} {tm : List SV}, (∀ x ∈ xs, D x.i = true → dstOf ops x ≠ some t) → (tD ops D xs tm)[t]? = tm[t]?
  | [], _, _ => rfl
  | x :: l, tm, e => by
    simp only [tD]
    rw [tD_keep (fun y hy => e y (by simp [hy]))]
    split
    · rename_i q
      exact putT_ne (e x (by simp) q)
    · rfl

theorem hD_point {b : Nat} : ∀ {xs : List Rec} {h h' : Hp}, h b = h' b → hD D xs h b = hD D xs h' b
  | [], _, _, e => e
  | x :: l, h, h', e => by
    simp only [hD]
    refine hD_point ?_
    split
    · unfold upd; rw [e]
    · exact e

theorem tD_point {t : Nat} : ∀ {xs : List Rec} {tm tm' : List SV}, tm.length = tm'.length → tm[t]? = tm'[t]? → (tD ops D xs tm)[t]? = (tD ops D xs tm')[t]?
  | [], _, _, _, e => e
  | x :: l, tm, tm', hl, e => by
    simp only [tD]
    split
    · refine tD_point (by simp [putT_len, hl]) ?_
      cases dstOf ops x with
      | none => exact e
      | some d => simp only [putT, List.getElem?_set, hl, e]
    · exact tD_point hl e

/-- up to a place in the text -/
theorem agree_h : ∀ {l : List (Nat × Oper)} {s s' : SSt} {xs : List Rec} {h : Hp} {b : Nat}, Chain c ops tb η s l xs s' → (∀ x ∈ xs, D x.i = false → ¬ Changed x b) → h b = hpf s.hp b → hD D xs h b = hpf s'.hp b
  | [], s, s', [], h, b, ch, _, e => by
    have q : s' = s := ch
    subst q; exact e
  | [], s, s', _ :: _, _, _, ch, _, _ => ch.elim
  | (i, o) :: l, s, s', [], _, _, ch, _, _ => ch.elim
  | (i, o) :: l, s, s', x :: xs, h, b, ch, hx, e => by
    obtain ⟨h1, h2, h3, h4⟩ := ch
    simp only [hD]
    refine agree_h h4 (fun y hy => hx y (by simp [hy])) ?_
    rw [nextS_hp]
    have e' : h b = hpf x.s.hp b := by rw [e, h2.hp]
    split
    · unfold upd
      split
      · rename_i q; rw [e', q]
      · rfl
    · rename_i q
      have := hx x (by simp) (by simpa using q)
      unfold Changed at this
      simp only [ne_eq, Decidable.not_not] at this
      rw [e', this]

theorem agree_t {t : Nat} : ∀ {l : List (Nat × Oper)} {s s' : SSt} {xs : List Rec} {tm : List SV}, Chain c ops tb η s l xs s' → (∀ p ∈ l, ops[p.1]? = some p.2) → (∀ x ∈ xs, D x.i = false → dstOf ops x ≠ some t) → tm.length = s.tm.length →
    (∀ sv, s.tm[t]? = some sv → ∃ sv0, tm[t]? = some sv0 ∧ ∀ ρ u, VV η ρ sv0 u → VV η ρ sv u) → ∀ sv, s'.tm[t]? = some sv → ∃ sv0, (tD ops D xs tm)[t]? = some sv0 ∧ ∀ ρ u, VV η ρ sv0 u → VV η ρ sv u
  | [], s, s', [], tm, ch, _, _, _, e => by
    have q : s' = s := ch
    subst q; exact e
  | [], s, s', _ :: _, _, ch, _, _, _, _ => ch.elim
  | (i, o) :: l, s, s', [], _, ch, _, _, _, _ => ch.elim
  | (i, o) :: l, s, s', x :: xs, tm, ch, hl, hx, hlen, e => by
    obtain ⟨h1, h2, h3, h4⟩ := ch
    have hdst : dstOf ops x = o.dst := by
      unfold dstOf
      rw [h1, hl (i, o) (by simp)]
      rfl
    simp only [tD]
    have e' : ∀ sv, x.s.tm[t]? = some sv → ∃ sv0, tm[t]? = some sv0 ∧ ∀ ρ u, VV η ρ sv0 u → VV η ρ sv u := by
      intro sv q
      obtain ⟨sv1, q1, q2⟩ := h2.tm q
      obtain ⟨sv0, q3, q4⟩ := e sv1 q1
      exact ⟨sv0, q3, fun ρ u hv => q2 ρ u (q4 ρ u hv)⟩
    refine agree_t h4 (fun p hp => hl p (by simp [hp])) (fun y hy => hx y (by simp [hy])) ?_ (fun sv q => ?_)
    · rw [nextS_tm, putT_len, h2.len]
      split <;> simp [putT_len, hlen]
    · rw [nextS_tm] at q
      split
      · rw [hdst]
        cases ho : o.dst with
        | none => rw [ho] at q; exact e' sv q
        | some d =>
          rw [ho] at q
          simp only [putT, List.getElem?_set] at q ⊢
          split at q
          · rename_i hd
            rw [if_pos hd]
            split at q
            · rename_i hlt
              cases q
              rw [if_pos (by rw [hlen, ← h2.len]; exact hlt)]
              exact ⟨_, rfl, fun _ _ h => h⟩
            · cases q
          · rename_i hd
            rw [if_neg hd]
            exact e' sv q
      · rename_i hDx
        have hne := hx x (by simp) (by simpa using hDx)
        rw [hdst] at hne
        rw [putT_ne hne] at q
        exact e' sv q

/-- a chain, parted -/
theorem Chain.part : ∀ {l : List (Nat × Oper)} {s s' : SSt} {xs : List Rec} {i : Nat}, Chain c ops tb η s l xs s' → (∃ o, (i, o) ∈ l) →
    ∃ l1 o l2 xs1 x xs2 s1, l = l1 ++ (i, o) :: l2 ∧ xs = xs1 ++ x :: xs2 ∧ Chain c ops tb η s l1 xs1 s1 ∧ KnownTo η s1 x.s ∧ Did c ops tb η o x ∧ x.i = i ∧ Chain c ops tb η (nextS o x) l2 xs2 s'
  | [], s, s', [], i, ch, ⟨o, h⟩ => by cases h
  | [], s, s', _ :: _, i, ch, _ => ch.elim
  | (_, _) :: _, s, s', [], i, ch, _ => ch.elim
  | (j, p) :: l, s, s', x :: xs, i, ch, ⟨o, h⟩ => by
    obtain ⟨h1, h2, h3, h4⟩ := ch
    by_cases hij : i = j
    · subst hij
      exact ⟨[], p, l, [], x, xs, s, rfl, rfl, rfl, h2, h3, h1, h4⟩
    · have hm : (i, o) ∈ l := by
        rcases List.mem_cons.1 h with q | q
        · cases q; exact absurd rfl hij
        · exact q
      obtain ⟨l1, o', l2, xs1, y, xs2, s1, e1, e2, e3, e4, e5, e6, e7⟩ := h4.part ⟨o, hm⟩
      exact ⟨(j, p) :: l1, o', l2, x :: xs1, y, xs2, s1, by rw [e1]; rfl, by rw [e2]; rfl, ⟨h1, h2, h3, e3⟩, e4, e5, e6, e7⟩

theorem Chain.mem : ∀ {l : List (Nat × Oper)} {s s' : SSt} {xs : List Rec} {x : Rec}, Chain c ops tb η s l xs s' → x ∈ xs → ∃ o, (x.i, o) ∈ l ∧ s.hp.length ≤ x.s.hp.length ∧ x.s.hp.length ≤ (endHp x).length ∧ (endHp x).length ≤ s'.hp.length
  | [], s, s', [], x, ch, h => by cases h
  | [], s, s', _ :: _, x, ch, _ => ch.elim
  | (_, _) :: _, s, s', [], x, ch, h => by cases h
  | (j, p) :: l, s, s', y :: xs, x, ch, h => by
    obtain ⟨h1, h2, h3, h4⟩ := ch
    have hy := h3.len
    have hs : y.s.hp.length = s.hp.length := by rw [h2.hp]
    have hmono := Chain.mono h4
    rw [nextS_hp] at hmono
    rcases List.mem_cons.1 h with rfl | q
    · exact ⟨p, by simp [h1], by omega, hy, hmono⟩
    · obtain ⟨o, q1, q2, q3, q4⟩ := h4.mem q
      rw [nextS_hp] at q2
      exact ⟨o, by simp [q1], by omega, q3, q4⟩
  where
  Chain.mono : ∀ {l : List (Nat × Oper)} {s s' : SSt} {xs : List Rec}, Chain c ops tb η s l xs s' → s.hp.length ≤ s'.hp.length
    | [], s, s', [], ch => by
      have q : s' = s := ch
      subst q; exact Nat.le_refl _
    | [], s, s', _ :: _, ch => ch.elim
    | (_, _) :: _, s, s', [], ch => ch.elim
    | (j, p) :: l, s, s', y :: xs, ch => by
      obtain ⟨h1, h2, h3, h4⟩ := ch
      have hy := h3.len
      have hs : y.s.hp.length = s.hp.length := by rw [h2.hp]
      have := Chain.mono h4
      rw [nextS_hp] at this
      omega

theorem Chain.tmlen : ∀ {l : List (Nat × Oper)} {s s' : SSt} {xs : List Rec}, Chain c ops tb η s l xs s' → s'.tm.length = s.tm.length
  | [], s, s', [], ch => by
    have q : s' = s := ch
    subst q; rfl
  | [], s, s', _ :: _, ch => ch.elim
  | (_, _) :: _, s, s', [], ch => ch.elim
  | (j, p) :: l, s, s', y :: xs, ch => by
    obtain ⟨h1, h2, h3, h4⟩ := ch
    rw [h4.tmlen, nextS_tm, putT_len, h2.len]
end
end Gm

/- Regions whose order is drawn: every order leads to the same state. -/
namespace Gm
open Go

section
variable {c : Cfg} {ops : Array Oper} {tb : List PF} {η : List PV} {C : Ctx} {ρ0 : Rho} {s0 s' : SSt} {xs : List Rec} {npin : Nat}

/-- what holds when some operations are done -/
structure Some_ (C : Ctx) (η : List PV) (npin : Nat) (ρ0 : Rho) (ops : Array Oper) (s0 : SSt) (xs : List Rec) (D : Nat → Bool) (a : Act) (w : World) (ρ : Rho) : Prop where
  hr : HR η ρ (hD D xs (hpf s0.hp)) w
  fr : FR C ρ (hD D xs (hpf s0.hp)) w
  tm : TM η ρ (tD ops D xs s0.tm) a
  top : ∀ b, s0.hp.length ≤ b → ρ b ≠ none → ∃ x ∈ xs, D x.i = true ∧ x.s.hp.length ≤ b ∧ b < (endHp x).length
  pin : ∀ b rb, b < npin → ρ0 b = some rb → ρ b = some rb
  df : a.defers = []

def DL (listed : Array Bool) (j : Nat) : Bool := listed.getD j false

theorem hD_false {D : Nat → Bool} {xs1 xs2 : List Rec} {x : Rec} {h : Hp} (hx : D x.i = false) : hD D (xs1 ++ x :: xs2) h = hD D xs2 (hD D xs1 h) := by
  rw [hD_app]; simp [hD, hx]

theorem hD_true {D : Nat → Bool} {xs1 xs2 : List Rec} {x : Rec} {h : Hp} (hx : D x.i = true) : hD D (xs1 ++ x :: xs2) h = hD D xs2 (upd (hD D xs1 h) x.s.hp (endHp x)) := by
  rw [hD_app]; simp [hD, hx]

theorem tD_false {ops : Array Oper} {D : Nat → Bool} {xs1 xs2 : List Rec} {x : Rec} {tm : List SV} (hx : D x.i = false) : tD ops D (xs1 ++ x :: xs2) tm = tD ops D xs2 (tD ops D xs1 tm) := by
  rw [tD_app]; simp [tD, hx]

theorem tD_true {ops : Array Oper} {D : Nat → Bool} {xs1 xs2 : List Rec} {x : Rec} {tm : List SV} (hx : D x.i = true) : tD ops D (xs1 ++ x :: xs2) tm = tD ops D xs2 (putT (tD ops D xs1 tm) (dstOf ops x) (valOf x)) := by
  rw [tD_app]; simp [tD, hx]

theorem Some_.last {l : List (Nat × Oper)} {D : Nat → Bool} {a : Act} {w : World} {ρ : Rho} (J : Some_ C η npin ρ0 ops s0 xs D a w ρ) (ch : Chain c ops tb η s0 l xs s') (hl : ∀ p ∈ l, ops[p.1]? = some p.2) (hall : ∀ x ∈ xs, D x.i = true) :
    Inv C η npin ρ0 s' a w ρ := by
  have eh : hD D xs (hpf s0.hp) = hpf s'.hp := by
    funext b
    exact agree_h ch (fun x hx q => by rw [hall x hx] at q; cases q) rfl
  refine ⟨by rw [← eh]; exact J.hr, by rw [← eh]; exact J.fr, ⟨by rw [J.tm.size, tD_len, ch.tmlen], fun t sv e => ?_⟩, fun b hb => ?_, J.pin, J.df⟩
  · obtain ⟨sv0, e0, f⟩ := agree_t (D := D) ch hl (fun x hx q => by rw [hall x hx] at q; cases q) rfl (fun sv q => ⟨sv, q, fun _ _ h => h⟩) sv e
    exact f _ _ (J.tm.val t sv0 e0)
  · cases hr : ρ b with
    | none => rfl
    | some rb =>
      have hm := Chain.mem.Chain.mono ch
      obtain ⟨x, hx, _, _, hlt⟩ := J.top b (by omega) (by rw [hr]; simp)
      obtain ⟨_, _, _, _, h4⟩ := ch.mem hx
      omega

theorem any_ok {l : List (Nat × Oper)} (hE : Ents c.P c.gl c.es tb) (hG : GL c.gl C) (ch : Chain c ops tb η s0 l xs s') (hl : ∀ p ∈ l, ops[p.1]? = some p.2) (hlall : ∀ i o, ops[i]? = some o → (i, o) ∈ l)
    (hnd : (l.map (·.1)).Nodup) (hback : backEdges ops = true) (hfree : freeAll ops (Region.before ops) xs = true) {Q : Exit → Act → World → Prop} (hQ : ∀ a w ρ, Inv C η npin ρ0 s' a w ρ → Q .normal a w) :
    ∀ (fuel : Nat) (listed : Array Bool) (a : Act) (w : World) (ρ : Rho), listed.size = ops.size → (listed.toList.filter (fun b => !b)).length ≤ fuel →
      (∀ (i : Nat) (o : Oper), ops[i]? = some o → DL listed i = true → EdgesIn (DL listed) o) →
      Some_ C η npin ρ0 ops s0 xs (DL listed) a w ρ → wpAny c.P .any ops Q fuel listed a w := by
  -- nothing is ready: all is done
  have done : ∀ (listed : Array Bool) (a : Act) (w : World) (ρ : Rho), listed.size = ops.size → Region.ready .any ops listed = [] → Some_ C η npin ρ0 ops s0 xs (DL listed) a w ρ → Q .normal a w := by
    intro listed a w ρ hsz hr J
    have all : ∀ n i, i < n → i < ops.size → listed.getD i true = true := by
      intro n
      induction n with
      | zero => intro i hi; omega
      | succ n ih =>
        intro i hi hs
        cases hv : listed.getD i true with
        | true => rfl
        | false =>
          have hm : i ∈ Region.ready .any ops listed := by
            rw [mem_ready]
            refine ⟨hv, ops[i], Array.getElem?_eq_getElem hs, fun e he hb => ?_⟩
            have hlt := back_ok hback (Array.getElem?_eq_getElem hs) he hb
            have := ih e.on (by omega) (by omega)
            have hl2 : e.on < listed.size := by omega
            simpa [Array.getD, hl2] using this
          rw [hr] at hm; cases hm
    refine hQ a w ρ (J.last ch hl fun x hx => ?_)
    obtain ⟨o, h1, _⟩ := ch.mem hx
    have h2 := hl _ h1
    have h3 := (Array.getElem?_eq_some_iff.1 h2).1
    have := all (x.i + 1) x.i (by omega) h3
    have hl2 : x.i < listed.size := by omega
    simpa [DL, Array.getD, hl2] using this
  intro fuel
  induction fuel with
  | zero =>
    intro listed a w ρ hsz hcnt hcl J
    have hr : Region.ready .any ops listed = [] := by
      cases hq : Region.ready .any ops listed with
      | nil => rfl
      | cons i rest =>
        have hm : i ∈ Region.ready .any ops listed := by rw [hq]; simp
        obtain ⟨h1, o, h2, _⟩ := mem_ready.1 hm
        have h3 := (Array.getElem?_eq_some_iff.1 h2).1
        have hl2 : i < listed.size := by omega
        have h4 : listed[i] = false := by simpa [Array.getD, hl2] using h1
        have h5 : false ∈ listed.toList.filter (fun b => !b) := by
          rw [List.mem_filter]
          exact ⟨by rw [← h4]; simp, rfl⟩
        have := List.length_pos_of_mem h5
        omega
    exact ⟨hr, done listed a w ρ hsz hr J⟩
  | succ fuel ih =>
    intro listed a w ρ hsz hcnt hcl J
    refine ⟨fun hr => done listed a w ρ hsz hr J, fun i hi => ?_⟩
    obtain ⟨hun, o, ho, hed⟩ := mem_ready.1 hi
    have hlt := (Array.getElem?_eq_some_iff.1 ho).1
    have hl2 : i < listed.size := by omega
    have hDi : DL listed i = false := by
      have : listed[i] = false := by simpa [Array.getD, hl2] using hun
      simpa [DL, Array.getD, hl2] using this
    obtain ⟨l1, o', l2, xs1, x, xs2, s1, e1, e2, c1, kn, did, hxi, c2⟩ := ch.part ⟨o, hlall i o ho⟩
    have ho' : o' = o := by
      have := hl (i, o') (by rw [e1]; simp)
      rw [ho] at this; cases this; rfl
    subst ho'
    -- other indices
    have hne1 : ∀ y ∈ xs1, y.i ≠ i := by
      intro y hy q
      obtain ⟨p, h1, _⟩ := c1.mem hy
      rw [e1, List.map_append, List.map_cons] at hnd
      have := (List.nodup_append.1 hnd).2.2 y.i (List.mem_map.2 ⟨_, h1, rfl⟩) i (by simp)
      exact this q
    have hne2 : ∀ y ∈ xs2, y.i ≠ i := by
      intro y hy q
      obtain ⟨p, h1, _⟩ := c2.mem hy
      rw [e1, List.map_append, List.map_cons] at hnd
      have := (List.nodup_cons.1 (List.nodup_append.1 hnd).2.1).1
      exact this (List.mem_map.2 ⟨_, h1, q⟩)
    obtain ⟨fa1, fa2⟩ := freeAll_at (ops := ops) (xs1 := xs1) (x := x) (xs2 := xs2) (by rw [← e2]; exact hfree)
    have hops : ∀ y ∈ xs, ∃ p, ops[y.i]? = some p := by
      intro y hy
      obtain ⟨p, h1, _⟩ := ch.mem hy
      exact ⟨p, hl _ h1⟩
    have hx : ops[x.i]? = some o' := by rw [hxi]; exact ho
    have F1 : ∀ y ∈ xs1, DL listed y.i = false → ∃ p, ops[y.i]? = some p ∧ Free ops y x p o' := by
      intro y hy hDy
      obtain ⟨p, hp⟩ := hops y (by rw [e2]; simp [hy])
      rcases fa1 y hy with q | q
      · rw [hxi] at q
        have := before_ok (D := DL listed) hcl ho hed q
        rw [hDy] at this; cases this
      · exact ⟨p, hp, free_ok q hp hx⟩
    have F2 : ∀ y ∈ xs2, DL listed y.i = true → ∃ p, ops[y.i]? = some p ∧ Free ops x y o' p := by
      intro y hy hDy
      obtain ⟨p, hp⟩ := hops y (by rw [e2]; simp [hy])
      rcases fa2 y hy with q | q
      · have := before_ok (D := DL listed) hcl hp (hcl y.i p hp hDy) q
        rw [hxi, hDi] at this; cases this
      · exact ⟨p, hp, free_ok q hx hp⟩
    have lenx := did.len
    have lenAll : ∀ y ∈ xs, y.s.hp.length ≤ (endHp y).length := fun y hy => by obtain ⟨_, _, _, h3, _⟩ := ch.mem hy; exact h3
    have hxD : (DL listed) x.i = false := by rw [hxi]; exact hDi
    have eD : ∀ h, hD (DL listed) xs h = hD (DL listed) xs2 (hD (DL listed) xs1 h) := fun h => by rw [e2, hD_false hxD]
    have eT : ∀ tm, tD ops (DL listed) xs tm = tD ops (DL listed) xs2 (tD ops (DL listed) xs1 tm) := fun tm => by rw [e2, tD_false hxD]
    have hs1 : s1.hp = x.s.hp := kn.hp.symm
    have hmem1 : ∀ y ∈ xs1, y ∈ xs := fun y hy => by rw [e2]; simp [hy]
    have hmem2 : ∀ y ∈ xs2, y ∈ xs := fun y hy => by rw [e2]; simp [hy]
    have hag : ∀ b ∈ rdOf x.r, hD (DL listed) xs (hpf s0.hp) b = hpf x.s.hp b := by
      intro b hb
      rw [eD, hD_keep (fun y hy hDy hch => by
        obtain ⟨p, _, f⟩ := F2 y hy hDy
        exact f.t2 b (touched_of (lenAll y (hmem2 y hy)) (.inl hch)) hb)]
      rw [agree_h c1 (fun y hy hDy hch => by
        obtain ⟨p, _, f⟩ := F1 y hy hDy
        exact (f.t1 b (touched_of (lenAll y (hmem1 y hy)) (.inl hch))).2 hb) rfl, hs1]
    have hfr : ∀ b, x.s.hp.length ≤ b → b < (endHp x).length → ρ b = none ∧ hD (DL listed) xs (hpf s0.hp) b = none := by
      intro b q1 q2
      refine ⟨?_, ?_⟩
      · cases hr : ρ b with
        | none => rfl
        | some rb =>
          obtain ⟨_, _, h0, _, _⟩ := ch.mem (x := x) (by rw [e2]; simp)
          obtain ⟨y, hy, hDy, z1, z2⟩ := J.top b (by omega) (by rw [hr]; simp)
          rw [e2, List.mem_append, List.mem_cons] at hy
          rcases hy with hy | rfl | hy
          · obtain ⟨_, _, _, _, h4⟩ := c1.mem hy
            rw [hs1] at h4; omega
          · rw [hxD] at hDy; cases hDy
          · obtain ⟨_, _, h2, _, _⟩ := c2.mem hy
            rw [nextS_hp] at h2; omega
      · rw [eD, hD_keep (fun y hy hDy hch => by
          obtain ⟨p, _, f⟩ := F2 y hy hDy
          exact (f.t1 b (touched_of lenx (.inr ⟨q1, q2⟩))).1 (touched_of (lenAll y (hmem2 y hy)) (.inl hch)))]
        rw [agree_h c1 (fun y hy hDy hch => by
          obtain ⟨_, _, _, h3, h4⟩ := c1.mem hy
          rw [hs1] at h4
          unfold Changed at hch
          rw [hpf_ge (by omega), hpf_ge (by omega)] at hch
          exact hch rfl) rfl, hs1, hpf_ge q1]
    have hdst : ∀ y p, ops[y.i]? = some p → dstOf ops y = p.dst := by
      intro y p hp; unfold dstOf; rw [hp]; rfl
    have hlook : ∀ t ∈ looks_ ops o', ∀ sv, x.s.tm[t]? = some sv → VV η ρ sv (a.tmps.getD t undef) := by
      intro t ht sv e
      obtain ⟨sv1, q1, q2⟩ := kn.tm e
      have hl1 : ∀ p ∈ l1, ops[p.1]? = some p.2 := fun p hp => hl p (by rw [e1]; simp [hp])
      obtain ⟨sv0, q3, q4⟩ := agree_t (D := fun j => listed.getD j false) (tm := s0.tm) c1 hl1 (fun y hy hDy hd => by
        obtain ⟨p, hp, f⟩ := F1 y hy hDy
        rw [hdst y p hp] at hd
        exact (f.d1 t hd).1 ht) rfl (fun sv q => ⟨sv, q, fun _ _ h => h⟩) sv1 q1
      refine q2 _ _ (q4 _ _ (J.tm.val t sv0 ?_))
      rw [eT, tD_keep (fun y hy hDy hd => by
        obtain ⟨p, hp, f⟩ := F2 y hy hDy
        rw [hdst y p hp] at hd
        exact f.d2 t hd ht)]
      exact q3
    refine did.step ho hE hG J.hr J.fr hag hfr hlook (fun cv w' ρ' hv m => ?_)
    -- the new state
    have hD' : ∀ j, DL (listed.setIfInBounds i true) j = if j = i then true else DL listed j := by
      intro j
      by_cases q : j = i
      · subst q; simp [DL, Array.getD, hl2]
      · unfold DL; rw [if_neg q, getD_set_ne false (Ne.symm q)]
    have cong1 : ∀ y ∈ xs1, (DL (listed.setIfInBounds i true)) y.i = (DL listed) y.i := fun y hy => by
      rw [hD', if_neg (hne1 y hy)]
    have cong2 : ∀ y ∈ xs2, (DL (listed.setIfInBounds i true)) y.i = (DL listed) y.i := fun y hy => by
      rw [hD', if_neg (hne2 y hy)]
    have hxD' : DL (listed.setIfInBounds i true) x.i = true := by rw [hD', hxi]; simp
    have newH : hD (DL (listed.setIfInBounds i true)) xs (hpf s0.hp) = upd (hD (DL listed) xs (hpf s0.hp)) x.s.hp (endHp x) := by
      funext b
      rw [eD, e2, hD_true hxD', hD_cong cong1, hD_cong cong2]
      by_cases hch : Changed x b
      · rw [hD_keep (fun y hy hDy hc => by
          obtain ⟨p, _, f⟩ := F2 y hy hDy
          exact (f.t1 b (touched_of lenx (.inl hch))).1 (touched_of (lenAll y (hmem2 y hy)) (.inl hc)))]
        unfold Changed at hch
        unfold upd
        rw [if_neg hch, if_neg hch]
      · unfold Changed at hch
        simp only [ne_eq, Decidable.not_not] at hch
        have : upd (hD (DL listed) xs1 (hpf s0.hp)) x.s.hp (endHp x) b = hD (DL listed) xs1 (hpf s0.hp) b := by
          unfold upd; rw [if_pos hch]
        rw [hD_point this]
        unfold upd
        rw [if_pos hch]
    have newT : tD ops (DL (listed.setIfInBounds i true)) xs s0.tm = putT (tD ops (DL listed) xs s0.tm) o'.dst (valOf x) := by
      apply List.ext_getElem?
      intro t
      rw [eT, e2, tD_true hxD', tD_cong cong1, tD_cong cong2]
      rw [hdst x o' hx]
      by_cases hd : o'.dst = some t
      · rw [tD_keep (fun y hy hDy hd2 => by
          obtain ⟨p, hp, f⟩ := F2 y hy hDy
          rw [hdst y p hp] at hd2
          exact (f.d1 t hd).2 hd2)]
        rw [hd]
        simp only [putT, List.getElem?_set, if_true, tD_len]
      · rw [putT_ne hd]
        exact tD_point (by simp [putT_len]) (putT_ne hd)
    refine ih (listed.setIfInBounds i true) _ _ ρ' (by simpa using hsz) ?_ (fun j p hp hDj => ?_) ⟨?_, ?_, ?_, fun b hb hr => ?_, fun b rb h1 h2 => m.ext _ _ (J.pin b rb h1 h2), by rw [put_defers']; exact J.df⟩
    · -- one fewer
      have hcnt' : ((listed.setIfInBounds i true).toList.filter (fun b => !b)).length + 1 = (listed.toList.filter (fun b => !b)).length := by
        rw [Array.toList_setIfInBounds]
        have h4 : listed.toList[i]? = some false := by
          have : listed[i] = false := by simpa [Array.getD, hl2] using hun
          simp [hl2, this]
        exact filter_set h4
      omega
    · intro e he hb
      rw [hD']
      split
      · rfl
      · rw [hD'] at hDj
        split at hDj
        · rename_i q
          subst q
          rw [ho] at hp; cases hp
          exact hed e he hb
        · exact hcl j p hp hDj e he hb
    · rw [newH]; exact m.hr
    · rw [newH]; exact m.fr
    · rw [newT]; exact (J.tm.up (Pre.refl _) m.ext).put hv
    · by_cases q : ρ' b = ρ b
      · rw [q] at hr
        obtain ⟨y, hy, hDy, z⟩ := J.top b hb hr
        refine ⟨y, hy, ?_, z⟩
        rw [hD']
        split
        · rfl
        · exact hDy
      · have := m.dom b q
        exact ⟨x, by rw [e2]; simp, hxD', this.1, this.2⟩
  where
  filter_set : ∀ {l : List Bool} {i : Nat}, l[i]? = some false → ((l.set i true).filter (fun b => !b)).length + 1 = (l.filter (fun b => !b)).length
    | [], i, h => by simp at h
    | b :: l, 0, h => by simp at h; subst h; simp
    | b :: l, i + 1, h => by
      simp at h
      have := filter_set h
      cases b <;> simp_all

end
end Gm

/- Jumps: a state is brought to the shape at a place where ways meet. -/
namespace Gm
open Go

section
variable {c : Cfg} {tb : List PF} {η : List PV} {C : Ctx} {ρ ρ0 : Rho} {npin : Nat} {a : Act} {w : World}

/-- what holds of a state, without the frame -/
structure IV (C : Ctx) (η : List PV) (npin : Nat) (ρ0 : Rho) (s : SSt) (w : World) (ρ : Rho) : Prop where
  hr : HR η ρ (hpf s.hp) w
  fr : FR C ρ (hpf s.hp) w
  top : ∀ b, s.hp.length ≤ b → ρ b = none
  pin : ∀ b rb, b < npin → ρ0 b = some rb → ρ b = some rb

theorem Inv.iv {s : SSt} (I : Inv C η npin ρ0 s a w ρ) : IV C η npin ρ0 s w ρ := ⟨I.hr, I.fr, I.top, I.pin⟩

theorem IV.rdy {s s' : SSt} {rd : List Nat} (I : IV C η npin ρ0 s w ρ) : Rdy C η ρ (hpf s.hp) s s' rd w :=
  ⟨I.hr, I.fr, fun _ _ _ => rfl, fun b q _ => ⟨I.top b q, hpf_ge q⟩⟩

theorem IV.view {s s' : SSt} {is : List Ins} {rd : List Nat} {ρ1 : Rho} (I : IV C η npin ρ0 s w ρ) (V : Vw C η ρ (hpf s.hp) s s' is rd w ρ1) : IV C η npin ρ0 s' w ρ1 := by
  refine ⟨?_, ?_, fun b hb => ?_, fun b rb h1 h2 => V.mid.ext _ _ (I.pin b rb h1 h2)⟩
  · have := V.mid.hr; rwa [upd_hpf] at this
  · have := V.mid.fr; rwa [upd_hpf] at this
  · by_cases q : ρ1 b = ρ b
    · rw [q]; exact I.top b (Nat.le_trans V.len hb)
    · have := V.mid.dom b q; omega

theorem IV.pre {η' : List PV} {s : SSt} (I : IV C η npin ρ0 s w ρ) (hp : Pre η η') : IV C η' npin ρ0 s w ρ :=
  ⟨I.hr.up hp (Ext.refl _) (Nat.le_refl _) (fun _ _ => rfl), I.fr, I.top, I.pin⟩

theorem viewTm_ok : ∀ {ts vs r : List SV} {i : Nat} {s s' : SSt} {is : List Ins} {us : List Value} {ρ : Rho}, viewTm s ts vs i = .ok (r, s', is) → IV C η npin ρ0 s w ρ → VVs η ρ vs us → InsOK tb η s.ne is →
    ∃ ρ1, IV C η npin ρ0 s' w ρ1 ∧ VVs η ρ1 r us ∧ s'.ne = s.ne + insN is ∧ Ext ρ ρ1
  | [], vs, r, i, s, s', is, us, ρ, h, I, hv, _ => by
    simp only [viewTm] at h
    cases h
    exact ⟨ρ, I, hv, by simp [insN], Ext.refl _⟩
  | t :: ts, [], r, i, s, s', is, us, ρ, h, I, hv, _ => by
    unfold viewTm at h
    cases h
    exact ⟨ρ, I, hv, by simp [insN], Ext.refl _⟩
  | t :: ts, v :: vs, r, i, s, s', is, [], ρ, h, I, hv, _ => hv.elim
  | t :: ts, v :: vs, r, i, s, s', is, u :: us, ρ, h, I, ⟨hv, hvs⟩, N => by
    have other : ∀ {r' : List SV} {s1 : SSt} {is1 : List Ins}, viewTm s ts vs (i + 1) = .ok (r', s1, is1) → (v :: r', s1, is1) = (r, s', is) →
        ∃ ρ1, IV C η npin ρ0 s' w ρ1 ∧ VVs η ρ1 r (u :: us) ∧ s'.ne = s.ne + insN is ∧ Ext ρ ρ1 := by
      intro r' s1 is1 h1 h2
      cases h2
      obtain ⟨ρ1, J, w1, w2, w3⟩ := viewTm_ok h1 I hvs N
      exact ⟨ρ1, J, ⟨hv.up (Pre.refl _) w3, w1⟩, w2, w3⟩
    unfold viewTm at h
    simp only at h
    split at h
    · replace h := ebind h
      obtain ⟨⟨r', s1, is1⟩, h1, h⟩ := h
      simp only [Except.ok.injEq] at h
      exact other h1 h
    · rename_i b lo n
      replace h := ebind h
      obtain ⟨⟨x, s1, is1, rd⟩, h1, h⟩ := h
      simp only at h
      replace h := ebind h
      obtain ⟨⟨r', s2, is2⟩, h2, h⟩ := h
      cases h
      obtain ⟨N1, N2⟩ := InsOK.app N
      obtain ⟨ρ1, V1, w1⟩ := viewV_ok h1 I.rdy hv N1
      rw [← V1.ne] at N2
      obtain ⟨ρ2, J, w2, w3, w4⟩ := viewTm_ok h2 (I.view V1) (hvs.up (Pre.refl _) V1.mid.ext) N2
      exact ⟨ρ2, J, ⟨w1.up (Pre.refl _) w4, w2⟩, by rw [w3, V1.ne]; show _ = s.ne + insN (is1 ++ is2); rw [insN_app]; omega, V1.mid.ext.trans w4⟩
    · replace h := ebind h
      obtain ⟨⟨r', s1, is1⟩, h1, h⟩ := h
      simp only [Except.ok.injEq] at h
      exact other h1 h

theorem TM.vvs {tm : List SV} (h : TM η ρ tm a) : VVs η ρ tm a.tmps.toList := by
  have key : ∀ (l : List SV) (us : List Value), us.length = l.length → (∀ (t : Nat) (sv : SV), l[t]? = some sv → VV η ρ sv (us.getD t undef)) → VVs η ρ l us := by
    intro l
    induction l with
    | nil => intro us hl _; cases us with
      | nil => trivial
      | cons _ _ => simp at hl
    | cons x l ih => intro us hl hv; cases us with
      | nil => simp at hl
      | cons u us =>
        exact ⟨by simpa using hv 0 x rfl, ih us (by simpa using hl) (fun t sv e => by simpa using hv (t + 1) sv (by simpa using e))⟩
  refine key tm a.tmps.toList (by simp [h.size]) (fun t sv e => ?_)
  have := h.val t sv e
  simpa [Array.getD_eq_getD_getElem?, List.getD_eq_getElem?_getD] using this

theorem VVs.tm {tm : List SV} (h : VVs η ρ tm a.tmps.toList) : TM η ρ tm a := by
  have key : ∀ (l : List SV) (us : List Value), VVs η ρ l us → ∀ (t : Nat) (sv : SV), l[t]? = some sv → VV η ρ sv (us.getD t undef) := by
    intro l
    induction l with
    | nil => intro us _ t sv e; simp at e
    | cons x l ih => intro us hv t sv e; cases us with
      | nil => exact hv.elim
      | cons u us => cases t with
        | zero => simp at e; subst e; exact hv.1
        | succ t => simp at e ⊢; simpa using ih us hv.2 t sv e
  refine ⟨by simpa using h.len, fun t sv e => ?_⟩
  have := key tm a.tmps.toList h t sv e
  simpa [Array.getD_eq_getD_getElem?, List.getD_eq_getElem?_getD] using this

/-- the weaker shape holds -/
theorem fit_inv {g : Tgt} {tm : List SV} {s : SSt} {bl : List BM} {as : List Atom} {v : List PV} (hf : fit g tm s.hp npin = .ok (bl, as)) (I : IV C η npin ρ0 s w ρ) (hv : looks η as = some v) {us : List Value} (ht : VVs η ρ tm us) :
    IV C v npin ρ0 g.st w (rhoOf ρ bl) ∧ VVs v (rhoOf ρ bl) g.tm us ∧ v.length = g.np := by
  obtain ⟨f1, f2, f3, f4, f5⟩ := fit_spec hf
  refine ⟨⟨I.hr.fit hv f5, I.fr.fit f5, fun b hb => ?_, fun b rb h1 h2 => ?_⟩, fitVs_ok hv f4 ht, (looks_len hv).trans f1⟩
  · have hb' : bl.length ≤ b := by rw [f2]; exact hb
    have : bm bl b = .no := by unfold bm; rw [List.getD_eq_getElem?_getD, List.getElem?_eq_none hb']; rfl
    unfold rhoOf; rw [this]
  · have h3 := List.all_eq_true.1 f3 b (List.mem_range.2 h1)
    have h4 : bm bl b = .blk b := by simpa using h3
    rw [rhoOf_blk h4]; exact I.pin b rb h1 h2

/-- what a jump brings -/
theorem jumpTo_ok {l : Nat} {g : Tgt} {s : SSt} {t : T} {out : Out} (h : jumpTo c l g s = .ok t) (hc : c.npin = npin) (he : eval tb t η = some out) (hn : η.length = s.ne) (I : Inv C η npin ρ0 s a w ρ) :
    ∃ v ρ', out = .jump l v ∧ v.length = g.np ∧ Inv C v npin ρ0 g.st a w ρ' := by
  unfold jumpTo at h
  replace h := ebind h
  obtain ⟨⟨tm, s1, is⟩, h1, h⟩ := h
  simp only at h
  split at h
  · rename_i bl as hf
    cases h
    obtain ⟨e, N, hl, he2⟩ := insT_ok he
    have hp := Pre.app η e
    rw [hn] at N
    obtain ⟨ρ1, J, w1, w2, w3⟩ := viewTm_ok h1 (I.iv.pre hp) ((I.tm.vvs).up hp (Ext.refl _)) N
    simp only [eval] at he2
    split at he2
    · rename_i v hv
      cases he2
      rw [hc] at hf
      obtain ⟨z1, z2, z3⟩ := fit_inv hf J hv w1
      exact ⟨v, _, rfl, z3, ⟨z1.hr, z1.fr, z2.tm, z1.top, z1.pin, I.df⟩⟩
    · cases he2
  · cases h
end
end Gm

/- Results. -/
namespace Gm
open Go

def resRun (tmps : Array Value) : ResultVar → Sem Value
  | .tmp t => pure (tmps.getD t undef)
  | .cell b t => do loadVar t (← asAddr (tmps.getD b undef))

theorem results_eq (fn : Func) (tmps : Array Value) : results fn tmps = (do let vs ← fn.results.mapM (resRun tmps); pure (if h : vs.size = 1 then vs[0] else .tuple vs)) := by
  unfold results
  congr 1

section
variable {P : Program} {c : Cfg} {tb : List PF} {η : List PV} {C : Ctx} {ρ ρ0 : Rho} {npin : Nat} {a : Act} {w : World} {s : SSt}

theorem resS_ok {r : ResultVar} {x : S1} (h : resS P s r = .ok x) (I : IV C η npin ρ0 s w ρ) (T : TM η ρ s.tm a) :
    ∃ v, (resRun a.tmps r).run P w = .ok v w ∧ V1 η ρ x v := by
  unfold resS at h
  split at h
  · rename_i t
    split at h
    · cases h
    · rename_i y _ e
      cases h
      exact ⟨_, rfl, V1.one_iff.2 ⟨y, rfl, T.val t _ e⟩⟩
    · rename_i l e
      cases h
      exact ⟨_, rfl, V1.agg_iff.2 (T.val t _ e)⟩
    · cases h
  · rename_i t ty
    split at h
    · rename_i b e
      replace h := ebind h
      obtain ⟨cs, e2, h⟩ := h
      have hc := cellsAt_ok e2
      obtain ⟨rb, blk, hr, hat, hv⟩ := T.val t _ e
      obtain ⟨rb', hr', bc⟩ := I.hr.bc b _ hc
      rw [hr] at hr'; cases hr'
      obtain ⟨blk', arr, t', h1, h2, h3, h4⟩ := bc
      rw [hat] at h1; cases h1
      split at h
      · rename_i i hi
        split at h
        · rename_i hagg
          split at h
          · rename_i hsz
            cases h
            have hlen : arr.toList.length = i.size := by rw [h4.len, hsz]
            have hload := run_loadCells_list (P := P) w ⟨blk, 0, none⟩ arr.toList (fun j v hj => by
              rw [add_at]
              have : arr[j]? = some v := by simpa using hj
              simp [World.cell?, h3, this])
            rw [hlen] at hload
            refine ⟨.agg arr, ?_, V1.agg_iff.2 ⟨arr, rfl, h4⟩⟩
            simp [resRun, hv, asAddr, loadVar, run_isAgg hi, hagg, run_size hi, hload]
          · cases h
        · rename_i hagg
          have hagg' : isAggT P ty = false := by simpa using hagg
          split at h
          · rename_i y
            cases h
            obtain ⟨u, hu, huv⟩ := h4.get 0 y rfl
            have hu' : arr[0]? = some u := by simpa using hu
            have hcell : w.cell? ⟨blk, 0, none⟩ = some u := by simp [World.cell?, h3, hu']
            refine ⟨u, ?_, V1.one_iff.2 ⟨y, rfl, huv⟩⟩
            simp [resRun, hv, asAddr, loadVar, run_isAgg hi, hagg', hcell]
          · cases h
      · cases h
    · cases h

theorem ressS_ok : ∀ {l : List ResultVar} {xs : List S1}, ressS P s l = .ok xs → IV C η npin ρ0 s w ρ → TM η ρ s.tm a →
    ∃ vs, (l.mapM (resRun a.tmps)).run P w = .ok vs w ∧ V1s η ρ xs vs
  | [], xs, h, _, _ => by simp only [ressS] at h; cases h; exact ⟨[], rfl, trivial⟩
  | r :: l, xs, h, I, T => by
    simp only [ressS] at h
    replace h := ebind h
    obtain ⟨x, e1, h⟩ := h
    replace h := ebind h
    obtain ⟨ys, e2, h⟩ := h
    cases h
    obtain ⟨v, r1, r2⟩ := resS_ok (P := P) e1 I T
    obtain ⟨vs, r3, r4⟩ := ressS_ok e2 I T
    refine ⟨v :: vs, ?_, r2, r4⟩
    rw [List.mapM_cons, Sem.run_bind, r1]
    simp only [Result.andThen_ok, Sem.run_bind, r3, Sem.run_pure]

theorem V1s.up' {ρ' : Rho} {l : List S1} {vs : List Value} (h : V1s η ρ l vs) (hρ : Ext ρ ρ') : V1s η ρ' l vs := h.up (Pre.refl _) hρ

theorem view1s_ok : ∀ {l r : List S1} {s s' : SSt} {is : List Ins} {us : List Value} {ρ : Rho}, view1s s l = .ok (r, s', is) → IV C η npin ρ0 s w ρ → V1s η ρ l us → InsOK tb η s.ne is →
    ∃ ρ1, IV C η npin ρ0 s' w ρ1 ∧ V1s η ρ1 r us ∧ s'.ne = s.ne + insN is ∧ Ext ρ ρ1
  | [], r, s, s', is, us, ρ, h, I, hv, _ => by
    simp only [view1s] at h
    cases h
    exact ⟨ρ, I, hv, by simp [insN], Ext.refl _⟩
  | x :: l, r, s, s', is, [], ρ, h, I, hv, _ => hv.elim
  | x :: l, r, s, s', is, u :: us, ρ, h, I, ⟨hv, hvs⟩, N => by
    simp only [view1s] at h
    replace h := ebind h
    obtain ⟨⟨cs, s1, is1, rd⟩, e1, h⟩ := h
    simp only at h
    replace h := ebind h
    obtain ⟨⟨r', s2, is2⟩, e2, h⟩ := h
    cases h
    obtain ⟨N1, N2⟩ := InsOK.app N
    obtain ⟨ag, xcs⟩ := x
    have one : ∃ ρ1 rd', Vw C η ρ (hpf s.hp) s s1 is1 rd' w ρ1 ∧ V1 η ρ1 ⟨ag, cs⟩ u := by
      cases ag with
      | true =>
        obtain ⟨arr, q, hl⟩ := V1.agg_iff.1 hv
        obtain ⟨ρ1, V, hl'⟩ := viewL_ok e1 I.rdy hl N1
        exact ⟨ρ1, _, V, V1.agg_iff.2 ⟨arr, q, hl'⟩⟩
      | false =>
        obtain ⟨y, q, hl⟩ := V1.one_iff.1 hv
        subst q
        obtain ⟨ρ1, V, hl'⟩ := viewL_ok e1 I.rdy (show VL η ρ [y] [u] from ⟨hl, trivial⟩) N1
        cases cs with
        | nil => exact hl'.elim
        | cons z zs => cases zs with
          | nil => exact ⟨ρ1, _, V, V1.one_iff.2 ⟨z, rfl, hl'.1⟩⟩
          | cons _ _ => exact hl'.2.elim
    obtain ⟨ρ1, rd', V, w1⟩ := one
    rw [← V.ne] at N2
    obtain ⟨ρ2, J, w2, w3, w4⟩ := view1s_ok e2 (I.view V) (hvs.up (Pre.refl _) V.mid.ext) N2
    exact ⟨ρ2, J, ⟨w1.up (Pre.refl _) w4, w2⟩, by rw [w3, V.ne]; show _ = s.ne + insN (is1 ++ is2); rw [insN_app]; omega, V.mid.ext.trans w4⟩

theorem retV_ok {l : List S1} {vs : List Value} (h : V1s η ρ l vs) : VV η ρ (retV l) (if h : vs.toArray.size = 1 then vs.toArray[0] else .tuple vs.toArray) := by
  cases l with
  | nil => cases vs with
    | nil => exact ⟨#[], by simp, trivial⟩
    | cons _ _ => exact h.elim
  | cons x l => cases vs with
    | nil => exact h.elim
    | cons v vs => cases l with
      | nil => cases vs with
        | cons _ _ => exact h.2.elim
        | nil =>
          have hv := h.1
          obtain ⟨ag, cs⟩ := x
          cases ag with
          | true =>
            obtain ⟨arr, q, hl⟩ := V1.agg_iff.1 hv
            exact ⟨arr, by simpa using q, hl⟩
          | false =>
            obtain ⟨y, q, hl⟩ := V1.one_iff.1 hv
            subst q
            exact hl
      | cons y l => cases vs with
        | nil => exact h.2.elim
        | cons u us => exact ⟨_, by simp, h⟩

theorem emitRet_ok {t : T} {out : Out} (h : emitRet c s = .ok t) (hc : c.npin = npin) (he : eval tb t η = some out) (hn : η.length = s.ne) (I : Inv C η npin ρ0 s a w ρ) :
    ∃ rs v ρ', out = .ret rs ∧ (results c.fn a.tmps).run c.P w = .ok v w ∧ rs.length = c.sg.nr ∧ VV rs ρ' c.sg.res v ∧ HR rs ρ' (hpf c.sg.out) w ∧ FR C ρ' (hpf c.sg.out) w ∧
      (∀ b rb, b < npin → ρ0 b = some rb → ρ' b = some rb) := by
  unfold emitRet at h
  replace h := ebind h
  obtain ⟨xs, e1, h⟩ := h
  replace h := ebind h
  obtain ⟨⟨ys, s1, is⟩, e2, h⟩ := h
  simp only at h
  split at h
  · rename_i bl as hf
    cases h
    obtain ⟨e, N, hl, he2⟩ := insT_ok he
    have hp := Pre.app η e
    rw [hn] at N
    obtain ⟨vs, r1, r2⟩ := ressS_ok (P := c.P) e1 I.iv I.tm
    obtain ⟨ρ1, J, w1, w2, w3⟩ := view1s_ok e2 (I.iv.pre hp) (r2.up hp (Ext.refl _)) N
    simp only [eval] at he2
    split at he2
    · rename_i rs hrs
      cases he2
      rw [hc] at hf
      obtain ⟨z1, z2, z3⟩ := fit_inv hf J hrs (us := [_]) ⟨retV_ok w1, trivial⟩
      refine ⟨rs, _, _, rfl, ?_, z3, z2.1, z1.hr, z1.fr, z1.pin⟩
      rw [results_eq, Sem.run_bind, Array.mapM_eq_mapM_toList]
      simp [r1]
    · cases he2
  · split at h
    · cases h; simp [eval] at he
    · cases h
end
end Gm

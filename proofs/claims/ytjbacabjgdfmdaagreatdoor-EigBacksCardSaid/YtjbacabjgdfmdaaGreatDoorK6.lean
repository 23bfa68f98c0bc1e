/- Code: what the term says, the code does. -/
import Derived.Test.YtjbacabjgdfmdaaGreatDoorK5
import Derived.Scope
import Derived.Laws.Externs
namespace Gm
open Go

section
variable {c : Cfg} {ops : Array Oper} {tb : List PF} {η : List PV} {C : Ctx} {ρ ρ0 : Rho} {npin : Nat} {a : Act} {w : World} {s s' : SSt} {xs : List Rec} {Q : Exit → Act → World → Prop}

theorem zip_ops (p : Nat × Oper) (hp : p ∈ ops.toList.zipIdx.map fun (o, i) => (i, o)) : ops[p.1]? = some p.2 := by
  rw [List.mem_map] at hp
  obtain ⟨⟨o, i⟩, h1, rfl⟩ := hp
  rw [List.mem_iff_getElem?] at h1
  obtain ⟨j, hj⟩ := h1
  rw [List.getElem?_zipIdx] at hj
  cases h2 : ops.toList[j]? with
  | none => rw [h2] at hj; simp at hj
  | some q =>
    rw [h2] at hj
    simp at hj
    obtain ⟨rfl, rfl⟩ := hj
    simpa using h2

theorem zip_all (i : Nat) (o : Oper) (h : ops[i]? = some o) : (i, o) ∈ ops.toList.zipIdx.map fun (o, i) => (i, o) := by
  rw [List.mem_map]
  refine ⟨(o, i), ?_, rfl⟩
  rw [List.mem_iff_getElem?]
  exact ⟨i, by simp [List.getElem?_zipIdx, h]⟩

theorem zip_fst : (ops.toList.zipIdx.map fun (o, i) => (i, o)).map (·.1) = List.range ops.size := by
  rw [List.map_map]
  have : ((fun x : Nat × Oper => x.1) ∘ fun (x : Oper × Nat) => match x with | (o, i) => (i, o)) = Prod.snd := by funext x; rfl
  rw [this]
  simp [List.range_eq_range']

theorem region_ok {id : Nat} {draw : Bool} (hE : Ents c.P c.gl c.es tb) (hG : GL c.gl C) (hM : c.P.follows .mixedOrders = true) (ch : Chain c ops tb η s (ops.toList.zipIdx.map fun (o, i) => (i, o)) xs s')
    (hd : draw = true → backEdges ops = true ∧ freeAll ops (Region.before ops) xs = true) (I : Inv C η npin ρ0 s a w ρ) (hQ : ∀ a w ρ, Inv C η npin ρ0 s' a w ρ → Q .normal a w) : (Code.region id ops draw).wp c.P Q a w := by
  cases draw with
  | false =>
    refine wp_region ?_
    rw [← zip_fst]
    exact ord_ok hE hG ch zip_ops I hQ
  | true =>
    obtain ⟨h1, h2⟩ := hd rfl
    refine wp_region_any hM ?_
    have hfalse : ∀ j, DL (Array.replicate ops.size false) j = false := by
      intro j
      unfold DL
      rw [Array.getD_eq_getD_getElem?, Array.getElem?_replicate]
      split <;> rfl
    have hh : ∀ (xs : List Rec) (h : Hp), hD (DL (Array.replicate ops.size false)) xs h = h := by
      intro xs
      induction xs with
      | nil => intro h; rfl
      | cons x l ih => intro h; simp only [hD, hfalse]; exact ih _
    have ht : ∀ (xs : List Rec) (tm : List SV), tD ops (DL (Array.replicate ops.size false)) xs tm = tm := by
      intro xs
      induction xs with
      | nil => intro h; rfl
      | cons x l ih => intro h; simp only [tD, hfalse]; exact ih _
    refine any_ok hE hG ch zip_ops zip_all (by rw [zip_fst]; exact List.nodup_range) h1 h2 hQ ops.size _ _ _ ρ (by simp) ?_ (fun i o _ q => by rw [hfalse] at q; cases q) ⟨?_, ?_, ?_, fun b q1 q2 => absurd (I.top b q1) q2, I.pin, I.df⟩
    · exact Nat.le_trans (List.length_filter_le _ _) (by simp)
    · rw [hh]; exact I.hr.later (Later.drawn w _)
    · rw [hh]; exact I.fr.later (Later.drawn w _)
    · rw [ht]; exact I.tm

/-- what a way out has to bear -/
structure Ways (c : Cfg) (tb : List PF) (C : Ctx) (npin : Nat) (ρ0 : Rho) (out : Out) (ls : List Lab) (k : SSt → E T) (Q : Exit → Act → World → Prop) : Prop where
  n : ∀ s t η a w ρ, k s = .ok t → eval tb t η = some out → η.length = s.ne → Inv C η npin ρ0 s a w ρ → Q .normal a w
  r : ∀ rs v ρ' a w, out = .ret rs → a.defers = [] → (results c.fn a.tmps).run c.P w = .ok v w → rs.length = c.sg.nr → VV rs ρ' c.sg.res v → HR rs ρ' (hpf c.sg.out) w → FR C ρ' (hpf c.sg.out) w →
    (∀ b rb, b < npin → ρ0 b = some rb → ρ' b = some rb) → Q .ret a w
  j : ∀ id i lab v a w ρ, findLab id ls 0 = some (i, lab) → out = .jump i v → v.length = lab.tgt.np → Inv C v npin ρ0 lab.tgt.st a w ρ → Q (.exit id) a w

theorem eval_seq {x y : T} {out : Out} (h : eval tb (.seq x y) η = some out) : ∃ o1, eval tb x η = some o1 ∧ ((∃ v, o1 = .jump 0 v ∧ eval tb y v = some out) ∨ (∃ l v, o1 = .jump (l + 1) v ∧ out = .jump l v) ∨ (∃ rs, o1 = .ret rs ∧ out = .ret rs)) := by
  simp only [eval] at h
  cases hx : eval tb x η with
  | none => rw [hx] at h; cases h
  | some o1 =>
    rw [hx] at h
    refine ⟨o1, rfl, ?_⟩
    cases o1 with
    | ret rs => cases h; exact .inr (.inr ⟨rs, rfl, rfl⟩)
    | jump l v =>
      cases l with
      | zero => exact .inl ⟨v, rfl, h⟩
      | succ l => cases h; exact .inr (.inl ⟨l, v, rfl, rfl⟩)

theorem eval_ite {x : Atom} {y z : T} {out : Out} (h : eval tb (.ite x y z) η = some out) : (look η x = some (.bool true) ∧ eval tb y η = some out) ∨ (look η x = some (.bool false) ∧ eval tb z η = some out) := by
  simp only [eval] at h
  split at h
  · rename_i b hb
    cases b with
    | true => exact .inl ⟨hb, h⟩
    | false => exact .inr ⟨hb, h⟩
  · cases h

theorem findLab_succ {id : Nat} : ∀ {ls : List Lab} {i : Nat}, findLab id ls (i + 1) = (findLab id ls i).map fun p => (p.1 + 1, p.2)
  | [], i => rfl
  | l :: ls, i => by
    simp only [findLab]
    split
    · rfl
    · exact findLab_succ

/-- the ways out of a part, behind which the ways meet -/
theorem Ways.inner {out o1 : Out} {ls : List Lab} {k : SSt → E T} {g : Tgt} {lab : Lab} {tk : T} (W : Ways c tb C npin ρ0 out ls k Q) (hc : c.npin = npin)
    (ho : (∃ v, o1 = .jump 0 v ∧ eval tb tk v = some out) ∨ (∃ l v, o1 = .jump (l + 1) v ∧ out = .jump l v) ∨ (∃ rs, o1 = .ret rs ∧ out = .ret rs)) (hk : k g.st = .ok tk) (hlab : ∀ id, lab.key ≠ .exit id) :
    Ways c tb C npin ρ0 o1 (lab :: ls) (jumpTo c 0 g) Q := by
  refine ⟨fun s t η a w ρ h he hn I => ?_, fun rs v ρ' a w h1 h2 h3 h4 h5 h6 h7 h8 => ?_, fun id i lab' v a w ρ h1 h2 h3 h4 => ?_⟩
  · obtain ⟨v, ρ', e1, e2, J⟩ := jumpTo_ok h hc he hn I
    rcases ho with ⟨v', q1, q2⟩ | ⟨l, v', q1, q2⟩ | ⟨rs, q1, q2⟩
    · rw [e1] at q1; cases q1
      exact W.n _ _ _ _ _ _ hk q2 e2 J
    · rw [e1] at q1; cases q1
    · rw [e1] at q1; cases q1
  · rcases ho with ⟨v', q1, q2⟩ | ⟨l, v', q1, q2⟩ | ⟨rs', q1, q2⟩
    · rw [h1] at q1; cases q1
    · rw [h1] at q1; cases q1
    · rw [h1] at q1; cases q1
      exact W.r rs v ρ' a w q2 h2 h3 h4 h5 h6 h7 h8
  · simp only [findLab] at h1
    rw [if_neg (hlab id), findLab_succ, Option.map_eq_some_iff] at h1
    obtain ⟨⟨i', lab''⟩, z1, z2⟩ := h1
    cases z2
    rcases ho with ⟨v', q1, q2⟩ | ⟨l, v', q1, q2⟩ | ⟨rs', q1, q2⟩
    · rw [h2] at q1; cases q1
    · rw [h2] at q1; cases q1
      exact W.j id i' lab'' v a w ρ z1 q2 h3 h4
    · rw [h2] at q1; cases q1

theorem doneR_ok {id : Nat} {draw : Bool} {rs : List Rec} {k : SSt → E T} {t : T} (h : doneR id ops draw s rs k = .ok t) : k s = .ok t ∧ (draw = true → backEdges ops = true ∧ freeAll ops (Region.before ops) rs.reverse = true) := by
  unfold doneR at h
  split at h
  · cases h
  · rename_i q
    refine ⟨h, fun hd => ?_⟩
    subst hd
    simpa using q

theorem goR_ok {id lv : Nat} {draw : Bool} {k : SSt → E T} {t : T} {out : Out} {ls : List Lab} (hE : Ents c.P c.gl c.es tb) (hG : GL c.gl C) (hM : c.P.follows .mixedOrders = true) (hc : c.npin = npin)
    (h : goR c id ops draw lv s k = .ok t) (he : eval tb t η = some out) (hn : η.length = s.ne) (I : Inv C η npin ρ0 s a w ρ) (W : Ways c tb C npin ρ0 out ls k Q) : (Code.region id ops draw).wp c.P Q a w := by
  unfold goR at h
  simp only at h
  split at h
  · replace h := ebind h
    obtain ⟨s1, _, h⟩ := h
    replace h := ebind h
    obtain ⟨ta, h1, h⟩ := h
    replace h := ebind h
    obtain ⟨tk, h2, h⟩ := h
    cases h
    obtain ⟨o1, he1, ho⟩ := eval_seq he
    obtain ⟨xs, s', η', t', p1, p2, p3, p4, p5⟩ := emitOps_ok h1 he1 hn
    obtain ⟨q1, q2⟩ := doneR_ok p4
    simp only [List.append_nil, List.reverse_reverse] at q2
    have W' := W.inner (lab := ⟨.cont, genAt c s1 lv id, lv⟩) hc ho h2 (fun _ q => by cases q)
    exact region_ok hE hG hM p3 q2 (I.pre p1) fun a w ρ J => W'.n _ _ _ _ _ _ q1 p5 p2 J
  · obtain ⟨xs, s', η', t', p1, p2, p3, p4, p5⟩ := emitOps_ok h he hn
    obtain ⟨q1, q2⟩ := doneR_ok p4
    simp only [List.append_nil, List.reverse_reverse] at q2
    exact region_ok hE hG hM p3 q2 (I.pre p1) fun a w ρ J => W.n _ _ _ _ _ _ q1 p5 p2 J

theorem emitR_ok {id lv : Nat} {draw : Bool} {k : SSt → E T} {t : T} {out : Out} {ls : List Lab} (hE : Ents c.P c.gl c.es tb) (hG : GL c.gl C) (hM : c.P.follows .mixedOrders = true) (hc : c.npin = npin)
    (h : emitR c id ops draw lv s k = .ok t) (he : eval tb t η = some out) (hn : η.length = s.ne) (I : Inv C η npin ρ0 s a w ρ) (W : Ways c tb C npin ρ0 out ls k Q) : (Code.region id ops draw).wp c.P Q a w := by
  unfold emitR at h
  split at h
  · cases h; simp [eval] at he
  · split at h
    · split at h
      · rename_i x _
        replace h := ebind h
        obtain ⟨t1, h1, h⟩ := h
        replace h := ebind h
        obtain ⟨t0, h0, h⟩ := h
        cases h
        rcases eval_ite he with ⟨q1, q2⟩ | ⟨q1, q2⟩
        · exact goR_ok hE hG hM hc h1 q2 hn (I.known (.inr ⟨_, _, q1, rfl⟩)) W
        · exact goR_ok hE hG hM hc h0 q2 hn (I.known (.inr ⟨_, _, q1, rfl⟩)) W
      · exact goR_ok hE hG hM hc h he hn I W
    · exact goR_ok hE hG hM hc h he hn I W

end
end Gm

/- Code: what the term says, the code does (the whole). -/
namespace Gm
open Go

section
variable {c : Cfg} {tb : List PF} {C : Ctx} {ρ0 : Rho} {npin : Nat}

theorem Ways.block {out o1 : Out} {ls : List Lab} {k : SSt → E T} {g : Tgt} {id lv : Nat} {tk : T} {Q : Exit → Act → World → Prop} (W : Ways c tb C npin ρ0 out ls k Q) (hc : c.npin = npin)
    (ho : (∃ v, o1 = .jump 0 v ∧ eval tb tk v = some out) ∨ (∃ l v, o1 = .jump (l + 1) v ∧ out = .jump l v) ∨ (∃ rs, o1 = .ret rs ∧ out = .ret rs)) (hk : k g.st = .ok tk) :
    Ways c tb C npin ρ0 o1 (⟨.exit id, g, lv⟩ :: ls) (jumpTo c 0 g) (Exit.inBlock id Q) := by
  refine ⟨fun s t η a w ρ h he hn I => ?_, fun rs v ρ' a w h1 h2 h3 h4 h5 h6 h7 h8 => ?_, fun id' i lab' v a w ρ h1 h2 h3 h4 => ?_⟩
  · obtain ⟨v, ρ', e1, e2, J⟩ := jumpTo_ok h hc he hn I
    rcases ho with ⟨v', q1, q2⟩ | ⟨l, v', q1, q2⟩ | ⟨rs, q1, q2⟩
    · rw [e1] at q1; cases q1
      exact W.n _ _ _ _ _ _ hk q2 e2 J
    · rw [e1] at q1; cases q1
    · rw [e1] at q1; cases q1
  · rcases ho with ⟨v', q1, q2⟩ | ⟨l, v', q1, q2⟩ | ⟨rs', q1, q2⟩
    · rw [h1] at q1; cases q1
    · rw [h1] at q1; cases q1
    · rw [h1] at q1; cases q1
      exact W.r rs v ρ' a w q2 h2 h3 h4 h5 h6 h7 h8
  · simp only [findLab] at h1
    split at h1
    · rename_i hid
      cases h1
      have hid' : id' = id := by injection hid with hid; exact hid.symm
      subst hid'
      rcases ho with ⟨v', q1, q2⟩ | ⟨l, v', q1, q2⟩ | ⟨rs', q1, q2⟩
      · rw [h2] at q1; cases q1
        simp only [Exit.inBlock, if_true]
        exact W.n _ _ _ _ _ _ hk q2 h3 h4
      · rw [h2] at q1; cases q1
      · rw [h2] at q1; cases q1
    · rename_i hid
      rw [findLab_succ, Option.map_eq_some_iff] at h1
      obtain ⟨⟨i', lab''⟩, z1, z2⟩ := h1
      cases z2
      have hne : ¬ id' = id := fun q => hid (by rw [q])
      simp only [Exit.inBlock, if_neg hne]
      rcases ho with ⟨v', q1, q2⟩ | ⟨l, v', q1, q2⟩ | ⟨rs', q1, q2⟩
      · rw [h2] at q1; cases q1
      · rw [h2] at q1; cases q1
        exact W.j id' i' lab'' v a w ρ z1 q2 h3 h4
      · rw [h2] at q1; cases q1

theorem condAtom_ok {η : List PV} {ρ : Rho} {s : SSt} {a : Act} {x : Operand} {at_ : Atom} (h : condAtom s x = .ok at_) (T : TM η ρ s.tm a) : ∃ b, look η at_ = some (.bool b) ∧ a.eval x = .bool b := by
  unfold condAtom at h
  split at h
  · rename_i t
    split at h
    · rename_i y e
      cases h
      obtain ⟨b, h1, h2⟩ := T.val t _ e
      exact ⟨b, h1, h2⟩
    · cases h
  · rename_i b
    cases h
    exact ⟨b, rfl, rfl⟩
  · cases h

theorem rounds_ok {ls : List Lab} {lv : Nat} {k : SSt → E T} {out : Out} {b : Code} {Q : Exit → Act → World → Prop} (W : Ways c tb C npin ρ0 out ls k Q)
    (IH : ∀ {s : SSt} {k : SSt → E T} {t : T} {η : List PV} {a : Act} {w : World} {ρ : Rho} {Q : Exit → Act → World → Prop}, emit c b s ls lv k = .ok t → eval tb t η = some out → η.length = s.ne → Inv C η npin ρ0 s a w ρ →
      Ways c tb C npin ρ0 out ls k Q → b.wp c.P Q a w) : ∀ (n : Nat) {s : SSt} {t : T} {η : List PV} {a : Act} {w : World} {ρ : Rho}, rounds (fun s k => emit c b s ls lv k) n s = .ok t → eval tb t η = some out → η.length = s.ne → Inv C η npin ρ0 s a w ρ →
    Code.rounds c.P b Q n a w
  | 0, s, t, η, a, w, ρ, h, _, _, _ => by simp only [rounds] at h; cases h
  | n + 1, s, t, η, a, w, ρ, h, he, hn, I => by
    simp only [rounds] at h
    show b.wp c.P (Exit.then (Code.rounds c.P b Q n) Q) a w
    exact IH h he hn I ⟨fun s t η a w ρ h he hn I => rounds_ok W IH n h he hn I, W.r, W.j⟩

theorem iter_ok {ls : List Lab} {lv : Nat} {k : SSt → E T} {out : Out} {b : Code} {g : Tgt} {tB : T} {Q : Exit → Act → World → Prop} (W : Ways c tb C npin ρ0 out ls k Q) (hc : c.npin = npin)
    (hb : emit c b g.st (⟨.back, g, lv⟩ :: ls) lv (jumpTo c 0 g) = .ok tB)
    (IH : ∀ {out : Out} {η : List PV} {a : Act} {w : World} {ρ : Rho} {Q : Exit → Act → World → Prop}, eval tb tB η = some out → η.length = g.np → Inv C η npin ρ0 g.st a w ρ →
      Ways c tb C npin ρ0 out (⟨.back, g, lv⟩ :: ls) (jumpTo c 0 g) Q → b.wp c.P Q a w) : ∀ (n : Nat) {v : List PV} {a : Act} {w : World} {ρ : Rho}, iterO (eval tb tB) n v = some out → v.length = g.np → Inv C v npin ρ0 g.st a w ρ →
    Code.rounds c.P b Q n a w
  | 0, v, a, w, ρ, h, _, _ => by simp only [iterO] at h; cases h
  | n + 1, v, a, w, ρ, h, hn, I => by
    simp only [iterO] at h
    show b.wp c.P (Exit.then (Code.rounds c.P b Q n) Q) a w
    cases ho : eval tb tB v with
    | none => rw [ho] at h; cases h
    | some o1 =>
      rw [ho] at h
      refine IH ho hn I ⟨fun s t η a w ρ h1 he hn1 I1 => ?_, fun rs u ρ' a w h1 h2 h3 h4 h5 h6 h7 h8 => ?_, fun id i lab u a w ρ h1 h2 h3 h4 => ?_⟩
      · obtain ⟨v', ρ', e1, e2, J⟩ := jumpTo_ok h1 hc he hn1 I1
        subst e1
        exact iter_ok W hc hb IH n h e2 J
      · subst h1
        simp only [Option.some.injEq] at h
        exact W.r rs u ρ' a w h.symm h2 h3 h4 h5 h6 h7 h8
      · simp only [findLab] at h1
        rw [if_neg (by intro q; cases q), findLab_succ, Option.map_eq_some_iff] at h1
        obtain ⟨⟨i', lab''⟩, z1, z2⟩ := h1
        cases z2
        subst h2
        simp only [Option.some.injEq] at h
        exact W.j id i' lab'' u a w ρ z1 h.symm h3 h4

theorem emit_ok (hE : Ents c.P c.gl c.es tb) (hG : GL c.gl C) (hM : c.P.follows .mixedOrders = true) (hc : c.npin = npin) : ∀ (code : Code) {s : SSt} {ls : List Lab} {lv : Nat} {k : SSt → E T} {t : T} {η : List PV} {out : Out} {a : Act} {w : World} {ρ : Rho} {Q : Exit → Act → World → Prop},
    emit c code s ls lv k = .ok t → eval tb t η = some out → η.length = s.ne → Inv C η npin ρ0 s a w ρ → Ways c tb C npin ρ0 out ls k Q → code.wp c.P Q a w
  | .skip, s, ls, lv, k, t, η, out, a, w, ρ, Q, h, he, hn, I, W => by
    simp only [emit] at h
    exact wp_skip (W.n _ _ _ _ _ _ h he hn I)
  | .label _, s, ls, lv, k, t, η, out, a, w, ρ, Q, h, he, hn, I, W => by
    simp only [emit] at h
    exact wp_label (W.n _ _ _ _ _ _ h he hn I)
  | .region id ops draw, s, ls, lv, k, t, η, out, a, w, ρ, Q, h, he, hn, I, W => by
    simp only [emit] at h
    exact emitR_ok hE hG hM hc h he hn I W
  | .seq x y, s, ls, lv, k, t, η, out, a, w, ρ, Q, h, he, hn, I, W => by
    simp only [emit] at h
    refine wp_seq ?_
    exact emit_ok hE hG hM hc x h he hn I ⟨fun s t η a w ρ h he hn I => emit_ok hE hG hM hc y h he hn I W, W.r, W.j⟩
  | .cond x y z, s, ls, lv, k, t, η, out, a, w, ρ, Q, h, he, hn, I, W => by
    simp only [emit] at h
    replace h := ebind h
    obtain ⟨at_, e1, h⟩ := h
    obtain ⟨b, hb, hx⟩ := condAtom_ok e1 I.tm
    refine wp_cond hx ?_
    split at h
    · cases hb
      exact emit_ok hE hG hM hc y h he hn I W
    · cases hb
      exact emit_ok hE hG hM hc z h he hn I W
    · split at h
      · replace h := ebind h
        obtain ⟨ta, h1, h⟩ := h
        replace h := ebind h
        obtain ⟨tb', h2, h⟩ := h
        replace h := ebind h
        obtain ⟨tk, h3, h⟩ := h
        cases h
        obtain ⟨o1, he1, ho⟩ := eval_seq he
        have W' := fun (lab : Lab) (hl : ∀ id, lab.key ≠ .exit id) => W.inner (lab := lab) hc ho h3 hl
        rcases eval_ite he1 with ⟨q1, q2⟩ | ⟨q1, q2⟩
        · rw [hb] at q1; cases q1
          exact emit_ok hE hG hM hc y h1 q2 hn (I.known (.inr ⟨_, _, hb, rfl⟩)) (W' _ (fun _ q => by cases q))
        · rw [hb] at q1; cases q1
          exact emit_ok hE hG hM hc z h2 q2 hn (I.known (.inr ⟨_, _, hb, rfl⟩)) (W' _ (fun _ q => by cases q))
      · replace h := ebind h
        obtain ⟨ta, h1, h⟩ := h
        replace h := ebind h
        obtain ⟨tb', h2, h⟩ := h
        cases h
        rcases eval_ite he with ⟨q1, q2⟩ | ⟨q1, q2⟩
        · rw [hb] at q1; cases q1
          exact emit_ok hE hG hM hc y h1 q2 hn (I.known (.inr ⟨_, _, hb, rfl⟩)) W
        · rw [hb] at q1; cases q1
          exact emit_ok hE hG hM hc z h2 q2 hn (I.known (.inr ⟨_, _, hb, rfl⟩)) W
  | .block id b, s, ls, lv, k, t, η, out, a, w, ρ, Q, h, he, hn, I, W => by
    simp only [emit] at h
    replace h := ebind h
    obtain ⟨ta, h1, h⟩ := h
    replace h := ebind h
    obtain ⟨tk, h2, h⟩ := h
    cases h
    obtain ⟨o1, he1, ho⟩ := eval_seq he
    exact wp_block (emit_ok hE hG hM hc b h1 he1 hn I (W.block hc ho h2))
  | .loop b, s, ls, lv, k, t, η, out, a, w, ρ, Q, h, he, hn, I, W => by
    simp only [emit] at h
    split at h
    · exact wp_loop_rounds 64 (rounds_ok W (fun h he hn I W => emit_ok hE hG hM hc b h he hn I W) 64 h he hn I)
    · replace h := ebind h
      obtain ⟨⟨tm, s1, is⟩, h1, h⟩ := h
      simp only at h
      split at h
      · cases h
      · rename_i bl as hf
        replace h := ebind h
        obtain ⟨tB, h2, h⟩ := h
        cases h
        obtain ⟨e, N, hl, he2⟩ := insT_ok he
        have hp := Pre.app η e
        rw [hn] at N
        obtain ⟨ρ1, J, w1, w2, w3⟩ := viewTm_ok h1 (I.iv.pre hp) ((I.tm.vvs).up hp (Ext.refl _)) N
        simp only [eval] at he2
        split at he2
        · rename_i v hv
          rw [hc] at hf
          obtain ⟨z1, z2, z3⟩ := fit_inv hf J hv w1
          exact wp_loop_rounds big (iter_ok W hc h2 (fun he hn I W => emit_ok hE hG hM hc b h2 he hn I W) big he2 z3 ⟨z1.hr, z1.fr, z2.tm, z1.top, z1.pin, I.df⟩)
        · cases he2
  | .scope b, s, ls, lv, k, t, η, out, a, w, ρ, Q, h, he, hn, I, W => by
    simp only [emit] at h
    exact wp_scope_straight (emit_ok hE hG hM hc b h he hn I ⟨W.n, W.r, W.j⟩)
  | .exit id, s, ls, lv, k, t, η, out, a, w, ρ, Q, h, he, hn, I, W => by
    simp only [emit] at h
    split at h
    · rename_i i l hl
      obtain ⟨v, ρ', e1, e2, J⟩ := jumpTo_ok h hc he hn I
      exact wp_exit (W.j id i l v a w ρ' hl e1 e2 J)
    · cases h
  | .ret, s, ls, lv, k, t, η, out, a, w, ρ, Q, h, he, hn, I, W => by
    simp only [emit] at h
    obtain ⟨rs, v, ρ', e1, e2, e3, e4, e5, e6, e7⟩ := emitRet_ok h hc he hn I
    exact wp_ret (W.r rs v ρ' a w e1 I.df e2 e3 e4 e5 e6 e7)
  | .rangeFunc _ _ _ _, s, ls, lv, k, t, η, out, a, w, ρ, Q, h, he, hn, I, W => by simp only [emit] at h; cases h
  | .goto _, s, ls, lv, k, t, η, out, a, w, ρ, Q, h, he, hn, I, W => by simp only [emit] at h; cases h
  | .refuse _, s, ls, lv, k, t, η, out, a, w, ρ, Q, h, he, hn, I, W => by simp only [emit] at h; cases h
end
end Gm

/- Functions: a function that compiles keeps its promise. -/
namespace Gm
open Go

theorem VVs.fill {η : List PV} {ρ : Rho} : ∀ {l : List SV} {us : List Value} {n : Nat}, VVs η ρ l us → VVs η ρ (l ++ List.replicate n (.c .any)) (us ++ List.replicate n undef)
  | [], [], n, _ => by
    simp only [List.nil_append]
    induction n with
    | zero => trivial
    | succ n ih => exact ⟨trivial, ih⟩
  | _ :: _, _ :: _, n, h => ⟨h.1, h.2.fill⟩
  | [], _ :: _, _, h => h.elim
  | _ :: _, [], _, h => h.elim

theorem compile_ok {c : Cfg} {tb : List PF} {f : FuncId} {t : T} (hE : Ents c.P c.gl c.es tb) (hl : ∀ F ∈ tb, Lawful F) (hM : c.P.follows .mixedOrders = true) (hf : c.P.funcs[f]? = some c.fn)
    (hname : (c.fn.name == "runtime.NumGoroutine") = false) (h : compile c = .ok t) : Contract c.P c.gl f c.sg (t.fn tb) := by
  intro w ρ ps rs args hv H htop hnp hrs hlen hG
  have he := T.fn_some hl t ps rs hrs
  unfold compile at h
  split at h
  · cases h
  · rename_i hchk
    simp only [Bool.not_eq_true', Bool.not_eq_false, Bool.and_eq_true, beq_iff_eq] at hchk
    obtain ⟨hwf, hpin⟩ := hchk
    have W := wfSig_ok hwf
    split at h
    · cases h
    · rename_i body hb
      simp only at h
      unfold CallTo
      have hcall : (callFunc f args).run c.P w = .ok (.enter f args) w := by
        have hn' : ¬ c.fn.name = "runtime.NumGoroutine" := by simpa using hname
        simp [callFunc, hf, hn', hb]
      rw [hcall]
      refine calls_of_wp hf hb ?_
      have hal : args.size = c.sg.args.length := by simpa using hv.len
      have hfoot : ∀ b sb rb, hpf c.sg.heap b = some sb → ρ b = some rb → ∀ x ∈ rb.foot, w.heap.size ≤ x ∨ touchOf c.sg ρ x ∨ (sb.rw = false ∧ aliasOf c.sg ρ x) := by
        intro b sb rb e r x hx
        cases hrw : sb.rw with
        | true => exact .inr (.inl ⟨b, sb, rb, e, hrw, r, hx⟩)
        | false => exact .inr (.inr ⟨rfl, b, sb, rb, e, hrw, r, hx⟩)
      have tmv : VVs ps ρ (c.sg.args ++ List.replicate (c.fn.ntmps - c.sg.args.length) (.c .any)) (args ++ Array.replicate (c.fn.ntmps - args.size) undef).toList := by
        rw [hal, Array.toList_append, Array.toList_replicate]
        exact hv.fill
      refine emit_ok (C := ⟨w, touchOf c.sg ρ, aliasOf c.sg ρ⟩) (ρ0 := ρ) (npin := c.sg.npin) hE hG hM hpin body h he hnp
        ⟨H, ⟨rfl, rfl, rfl, Nat.le_refl _, fun _ _ _ => rfl, hfoot⟩, VVs.tm (a := ⟨_, []⟩) tmv, htop, fun _ _ _ q => q, rfl⟩ ?_
      have back : ∀ {rs' : List PV} {v : Value} {ρ' : Rho} {w' : World}, Out.ret rs = Out.ret rs' → VV rs' ρ' c.sg.res v → HR rs' ρ' (hpf c.sg.out) w' → FR ⟨w, touchOf c.sg ρ, aliasOf c.sg ρ⟩ ρ' (hpf c.sg.out) w' →
          (∀ b rb, b < c.sg.npin → ρ b = some rb → ρ' b = some rb) → Back c.sg ρ w rs v w' := by
        intro rs' v ρ' w' e1 e5 e6 e7 e8
        cases e1
        refine ⟨ρ', e5, e6, fun b hb => ?_, e7⟩
        obtain ⟨sb, hsb, _⟩ := W.pins b hb
        obtain ⟨rb, hrb, _⟩ := H.bc b sb hsb
        rw [e8 b rb hb hrb, hrb]
      refine ⟨fun s t η a w' ρ1 h he hn I => ?_, fun rs' v ρ' a w' e1 e2 e3 e4 e5 e6 e7 e8 => ⟨e2, v, e3, back e1 e5 e6 e7 e8⟩, fun id i lab v a w' ρ1 h1 _ _ _ => by simp [findLab] at h1⟩
      obtain ⟨rs', v, ρ', e1, e2, e3, e4, e5, e6, e7⟩ := emitRet_ok h hpin he hn I
      exact ⟨I.df, v, e2, back e1 e4 e5 e6 e7⟩

end Gm

/- The two functions without a body. -/
namespace Gm
open Go

def carrySig : Sig := ⟨[.c (.int .u64 (.v 0)), .c (.int .u64 (.v 1)), .c (.int .u64 (.v 2))], [], 0, 3, .tup [⟨false, [.int .u64 (.v 0)]⟩, ⟨false, [.int .u64 (.v 1)]⟩], [], 2⟩

def carryF (f : Int → Int → Int → Int × Int) : PF := fun vs k =>
  match vs with
  | [.int x, .int y, .int c] => if 0 ≤ x ∧ 0 ≤ y ∧ 0 ≤ c ∧ c ≤ 1 ∧ x < 18446744073709551616 ∧ y < 18446744073709551616 then k [.int (f x y c).1, .int (f x y c).2] else none
  | _ => none

theorem carryF_lawful {f : Int → Int → Int → Int × Int} : Lawful (carryF f) := by
  intro vs k
  unfold carryF
  split
  · split
    · rfl
    · rfl
  · rfl

def addC (x y c : Int) : Int × Int := ((x + y + c) % 18446744073709551616, (x + y + c) / 18446744073709551616)
def subC64 (x y c : Int) : Int × Int := ((x - y - c) % 18446744073709551616, if x < y + c then 1 else 0)

def sub64Entry : Array Value → Sem Value := fun args => do
  let (x, y, b) ← Extern.MathBitsCarry.three "Sub64" args
  pure (Extern.MathBitsCarry.pair ((x + Extern.MathBitsCarry.m64 - y - b) % Extern.MathBitsCarry.m64) (if x < y + b then 1 else 0))

theorem run_sub64 {P : Program} (x y c : Int) (hx : 0 ≤ x) (hy : 0 ≤ y) (hc0 : 0 ≤ c) (hc : c ≤ 1) (hx2 : x < 18446744073709551616) (hy2 : y < 18446744073709551616) (w : World) :
    (sub64Entry #[.int .u64 x, .int .u64 y, .int .u64 c]).run P w = .ok (.tuple #[.int .u64 (subC64 x y c).1, .int .u64 (subC64 x y c).2]) w := by
  have key : ∀ k : Nat, k ≤ 1 → (sub64Entry #[.int .u64 x, .int .u64 y, .int .u64 (k : Int)]).run P w =
      .ok (Extern.MathBitsCarry.pair ((x.toNat + Extern.MathBitsCarry.m64 - y.toNat - k) % Extern.MathBitsCarry.m64) (if x.toNat < y.toNat + k then 1 else 0)) w := by
    intro k hk
    have : k = 0 ∨ k = 1 := by omega
    rcases this with rfl | rfl <;> rfl
  obtain ⟨k, rfl⟩ := Int.eq_ofNat_of_zero_le hc0
  rw [key k (by omega)]
  obtain ⟨X, rfl⟩ := Int.eq_ofNat_of_zero_le hx
  obtain ⟨Y, rfl⟩ := Int.eq_ofNat_of_zero_le hy
  simp only [Extern.MathBitsCarry.pair, Extern.MathBitsCarry.m64, Int.toNat_natCast, subC64]
  have e1 : (Int.ofNat ((X + 2 ^ 64 - Y - k) % 2 ^ 64)) = ((X : Int) - Y - k) % 18446744073709551616 := by
    show (((X + 2 ^ 64 - Y - k) % 2 ^ 64 : Nat) : Int) = _
    omega
  have e2 : (Int.ofNat (if X < Y + k then 1 else 0)) = if (X : Int) < (Y : Int) + (k : Int) then 1 else 0 := by
    show ((if X < Y + k then 1 else 0 : Nat) : Int) = _
    split <;> split <;> omega
  rw [e1, e2]

theorem carry_contract {P : Program} {gl : Nat → Option (CK × List Int)} {f : FuncId} {fn : Func} {e : Array Value → Sem Value} {g : Int → Int → Int → Int × Int} (hf : P.funcs[f]? = some fn) (hname : (fn.name == "runtime.NumGoroutine") = false)
    (hb : fn.body.isNone = true) (hn : Extern.findNext fn = none) (he : Extern.find fn = some e)
    (hr : ∀ (x y c : Int) (w : World), 0 ≤ x → 0 ≤ y → 0 ≤ c → c ≤ 1 → x < 18446744073709551616 → y < 18446744073709551616 →
      (e #[.int .u64 x, .int .u64 y, .int .u64 c]).run P w = .ok (.tuple #[.int .u64 (g x y c).1, .int .u64 (g x y c).2]) w) : Contract P gl f carrySig (carryF g) := by
  intro w ρ ps rs args hv H htop hnp hrs hlen hG
  unfold CallTo
  rw [run_callFunc_extern hf hname hb hn he]
  obtain ⟨u0, us, q0, h0, hv⟩ := hv.more
  obtain ⟨u1, us1, q1, h1, hv⟩ := hv.more
  obtain ⟨u2, q2, h2⟩ := hv.one
  obtain ⟨x, hx, rfl⟩ := h0
  obtain ⟨y, hy, rfl⟩ := h1
  obtain ⟨c, hc, rfl⟩ := h2
  have hps : ps = [.int x, .int y, .int c] := by
    match ps, hnp with
    | [a0, a1, a2], _ =>
      simp [look] at hx hy hc
      rw [hx, hy, hc]
  have hargs : args = #[.int .u64 x, .int .u64 y, .int .u64 c] := by
    apply Array.ext'
    rw [q0, q1, q2]
  subst hps; subst hargs
  unfold carryF at hrs
  simp only at hrs
  split at hrs
  · rename_i hcond
    obtain ⟨c0, c1, c2, c3, c4, c5⟩ := hcond
    cases hrs
    rw [hr x y c w c0 c1 c2 c3 c4 c5]
    refine ⟨fun _ => none, ⟨_, rfl, ⟨⟨.int .u64 (.v 0), rfl, ⟨_, rfl, rfl⟩⟩, ⟨.int .u64 (.v 1), rfl, ⟨_, rfl, rfl⟩⟩, trivial⟩⟩, ⟨fun b sb e => by simp [carrySig, hpf] at e, fun b b' sb sb' rb rb' e => by simp [carrySig, hpf] at e⟩,
      fun b hb => by simp [carrySig] at hb, ⟨rfl, rfl, rfl, Nat.le_refl _, fun _ _ _ => rfl, fun b sb rb e => by simp [carrySig, hpf] at e⟩⟩
  · cases hrs

theorem add64_ok {P : Program} {gl : Nat → Option (CK × List Int)} {f : FuncId} {fn : Func} (hf : P.funcs[f]? = some fn) (hname : (fn.name == "runtime.NumGoroutine") = false)
    (hb : fn.body.isNone = true) (hn : Extern.findNext fn = none) (he : Extern.find fn = some add64Entry) : Contract P gl f carrySig (carryF addC) :=
  carry_contract hf hname hb hn he fun x y c w h1 h2 h3 h4 _ _ => run_add64 x y c h1 h2 h3 h4 w

theorem sub64_ok {P : Program} {gl : Nat → Option (CK × List Int)} {f : FuncId} {fn : Func} (hf : P.funcs[f]? = some fn) (hname : (fn.name == "runtime.NumGoroutine") = false)
    (hb : fn.body.isNone = true) (hn : Extern.findNext fn = none) (he : Extern.find fn = some sub64Entry) : Contract P gl f carrySig (carryF subC64) :=
  carry_contract hf hname hb hn he fun x y c w h1 h2 h3 h4 h5 h6 => run_sub64 x y c h1 h2 h3 h4 h5 h6 w

end Gm

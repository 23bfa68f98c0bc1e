/- How the reading of a heap of shapes turns: a block more, a block turned, a block let go. -/
import Derived.Test.YtjbacabjgdfmdaaGreatDoorK1
import Derived.Laws.World
import Derived.Laws.Entries
namespace Gm
open Go

def setH (h : Hp) (b : Nat) (sb : Option SB) : Hp := fun c => if c = b then sb else h c
def setR (ρ : Rho) (b : Nat) (rb : RB) : Rho := fun c => if c = b then some rb else ρ c

theorem setR_ext {ρ : Rho} {b : Nat} {rb : RB} (h : ρ b = none) : Ext ρ (setR ρ b rb) := by
  intro c q e
  unfold setR
  split
  · rename_i hc; subst hc; rw [h] at e; cases e
  · exact e

theorem HR.sub {η : List PV} {ρ : Rho} {h h' : Hp} {w : World} (H : HR η ρ h w) (hs : ∀ b sb, h' b = some sb → h b = some sb) : HR η ρ h' w :=
  ⟨fun b sb e => H.bc b sb (hs b sb e), fun b b' sb sb' rb rb' e e' => H.dj b b' sb sb' rb rb' (hs _ _ e) (hs _ _ e')⟩

theorem FR.sub {C : Ctx} {ρ : Rho} {h h' : Hp} {w : World} (F : FR C ρ h w) (hs : ∀ b sb, h' b = some sb → h b = some sb) : FR C ρ h' w :=
  ⟨F.os, F.tape, F.out, F.size, F.keep, fun b sb rb e => F.foot b sb rb (hs _ _ e)⟩

/-- the map of blocks may say more -/
theorem FR.ext {C : Ctx} {ρ ρ' : Rho} {h : Hp} {w : World} {η : List PV} (F : FR C ρ h w) (H : HR η ρ h w) (hx : Ext ρ ρ') : FR C ρ' h w := by
  refine ⟨F.os, F.tape, F.out, F.size, F.keep, fun b sb rb e r => ?_⟩
  obtain ⟨q, hq, _⟩ := H.bc b sb e
  have := hx _ _ hq
  rw [r] at this; cases this
  exact F.foot b sb _ e hq

/-- the world has drawn, or grown -/
structure Later (w w' : World) : Prop where
  os : w'.os = w.os
  tape : w'.tape = w.tape
  out : w'.output = w.output
  size : w.heap.size ≤ w'.heap.size
  keep : ∀ x, x < w.heap.size → w'.heap[x]? = w.heap[x]?

theorem Later.refl (w : World) : Later w w := ⟨rfl, rfl, rfl, Nat.le_refl _, fun _ _ => rfl⟩
theorem Later.trans {a b c : World} (h : Later a b) (k : Later b c) : Later a c :=
  ⟨k.os.trans h.os, k.tape.trans h.tape, k.out.trans h.out, Nat.le_trans h.size k.size, fun x hx => (k.keep x (Nat.lt_of_lt_of_le hx h.size)).trans (h.keep x hx)⟩

theorem Later.drawn (w : World) (n : Nat) : Later w { w with drawn := n } := ⟨rfl, rfl, rfl, Nat.le_refl _, fun _ _ => rfl⟩

theorem Later.push (w : World) (o : Obj) : Later w { w with heap := w.heap.push o } :=
  ⟨rfl, rfl, rfl, by simp, fun x hx => by simp [Array.getElem?_push, Nat.ne_of_lt hx]⟩

theorem HR.later {η : List PV} {ρ : Rho} {h : Hp} {w w' : World} (H : HR η ρ h w) (L : Later w w') : HR η ρ h w' :=
  H.up (Pre.refl _) (Ext.refl _) L.size L.keep

theorem FR.later {C : Ctx} {ρ : Rho} {h : Hp} {w w' : World} (F : FR C ρ h w) (L : Later w w') : FR C ρ h w' :=
  ⟨L.os.trans F.os, L.tape.trans F.tape, L.out.trans F.out, Nat.le_trans F.size L.size,
    fun x hx ht => (L.keep x (Nat.lt_of_lt_of_le hx F.size)).trans (F.keep x hx ht), F.foot⟩

/-- a block more: its cells are new, or it has none, or it is only read and lies where another one that is only read lies -/
theorem HR.add {η : List PV} {ρ : Rho} {h : Hp} {w w' : World} {b : Nat} {sb : SB} {rb : RB} (H : HR η ρ h w) (L : Later w w') (hr : ρ b = none)
    (hb : BC η (setR ρ b rb) w' rb sb)
    (hn : (∀ x ∈ rb.foot, w.heap.size ≤ x) ∨ (sb.rw = false ∧ ∀ x ∈ rb.foot, ∃ c sc rc, h c = some sc ∧ sc.rw = false ∧ ρ c = some rc ∧ x ∈ rc.foot)) :
    HR η (setR ρ b rb) (setH h b (some sb)) w' := by
  have hx := setR_ext (rb := rb) hr
  have H' := H.later L
  have key : ∀ c sc rc, h c = some sc → ρ c = some rc → (sb.rw = true ∨ sc.rw = true) → ∀ x ∈ rb.foot, x ∉ rc.foot := by
    intro c sc rc e r hw x hxm hxc
    obtain ⟨q, hq, bc⟩ := H.bc c sc e
    rw [r] at hq; cases hq
    rcases hn with hn | ⟨hrw, hn⟩
    · have h1 := hn x hxm
      have h2 := bc.foot x hxc
      omega
    · have hsc : sc.rw = true := hw.resolve_left (by simp [hrw])
      obtain ⟨d, sd, rd, e', hd, r', hxd⟩ := hn x hxm
      have hne : c ≠ d := fun q => by subst q; rw [e] at e'; cases e'; rw [hsc] at hd; cases hd
      exact H.dj c d sc sd rc rd e e' hne hsc r r' x hxc hxd
  refine ⟨fun c sc e => ?_, fun c c' sc sc' rc rc' e e' hne hrw r r' => ?_⟩
  · unfold setH at e
    split at e
    · rename_i hc; subst hc; cases e
      exact ⟨rb, by simp [setR], hb⟩
    · obtain ⟨q, hq, bc⟩ := H'.bc c sc e
      exact ⟨q, hx _ _ hq, bc.up (Pre.refl _) hx (Nat.le_refl _) (fun _ _ => rfl)⟩
  · unfold setH at e e'
    split at e
    · rename_i hc; subst hc; cases e
      rw [if_neg (Ne.symm hne)] at e'
      obtain ⟨q, hq, _⟩ := H.bc c' sc' e'
      have := hx _ _ hq; rw [r'] at this; cases this
      have : rc = rb := by simp [setR] at r; exact r.symm
      subst this
      exact key c' sc' _ e' hq (.inl hrw)
    · obtain ⟨q, hq, _⟩ := H.bc c sc e
      have := hx _ _ hq; rw [r] at this; cases this
      split at e'
      · rename_i hc; subst hc; cases e'
        have : rc' = rb := by simp [setR] at r'; exact r'.symm
        subst this
        intro x hxm hxb
        exact key c sc _ e hq (.inr hrw) x hxb hxm
      · obtain ⟨q', hq', _⟩ := H.bc c' sc' e'
        have := hx _ _ hq'; rw [r'] at this; cases this
        exact H.dj c c' sc sc' _ _ e e' hne hrw hq hq'

theorem FR.add {η : List PV} {C : Ctx} {ρ : Rho} {h : Hp} {w w' : World} {b : Nat} {sb : SB} {rb : RB} (F : FR C ρ h w) (H : HR η ρ h w) (L : Later w w') (hr : ρ b = none)
    (hn : (∀ x ∈ rb.foot, w.heap.size ≤ x) ∨ (sb.rw = false ∧ ∀ x ∈ rb.foot, ∃ c sc rc, h c = some sc ∧ sc.rw = false ∧ ρ c = some rc ∧ x ∈ rc.foot)) :
    FR C (setR ρ b rb) (setH h b (some sb)) w' := by
  have hx := setR_ext (rb := rb) hr
  have F' := (F.later L).ext (H.later L) hx
  refine ⟨F'.os, F'.tape, F'.out, F'.size, F'.keep, fun c sc rc e r x hxm => ?_⟩
  unfold setH at e
  split at e
  · rename_i hc; subst hc; cases e
    have : rc = rb := by simp [setR] at r; exact r.symm
    subst this
    rcases hn with hn | ⟨hrw, hn⟩
    · exact .inl (Nat.le_trans F.size (hn x hxm))
    · obtain ⟨d, sd, rd, e', hd, r', hxd⟩ := hn x hxm
      rcases F.foot d sd rd e' r' x hxd with q | q | ⟨_, q⟩
      · exact .inl q
      · exact .inr (.inl q)
      · exact .inr (.inr ⟨hrw, q⟩)
  · exact F'.foot c sc rc e r x hxm

/-- a block turned: the memory has turned in its cells alone -/
theorem HR.turn {η : List PV} {ρ : Rho} {h : Hp} {w w' : World} {b : Nat} {sb sb' : SB} {rb : RB} (H : HR η ρ h w) (hb : h b = some sb) (hr : ρ b = some rb) (hrw : sb.rw = true)
    (hs : w.heap.size ≤ w'.heap.size) (hw : ∀ x, x ∉ rb.foot → x < w.heap.size → w'.heap[x]? = w.heap[x]?) (hbc : BC η ρ w' rb sb') : HR η ρ (setH h b (some sb')) w' := by
  refine ⟨fun c sc e => ?_, fun c c' sc sc' rc rc' e e' hne hrw' r r' => ?_⟩
  · unfold setH at e
    split at e
    · rename_i hc; subst hc; cases e; exact ⟨rb, hr, hbc⟩
    · rename_i hc
      obtain ⟨q, hq, bc⟩ := H.bc c sc e
      refine ⟨q, hq, bc.up (Pre.refl _) (Ext.refl _) hs (fun x hx => hw x (fun hxb => ?_) (bc.foot x hx))⟩
      exact H.dj b c sb sc rb q hb e (Ne.symm hc) hrw hr hq x hxb hx
  · unfold setH at e e'
    split at e
    · rename_i hc; subst hc
      rw [if_neg (Ne.symm hne)] at e'
      exact H.dj c c' sb sc' rc rc' hb e' hne hrw r r'
    · split at e'
      · rename_i hc; subst hc
        intro x hx hx'
        exact H.dj c' c sb sc rc' rc hb e (Ne.symm hne) hrw r' r x hx' hx
      · exact H.dj c c' sc sc' rc rc' e e' hne hrw' r r'

theorem FR.turn {C : Ctx} {ρ : Rho} {h : Hp} {w w' : World} {b : Nat} {sb sb' : SB} {rb : RB} (F : FR C ρ h w) (hb : h b = some sb) (hr : ρ b = some rb) (hrw : sb.rw = true)
    (ho : w'.os = w.os) (ht : w'.tape = w.tape) (hout : w'.output = w.output) (hs : w.heap.size ≤ w'.heap.size) (hw : ∀ x, x ∉ rb.foot → x < w.heap.size → w'.heap[x]? = w.heap[x]?) : FR C ρ (setH h b (some sb')) w' := by
  refine ⟨ho.trans F.os, ht.trans F.tape, hout.trans F.out, Nat.le_trans F.size hs, fun x hx hxt => ?_, fun c sc rc e r x hx => ?_⟩
  · refine (hw x (fun hxb => ?_) (Nat.lt_of_lt_of_le hx F.size)).trans (F.keep x hx hxt)
    rcases F.foot b sb rb hb hr x hxb with q | q | ⟨q, _⟩
    · omega
    · exact hxt q
    · rw [hrw] at q; cases q
  · unfold setH at e
    split at e
    · rename_i hc; subst hc; cases e
      rw [hr] at r; cases r
      rcases F.foot c sb rb hb hr x hx with q | q | ⟨q, _⟩
      · exact .inl q
      · exact .inr (.inl q)
      · rw [hrw] at q; cases q
    · exact F.foot c sc rc e r x hx

/-- a list that isn't written any more -/
theorem BC.weak {η : List PV} {ρ : Rho} {w : World} {rb : RB} {ck : CK} {wd : Nat} {a : Atom} {rw : Bool} (h : BC η ρ w rb (.list ck wd a rw)) : BC η ρ w rb (.list ck wd a false) := by
  cases rw with
  | false => exact h
  | true =>
    have hf := h.foot
    obtain ⟨l, e1, e2, e3, e4, e5⟩ := h
    refine ⟨l, e1, e2, e3, hf, fun i x hx => ?_⟩
    rcases e5 with ⟨q1, q2, q3⟩ | ⟨blk, arr, t, q1, q2, q3, q4, q5⟩
    · have : rb.n = 0 := by omega
      rw [this] at e3
      simp at e3
      subst e3
      simp at hx
    · exact ⟨blk, 0, arr, t, _, q1, by rw [q2]; simp, q3, by simpa using q5 i x hx⟩

theorem HR.weak {η : List PV} {ρ : Rho} {h : Hp} {w : World} {b : Nat} {ck : CK} {wd : Nat} {a : Atom} {rw : Bool} (H : HR η ρ h w) (hb : h b = some (.list ck wd a rw)) :
    HR η ρ (setH h b (some (.list ck wd a false))) w := by
  refine ⟨fun c sc e => ?_, fun c c' sc sc' rc rc' e e' hne hrw' r r' => ?_⟩
  · unfold setH at e
    split at e
    · rename_i hc; subst hc; cases e
      obtain ⟨q, hq, bc⟩ := H.bc c _ hb
      exact ⟨q, hq, bc.weak⟩
    · exact H.bc c sc e
  · unfold setH at e e'
    split at e
    · cases e; simp [SB.rw] at hrw'
    · split at e'
      · rename_i hc; subst hc
        exact H.dj c c' sc _ rc rc' e hb hne hrw' r r'
      · exact H.dj c c' sc sc' rc rc' e e' hne hrw' r r'

theorem FR.weak {C : Ctx} {ρ : Rho} {h : Hp} {w : World} {b : Nat} {ck : CK} {wd : Nat} {a : Atom} {rw : Bool} (F : FR C ρ h w) (hb : h b = some (.list ck wd a rw)) :
    FR C ρ (setH h b (some (.list ck wd a false))) w := by
  refine ⟨F.os, F.tape, F.out, F.size, F.keep, fun c sc rc e r x hx => ?_⟩
  unfold setH at e
  split at e
  · rename_i hc; subst hc; cases e
    rcases F.foot c _ rc hb r x hx with q | q | ⟨_, q⟩
    · exact .inl q
    · exact .inr (.inl q)
    · exact .inr (.inr ⟨rfl, q⟩)
  · exact F.foot c sc rc e r x hx

theorem setH_none_sub {h : Hp} {b : Nat} : ∀ c sc, setH h b none c = some sc → h c = some sc := by
  intro c sc e
  unfold setH at e
  split at e
  · cases e
  · exact e

/-- the heap behind a step: where the text of the step says something new -/
def upd (h : Hp) (hp hp' : List (Option SB)) : Hp := fun b => if hpf hp' b = hpf hp b then h b else hpf hp' b

theorem upd_same {h : Hp} {hp : List (Option SB)} : upd h hp hp = h := by funext b; simp [upd]

theorem upd_hpf {hp hp' : List (Option SB)} : upd (hpf hp) hp hp' = hpf hp' := by
  funext b
  unfold upd
  split
  · rename_i e; exact e.symm
  · rfl

theorem hpf_ge {hp : List (Option SB)} {b : Nat} (h : hp.length ≤ b) : hpf hp b = none := by
  unfold hpf; rw [List.getElem?_eq_none h]; rfl

theorem hpf_app_lt {hp bs : List (Option SB)} {b : Nat} (h : b < hp.length) : hpf (hp ++ bs) b = hpf hp b := by
  unfold hpf; rw [List.getElem?_append_left h]

theorem hpf_app_ge {hp bs : List (Option SB)} {b : Nat} (h : hp.length ≤ b) : hpf (hp ++ bs) b = hpf bs (b - hp.length) := by
  unfold hpf; rw [List.getElem?_append_right h]

theorem hpf_set {hp : List (Option SB)} {b c : Nat} {x : Option SB} (h : b < hp.length) : hpf (hp.set b x) c = if c = b then x else hpf hp c := by
  unfold hpf
  rw [List.getElem?_set]
  split
  · rename_i e; subst e; simp
  · rename_i e; rw [if_neg (Ne.symm e)]

theorem upd_set {h : Hp} {hp : List (Option SB)} {b : Nat} {x : Option SB} (hb : b < hp.length) (he : h b = hpf hp b) : upd h hp (hp.set b x) = setH h b x := by
  funext c
  unfold upd setH
  rw [hpf_set hb]
  by_cases hc : c = b
  · subst hc
    simp
    intro e
    rw [he, ← e]
  · simp [hc]

/-- new blocks at the end -/
theorem upd_app {h : Hp} {hp : List (Option SB)} {sb : Option SB} (hn : h hp.length = none) : upd h hp (hp ++ [sb]) = setH h hp.length sb := by
  funext c
  unfold upd setH
  by_cases hc : c = hp.length
  · subst hc
    rw [hpf_app_ge (Nat.le_refl _), hpf_ge (Nat.le_refl _)]
    cases sb with
    | none => simp [hpf, hn]
    | some s => simp [hpf]
  · rw [if_neg hc]
    rcases Nat.lt_or_ge c hp.length with q | q
    · simp [hpf_app_lt q]
    · have e1 : hpf (hp ++ [sb]) c = none := hpf_ge (by simp; omega)
      rw [e1, hpf_ge q]; simp

/-- empty lists of their own: nil slices of numbers -/
def Nils (bs : List (Option SB)) : Prop := ∀ x ∈ bs, ∃ ck wd rw, x = some (.list ck wd .nil rw)

def nilsR (ρ : Rho) (base : Nat) (bs : List (Option SB)) : Rho := fun b =>
  if base ≤ b then match hpf bs (b - base) with
    | some (.list _ wd _ _) => some ⟨none, 0, 0, wd, []⟩
    | _ => ρ b
  else ρ b

theorem nilsR_ext {ρ : Rho} {base : Nat} {bs : List (Option SB)} (hf : ∀ b, base ≤ b → ρ b = none) : Ext ρ (nilsR ρ base bs) := by
  intro b rb e
  unfold nilsR
  split
  · rename_i h; rw [hf b h] at e; cases e
  · exact e

theorem nilsR_ext' {ρ : Rho} {base : Nat} {bs : List (Option SB)} (hf : ∀ b, base ≤ b → b < base + bs.length → ρ b = none) : Ext ρ (nilsR ρ base bs) := by
  intro b rb e
  unfold nilsR
  split
  · rename_i h
    by_cases hl : b < base + bs.length
    · rw [hf b h hl] at e; cases e
    · have : hpf bs (b - base) = none := hpf_ge (by omega)
      rw [this]; exact e
  · exact e

def addN (h : Hp) (base : Nat) (bs : List (Option SB)) : Hp := fun b => if base ≤ b ∧ b < base + bs.length then hpf bs (b - base) else h b

theorem HR.nils {η : List PV} {ρ : Rho} {h : Hp} {w : World} {base : Nat} {bs : List (Option SB)} (H : HR η ρ h w) (hn : Nils bs)
    (hf : ∀ b, base ≤ b → b < base + bs.length → ρ b = none) : HR η (nilsR ρ base bs) (addN h base bs) w := by
  have hx := nilsR_ext' hf
  have new : ∀ b sb, base ≤ b ∧ b < base + bs.length → hpf bs (b - base) = some sb → ∃ ck wd rw, sb = .list ck wd .nil rw ∧ nilsR ρ base bs b = some ⟨none, 0, 0, wd, []⟩ := by
    intro b sb hb e
    have hlt : b - base < bs.length := by omega
    have e1 : bs[b - base]?.join = some sb := e
    rw [List.getElem?_eq_getElem hlt] at e1
    have e2 : bs[b - base] = some sb := by simpa using e1
    obtain ⟨ck, wd, rw, h3⟩ := hn _ (List.getElem_mem hlt)
    rw [e2] at h3; cases h3
    refine ⟨ck, wd, rw, rfl, ?_⟩
    unfold nilsR
    rw [if_pos hb.1, e]
  refine ⟨fun b sb e => ?_, fun b b' sb sb' rb rb' e e' hne hrw r r' => ?_⟩
  · unfold addN at e
    split at e
    · rename_i hb
      obtain ⟨ck, wd, rw, rfl, h1⟩ := new b sb hb e
      refine ⟨_, h1, ?_⟩
      cases rw with
      | true => exact ⟨[], rfl, rfl, by simp, Nat.le_refl _, .inl ⟨rfl, rfl, rfl⟩⟩
      | false => exact ⟨[], rfl, rfl, by simp, by simp, by simp⟩
    · obtain ⟨q, hq, bc⟩ := H.bc b sb e
      exact ⟨q, hx _ _ hq, bc.up (Pre.refl _) hx (Nat.le_refl _) (fun _ _ => rfl)⟩
  · unfold addN at e e'
    split at e
    · rename_i hb
      obtain ⟨ck, wd, rw, rfl, h1⟩ := new b sb hb e
      rw [h1] at r; cases r; simp
    · split at e'
      · rename_i hb
        obtain ⟨ck, wd, rw, rfl, h1⟩ := new b' sb' hb e'
        rw [h1] at r'; cases r'; simp
      · obtain ⟨q, hq, _⟩ := H.bc b sb e
        obtain ⟨q', hq', _⟩ := H.bc b' sb' e'
        have a1 := hx _ _ hq
        have a2 := hx _ _ hq'
        rw [r] at a1; rw [r'] at a2; cases a1; cases a2
        exact H.dj b b' sb sb' _ _ e e' hne hrw hq hq'

theorem FR.nils {η : List PV} {C : Ctx} {ρ : Rho} {h : Hp} {w : World} {base : Nat} {bs : List (Option SB)} (F : FR C ρ h w) (H : HR η ρ h w) (hn : Nils bs)
    (hf : ∀ b, base ≤ b → b < base + bs.length → ρ b = none) : FR C (nilsR ρ base bs) (addN h base bs) w := by
  have hx := nilsR_ext' hf
  have F' := F.ext H hx
  refine ⟨F.os, F.tape, F.out, F.size, F.keep, fun b sb rb e r x hxm => ?_⟩
  unfold addN at e
  split at e
  · rename_i hb
    have hlt : b - base < bs.length := by omega
    have e1 : bs[b - base]?.join = some sb := e
    rw [List.getElem?_eq_getElem hlt] at e1
    have e2 : bs[b - base] = some sb := by simpa using e1
    obtain ⟨ck, wd, rw, h3⟩ := hn _ (List.getElem_mem hlt)
    rw [e2] at h3; cases h3
    unfold nilsR at r
    rw [if_pos hb.1, e] at r
    cases r; simp at hxm
  · exact F'.foot b sb rb e r x hxm

theorem upd_nils {h : Hp} {hp bs : List (Option SB)} (hn : ∀ b, hp.length ≤ b → b < hp.length + bs.length → h b = none) : upd h hp (hp ++ bs) = addN h hp.length bs := by
  funext c
  unfold upd addN
  rcases Nat.lt_or_ge c hp.length with q | q
  · rw [hpf_app_lt q, if_pos rfl, if_neg (by omega)]
  · rw [hpf_app_ge q, hpf_ge q]
    by_cases hl : c < hp.length + bs.length
    · have hh : hp.length ≤ c ∧ c < hp.length + bs.length := ⟨q, hl⟩
      simp only [if_pos hh]
      split
      · rename_i e; rw [e]; exact hn c q hl
      · rfl
    · rw [hpf_ge (by omega), if_pos rfl, if_neg (by omega)]

end Gm

/- Each operation does what its static side says (first part). -/
namespace Gm
open Go

theorem ebind {α β : Type} {x : E α} {f : α → E β} {r : β} (h : (x >>= f) = .ok r) : ∃ y, x = .ok y ∧ f y = .ok r := by
  cases x with
  | error e => cases h
  | ok y => exact ⟨y, rfl, h⟩

/-- what holds of an operand -/
def TmOK (η : List PV) (ρ : Rho) (s : SSt) (a : Act) (x : Operand) : Prop := ∀ t sv, x = .tmp t → s.tm[t]? = some sv → VV η ρ sv (a.eval x)

structure St (C : Ctx) (η : List PV) (ρ : Rho) (h : Hp) (s : SSt) (r : Res) (w : World) : Prop where
  hr : HR η ρ h w
  fr : FR C ρ h w
  ag : ∀ b ∈ r.rd, h b = hpf s.hp b
  fresh : ∀ b, s.hp.length ≤ b → b < r.hp.length → ρ b = none ∧ h b = none

def Post (C : Ctx) (η : List PV) (ρ : Rho) (h : Hp) (s : SSt) (r : Res) (cv : Value) (w' : World) : Prop :=
  ∃ ρ', VV η ρ' r.val cv ∧ Ext ρ ρ' ∧ (∀ b, ρ' b ≠ ρ b → s.hp.length ≤ b ∧ b < r.hp.length) ∧ HR η ρ' (upd h s.hp r.hp) w' ∧ FR C ρ' (upd h s.hp r.hp) w'

def OpSem (P : Program) (o : Oper) (a : Act) (w : World) (R : Value → World → Prop) : Prop :=
  ∀ (K : Act → World → Prop) (Q : Exit → Act → World → Prop), (∀ cv w', R cv w' → K (a.put o.dst cv) w') → o.wp P a w K Q

section
variable {P : Program} {o : Oper} {a : Act} {w : World} {R : Value → World → Prop}

theorem OpSem.value {v : Value} {w' : World} (h : (execOp a.eval o).run P w = .ok (.value v) w') (hr : R v w') : OpSem P o a w R := by
  intro K Q hk
  unfold Oper.wp
  rw [h]
  exact hk _ _ hr

theorem OpSem.skip {w' : World} (h : (execOp a.eval o).run P w = .ok .skip w') (hr : R undef w') : OpSem P o a w R := by
  intro K Q hk
  unfold Oper.wp
  rw [h]
  exact hk _ _ hr
end

/-! ### constants -/

theorem nilsR_left {ρ : Rho} {base : Nat} {bs bs' : List (Option SB)} (hf : ∀ b, base ≤ b → b < base + (bs ++ bs').length → ρ b = none) : Ext (nilsR ρ base bs) (nilsR ρ base (bs ++ bs')) := by
  intro b rb e
  unfold nilsR at e ⊢
  split at e
  · rename_i hb
    rw [if_pos hb]
    rcases Nat.lt_or_ge (b - base) bs.length with q | q
    · rw [hpf_app_lt q]; exact e
    · rw [hpf_ge q] at e
      have e' : ρ b = some rb := e
      by_cases hl : b < base + (bs ++ bs').length
      · rw [hf b hb hl] at e'; cases e'
      · have h1 : hpf (bs ++ bs') (b - base) = none := hpf_ge (by omega)
        rw [h1]; exact e'
  · rename_i hb; rw [if_neg hb]; exact e

theorem nilsR_right {ρ : Rho} {base : Nat} {bs bs' : List (Option SB)} (hf : ∀ b, base ≤ b → b < base + (bs ++ bs').length → ρ b = none) : Ext (nilsR ρ (base + bs.length) bs') (nilsR ρ base (bs ++ bs')) := by
  intro b rb e
  have key : ∀ q : Nat, base ≤ q → ρ q = some rb → base + (bs ++ bs').length ≤ q := by
    intro q hq hr
    rcases Nat.lt_or_ge q (base + (bs ++ bs').length) with h | h
    · rw [hf q hq h] at hr; cases hr
    · exact h
  unfold nilsR at e ⊢
  split at e
  · rename_i hb
    have hb' : base ≤ b := by omega
    rw [if_pos hb', hpf_app_ge (show bs.length ≤ b - base by omega)]
    have : b - base - bs.length = b - (base + bs.length) := by omega
    rw [this]
    exact e
  · rename_i hb
    split
    · rename_i hb'
      have := key b hb' e
      simp at this
      omega
    · exact e

theorem Nils.app {bs bs' : List (Option SB)} (h : Nils bs) (h' : Nils bs') : Nils (bs ++ bs') := by
  intro x hx
  rcases List.mem_append.1 hx with q | q
  · exact h x q
  · exact h' x q

theorem Nils.nil : Nils [] := by intro x hx; cases hx

theorem constC_ok (P : Program) {η : List PV} {ρ : Rho} {t : TypeId} {v : Value} {base : Nat} {c : SC} {bs : List (Option SB)} (h : constC P t v base = (c, bs)) :
    Nils bs ∧ VC η (nilsR ρ base bs) c v := by
  unfold constC at h
  split at h
  · cases h; exact ⟨Nils.nil, _, rfl, rfl⟩
  · cases h; exact ⟨Nils.nil, _, rfl, rfl⟩
  · cases h; exact ⟨Nils.nil, rfl⟩
  · split at h
    · rename_i ck wd _
      cases h
      refine ⟨?_, ⟨none, 0, 0, wd, []⟩, 0, ?_, Nat.le_refl _, Nat.le_refl _, rfl, fun _ => rfl⟩
      · intro x hx; simp at hx; subst hx; exact ⟨_, _, _, rfl⟩
      · simp [nilsR, hpf]
    · cases h; exact ⟨Nils.nil, rfl⟩
  · cases h; exact ⟨Nils.nil, trivial⟩

theorem constCs_ok (P : Program) {η : List PV} {ρ : Rho} : ∀ {vs : List Value} {ts : List TypeId} {base : Nat} {cs : List SC} {bs : List (Option SB)}, constCs P ts vs base = (cs, bs) →
    (∀ b, base ≤ b → b < base + bs.length → ρ b = none) → Nils bs ∧ VL η (nilsR ρ base bs) cs vs
  | [], ts, base, cs, bs, h, _ => by simp [constCs] at h; obtain ⟨rfl, rfl⟩ := h; exact ⟨Nils.nil, trivial⟩
  | v :: vs, ts, base, cs, bs, h, hf => by
    simp only [constCs] at h
    generalize h1 : constC P (ts.headD 0) v base = x at h
    generalize h2 : constCs P ts.tail vs (base + x.2.length) = y at h
    obtain ⟨c, b1⟩ := x
    obtain ⟨cl, b2⟩ := y
    cases h
    obtain ⟨n1, v1⟩ := constC_ok P (η := η) (ρ := ρ) h1
    obtain ⟨n2, v2⟩ := constCs_ok P (η := η) (ρ := ρ) h2 (fun b hb hl => hf b (by simp at hb; omega) (by simp at hl ⊢; omega))
    exact ⟨n1.app n2, v1.up (Pre.refl _) (nilsR_left hf), v2.up (Pre.refl _) (nilsR_right hf)⟩

theorem constV_ok (P : Program) {η : List PV} {ρ : Rho} {t : TypeId} {v : Value} {base : Nat} {c : SV} {bs : List (Option SB)} (h : constV P t v base = (c, bs))
    (hf : ∀ b, base ≤ b → b < base + bs.length → ρ b = none) : Nils bs ∧ VV η (nilsR ρ base bs) c v := by
  unfold constV at h
  split at h
  · rename_i cs
    generalize h1 : constCs P (cellTys P 8 t) cs.toList base = x at h
    obtain ⟨l, b1⟩ := x
    cases h
    obtain ⟨n1, v1⟩ := constCs_ok P (η := η) (ρ := ρ) h1 hf
    exact ⟨n1, cs, rfl, v1⟩
  · cases h; exact ⟨Nils.nil, trivial⟩
  · generalize h1 : constC P t v base = x at h
    obtain ⟨c1, b1⟩ := x
    cases h
    exact constC_ok P h1

theorem nilsR_nil {ρ : Rho} {base : Nat} : nilsR ρ base [] = ρ := by
  funext b
  unfold nilsR
  split
  · rfl
  · rfl

section
variable {P : Program} {o : Oper} {a : Act} {w : World} {C : Ctx} {η : List PV} {ρ : Rho} {h : Hp} {s : SSt} {r : Res}

theorem opnd_ok {t : TypeId} {x : Operand} {v : SV} {bs : List (Option SB)} (hs : opnd P s t x = .ok (v, bs)) (hx : TmOK η ρ s a x)
    (hf : ∀ b, s.hp.length ≤ b → b < s.hp.length + bs.length → ρ b = none) : Nils bs ∧ VV η (nilsR ρ s.hp.length bs) v (a.eval x) := by
  unfold opnd at hs
  split at hs
  · rename_i i
    split at hs
    · rename_i sv e
      cases hs
      rw [nilsR_nil]
      exact ⟨Nils.nil, hx i _ rfl e⟩
    · cases hs
  · rename_i c
    have h1 : constV P t c s.hp.length = (v, bs) := by injection hs
    exact constV_ok P h1 hf
  · cases hs; exact ⟨Nils.nil, rfl⟩
  · cases hs
    rw [nilsR_nil]
    exact ⟨Nils.nil, #[], #[], trivial, trivial, rfl⟩

theorem opn_ok {x : Operand} {v : SV} (hs : opn P s x = .ok v) (hx : TmOK η ρ s a x) : VV η ρ v (a.eval x) := by
  unfold opn at hs
  split at hs
  · rename_i v' e
    cases hs
    have := (opnd_ok (η := η) (ρ := ρ) e hx (by intro b h1 h2; simp at h2; omega)).2
    rwa [nilsR_nil] at this
  · cases hs
  · cases hs

theorem upd_self (e : r.hp = s.hp) : upd h s.hp r.hp = h := by rw [e]; exact upd_same

/-- a step that turns no block -/
theorem Post.plain {cv : Value} {w' : World} (S : St C η ρ h s r w) (e : r.hp = s.hp) (hv : VV η ρ r.val cv) (L : Later w w') : Post C η ρ h s r cv w' := by
  refine ⟨ρ, hv, Ext.refl _, fun b hb => absurd rfl hb, ?_, ?_⟩
  · rw [upd_self e]; exact S.hr.later L
  · rw [upd_self e]; exact S.fr.later L

/-- a step that brings empty lists alone -/
theorem Post.nils {cv : Value} {bs : List (Option SB)} (S : St C η ρ h s r w) (e : r.hp = s.hp ++ bs) (hn : Nils bs) (hv : VV η (nilsR ρ s.hp.length bs) r.val cv) : Post C η ρ h s r cv w := by
  have hf : ∀ b, s.hp.length ≤ b → b < s.hp.length + bs.length → ρ b = none := fun b h1 h2 => (S.fresh b h1 (by rw [e]; simpa using h2)).1
  have hh : ∀ b, s.hp.length ≤ b → b < s.hp.length + bs.length → h b = none := fun b h1 h2 => (S.fresh b h1 (by rw [e]; simpa using h2)).2
  refine ⟨_, hv, nilsR_ext' hf, fun b hb => ?_, ?_, ?_⟩
  · unfold nilsR at hb
    split at hb
    · rename_i hge
      refine ⟨hge, ?_⟩
      rw [e]
      rcases Nat.lt_or_ge b (s.hp ++ bs).length with q | q
      · exact q
      · have : hpf bs (b - s.hp.length) = none := hpf_ge (by simp at q; omega)
        rw [this] at hb
        exact absurd rfl hb
    · exact absurd rfl hb
  · rw [e, upd_nils hh]; exact S.hr.nils hn hf
  · rw [e, upd_nils hh]; exact S.fr.nils S.hr hn hf

theorem sMove_ok {ty : TypeId} {x : Operand} (hs : sMove P s ty x = .ok r) (ho : o.op = .move x ∨ o.op = .assign x) (S : St C η ρ h s r w) (hx : TmOK η ρ s a x) :
    OpSem P o a w (Post C η ρ h s r) := by
  obtain ⟨⟨v, bs⟩, e, hs⟩ := ebind hs
  cases hs
  obtain ⟨hn, hv⟩ := opnd_ok (η := η) (ρ := ρ) e hx (fun b h1 h2 => (S.fresh b h1 (by simpa using h2)).1)
  refine OpSem.value (v := a.eval x) (w' := w) ?_ (Post.nils S rfl hn hv)
  rcases ho with ho | ho <;> simp [execOp, ho]

theorem looks3 {η : List PV} {x y z : Atom} {vs : List PV} (h : looks η [x, y, z] = some vs) : ∃ p q r, look η x = some p ∧ look η y = some q ∧ look η z = some r ∧ vs = [p, q, r] := by
  simp only [looks] at h
  cases hx : look η x with
  | none => simp [hx] at h
  | some p => cases hy : look η y with
    | none => simp [hx, hy] at h
    | some q => cases hz : look η z with
      | none => simp [hx, hy, hz] at h
      | some r => simp [hx, hy, hz] at h; exact ⟨p, q, r, rfl, rfl, rfl, h.symm⟩

theorem looks2 {η : List PV} {x y : Atom} {vs : List PV} (h : looks η [x, y] = some vs) : ∃ p q, look η x = some p ∧ look η y = some q ∧ vs = [p, q] := by
  simp only [looks] at h
  cases hx : look η x with
  | none => simp [hx] at h
  | some p => cases hy : look η y with
    | none => simp [hx, hy] at h
    | some q => simp [hx, hy] at h; exact ⟨p, q, rfl, rfl, h.symm⟩

theorem looks1 {η : List PV} {x : Atom} {vs : List PV} (h : looks η [x] = some vs) : ∃ p, look η x = some p ∧ vs = [p] := by
  simp only [looks] at h
  cases hx : look η x with
  | none => simp [hx] at h
  | some p => simp [hx] at h; exact ⟨p, rfl, h.symm⟩

/-- the instructions have run: their answers stand in the environment -/
def InsOK (tb : List PF) (η : List PV) : Nat → List Ins → Prop
  | _, [] => True
  | ne, i :: l => ∃ vs rs, looks η i.as = some vs ∧ step tb i.p vs = some rs ∧ rs.length = i.n ∧ (∀ (j : Nat) (x : PV), rs[j]? = some x → η[ne + j]? = some x) ∧ InsOK tb η (ne + i.n) l

variable {tb : List PF}

theorem InsOK.one {ne : Nat} {p : Prim} {as : List Atom} {l : List Ins} (H : InsOK tb η ne (⟨p, as, 1⟩ :: l)) : ∃ vs x, looks η as = some vs ∧ step tb p vs = some [x] ∧ look η (.v ne) = some x ∧ InsOK tb η (ne + 1) l := by
  obtain ⟨vs, rs, h1, h2, h3, h4, h5⟩ := H
  cases rs with
  | nil => simp at h3
  | cons x t => cases t with
    | nil => exact ⟨vs, x, h1, h2, h4 0 x rfl, h5⟩
    | cons y t => simp at h3

theorem InsOK.app {l m : List Ins} : ∀ {ne : Nat}, InsOK tb η ne (l ++ m) → InsOK tb η ne l ∧ InsOK tb η (ne + insN l) m := by
  induction l with
  | nil => intro ne H; exact ⟨trivial, H⟩
  | cons i l ih =>
    intro ne H
    obtain ⟨vs, rs, h1, h2, h3, h4, h5⟩ := H
    obtain ⟨h6, h7⟩ := ih h5
    exact ⟨⟨vs, rs, h1, h2, h3, h4, h6⟩, by simp only [insN]; rw [← Nat.add_assoc]; exact h7⟩

theorem sPick_ok {c x y : Operand} (hs : sPick P s c x y = .ok r) (ho : o.op = .pick c x y) (S : St C η ρ h s r w) (hc : TmOK η ρ s a c) (hx : TmOK η ρ s a x) (hy : TmOK η ρ s a y)
    (I : InsOK tb η s.ne r.ins) : OpSem P o a w (Post C η ρ h s r) := by
  obtain ⟨vc, e1, hs⟩ := ebind hs
  have hvc := opn_ok (η := η) (ρ := ρ) e1 hc
  split at hs
  · obtain ⟨v, e2, hs⟩ := ebind hs
    cases hs
    obtain ⟨b, hb, hcv⟩ := hvc
    cases hb
    refine OpSem.value (v := a.eval x) (w' := w) (by simp [execOp, ho, hcv, asBool]) (Post.plain S rfl (opn_ok e2 hx) (Later.refl _))
  · obtain ⟨v, e2, hs⟩ := ebind hs
    cases hs
    obtain ⟨b, hb, hcv⟩ := hvc
    cases hb
    refine OpSem.value (v := a.eval y) (w' := w) (by simp [execOp, ho, hcv, asBool]) (Post.plain S rfl (opn_ok e2 hy) (Later.refl _))
  · rename_i z _ _
    obtain ⟨va, e2, hs⟩ := ebind hs
    obtain ⟨vb, e3, hs⟩ := ebind hs
    have hva := opn_ok (η := η) (ρ := ρ) e2 hx
    have hvb := opn_ok (η := η) (ρ := ρ) e3 hy
    obtain ⟨b, hb, hcv⟩ := hvc
    split at hs
    · split at hs
      · rename_i hk
        subst hk
        cases hs
        obtain ⟨vs, q, i1, i2, i3, _⟩ := InsOK.one I
        obtain ⟨p1, p2, p3, l1, l2, l3, rfl⟩ := looks3 i1
        obtain ⟨n1, hn1, hv1⟩ := hva
        obtain ⟨n2, hn2, hv2⟩ := hvb
        rw [hb] at l1; rw [hn1] at l2; rw [hn2] at l3
        cases l1; cases l2; cases l3
        simp [step, ev] at i2
        subst i2
        refine OpSem.value (v := if b = true then a.eval x else a.eval y) (w' := w) ?_ (Post.plain S rfl ⟨_, i3, by rw [hv1, hv2]; cases b <;> rfl⟩ (Later.refl _))
        cases b <;> simp [execOp, ho, hcv, asBool]
      · cases hs
    · split at hs
      · rename_i hmn
        subst hmn
        cases hs
        obtain ⟨n1, hn1, hv1⟩ := hva
        obtain ⟨n2, hn2, hv2⟩ := hvb
        rw [hn1] at hn2
        cases hn2
        refine OpSem.value (v := if b = true then a.eval x else a.eval y) (w' := w) ?_ (Post.plain S rfl ⟨n1, hn1, by rw [hv1, hv2]; cases b <;> rfl⟩ (Later.refl _))
        cases b <;> simp [execOp, ho, hcv, asBool]
      · cases hs
        obtain ⟨vs, q, i1, i2, i3, _⟩ := InsOK.one I
        obtain ⟨p1, p2, p3, l1, l2, l3, rfl⟩ := looks3 i1
        obtain ⟨n1, hn1, hv1⟩ := hva
        obtain ⟨n2, hn2, hv2⟩ := hvb
        rw [hb] at l1; rw [hn1] at l2; rw [hn2] at l3
        cases l1; cases l2; cases l3
        simp [step, ev] at i2
        subst i2
        refine OpSem.value (v := if b = true then a.eval x else a.eval y) (w' := w) ?_ (Post.plain S rfl ⟨_, i3, by rw [hv1, hv2]; cases b <;> rfl⟩ (Later.refl _))
        cases b <;> simp [execOp, ho, hcv, asBool]
    · cases hs
  · cases hs
end
end Gm

/- Each operation does what its static side says (second part: blocks made, fields, numbers). -/
namespace Gm
open Go

def cellsRB (blk : Nat) : RB := ⟨some (blk, 0), 0, 0, 0, [blk]⟩

theorem upd_cons {h : Hp} {hp bs : List (Option SB)} {sb : SB} (hn : ∀ b, hp.length ≤ b → b < hp.length + (bs.length + 1) → h b = none) :
    upd h hp (hp ++ some sb :: bs) = setH (addN h (hp.length + 1) bs) hp.length (some sb) := by
  rw [upd_nils (bs := some sb :: bs) (by simpa using hn)]
  funext c
  simp only [addN, setH]
  by_cases hc : c = hp.length
  · subst hc
    simp [hpf]
  · rw [if_neg hc]
    by_cases hl : hp.length ≤ c ∧ c < hp.length + (some sb :: bs).length
    · rw [if_pos hl]
      simp only [List.length_cons] at hl
      have hl' : hp.length + 1 ≤ c ∧ c < hp.length + 1 + bs.length := by omega
      rw [if_pos hl']
      unfold hpf
      have e : c - hp.length = (c - (hp.length + 1)) + 1 := by omega
      rw [e, List.getElem?_cons_succ]
    · rw [if_neg hl]
      simp only [List.length_cons] at hl
      have hl' : ¬ (hp.length + 1 ≤ c ∧ c < hp.length + 1 + bs.length) := by omega
      rw [if_neg hl']

section
variable {P : Program} {o : Oper} {a : Act} {w : World} {C : Ctx} {η : List PV} {ρ : Rho} {h : Hp} {s : SSt} {r : Res} {tb : List PF}

/-- a step that makes a row of cells, and brings empty lists -/
theorem Post.block {cv : Value} {cs : List SC} {bs : List (Option SB)} {arr : Array Value} {t : TypeId} (S : St C η ρ h s r w) (e : r.hp = s.hp ++ some (.cells cs) :: bs) (hn : Nils bs)
    (hl : VL η (nilsR ρ (s.hp.length + 1) bs) cs arr.toList)
    (hv : ∀ ρ' : Rho, ρ' s.hp.length = some (cellsRB w.heap.size) → Ext (nilsR ρ (s.hp.length + 1) bs) ρ' → VV η ρ' r.val cv) :
    Post C η ρ h s r cv { w with heap := w.heap.push (.cells arr t) } := by
  have hlen : r.hp.length = s.hp.length + (bs.length + 1) := by rw [e]; simp
  have hf : ∀ b, s.hp.length + 1 ≤ b → b < s.hp.length + 1 + bs.length → ρ b = none := fun b h1 h2 => (S.fresh b (by omega) (by omega)).1
  have hh : ∀ b, s.hp.length ≤ b → b < s.hp.length + (bs.length + 1) → h b = none := fun b h1 h2 => (S.fresh b h1 (by omega)).2
  have hx := nilsR_ext' hf
  have hr0 : nilsR ρ (s.hp.length + 1) bs s.hp.length = none := by
    unfold nilsR
    rw [if_neg (by omega)]
    exact (S.fresh _ (Nat.le_refl _) (by omega)).1
  have hb : BC η (setR (nilsR ρ (s.hp.length + 1) bs) s.hp.length (cellsRB w.heap.size)) { w with heap := w.heap.push (.cells arr t) } (cellsRB w.heap.size) (.cells cs) :=
    ⟨w.heap.size, arr, t, rfl, rfl, by simp, hl.up (Pre.refl _) (setR_ext hr0)⟩
  have hne : (∀ x ∈ (cellsRB w.heap.size).foot, w.heap.size ≤ x) ∨ ((SB.cells cs).rw = false ∧ ∀ x ∈ (cellsRB w.heap.size).foot, ∃ c sc rc, addN h (s.hp.length + 1) bs c = some sc ∧ sc.rw = false ∧ nilsR ρ (s.hp.length + 1) bs c = some rc ∧ x ∈ rc.foot) :=
    .inl (by intro x hx; simp [cellsRB] at hx; omega)
  refine ⟨setR (nilsR ρ (s.hp.length + 1) bs) s.hp.length (cellsRB w.heap.size), hv _ (by simp [setR]) (setR_ext hr0), hx.trans (setR_ext hr0), fun b hb => ?_, ?_, ?_⟩
  · unfold setR at hb
    split at hb
    · rename_i q; subst q; omega
    · unfold nilsR at hb
      split at hb
      · rename_i hge
        refine ⟨by omega, ?_⟩
        rcases Nat.lt_or_ge b r.hp.length with q | q
        · exact q
        · have : hpf bs (b - (s.hp.length + 1)) = none := hpf_ge (by omega)
          rw [this] at hb
          exact absurd rfl hb
      · exact absurd rfl hb
  · rw [e, upd_cons hh]
    exact (S.hr.nils hn hf).add (Later.push _ _) hr0 hb hne
  · rw [e, upd_cons hh]
    exact (S.fr.nils S.hr hn hf).add (S.hr.nils hn hf) (Later.push _ _) hr0 hne

theorem inf_ok {t : TypeId} {i : TypeInfo} (h : inf P t = some i) : P.info? t = some i ∧ ∃ d, P.underlying t = some d := by
  unfold inf at h
  split at h
  · rename_i j d e1 e2; cases h; exact ⟨e1, d, e2⟩
  · cases h

theorem zeroOf_ok {t : TypeId} {z : Value} (h : zeroOf P t = .ok z) : ∃ i, inf P t = some i ∧ i.zero = some z := by
  unfold zeroOf at h
  split at h
  · rename_i i e
    split at h
    · rename_i v e2; cases h; exact ⟨i, e, e2⟩
    · cases h
  · cases h

theorem sAlloc_ok {t : TypeId} (hs : sAlloc P s t = .ok r) (ho : o.op = .alloc t) (S : St C η ρ h s r w) : OpSem P o a w (Post C η ρ h s r) := by
  obtain ⟨z, e1, hs⟩ := ebind hs
  obtain ⟨i, hi, hz⟩ := zeroOf_ok e1
  generalize h1 : constCs P (cellTys P 8 t) z.cells.toList (s.hp.length + 1) = x at hs
  obtain ⟨cs, bs⟩ := x
  cases hs
  have hf : ∀ b, s.hp.length + 1 ≤ b → b < s.hp.length + 1 + bs.length → ρ b = none := fun b h1 h2 => (S.fresh b (by omega) (by simp; omega)).1
  obtain ⟨hn, hl⟩ := constCs_ok P (η := η) (ρ := ρ) h1 hf
  refine OpSem.value (v := .pointer (some ⟨w.heap.size, 0, none⟩)) (w' := { w with heap := w.heap.push (.cells z.cells t) }) ?_
    (Post.block S rfl hn hl fun ρ' hr' _ => ⟨_, _, hr', rfl, rfl⟩)
  simp [execOp, ho, Instr.alloc, zeroValue, typeInfo, (inf_ok hi).1, hz, newVar, newRow]

theorem VV.cells_ok {v : SV} {l : List SC} {cv : Value} (hv : VV η ρ v cv) (hc : v.cells = some l) : VL η ρ l cv.cells.toList := by
  unfold SV.cells at hc
  split at hc
  · cases hc
  · rename_i x hne
    cases hc
    have h1 : VC η ρ x cv := hv
    have : cv.cells = #[cv] := by
      cases x <;> first
        | exact absurd rfl hne
        | (simp only [VC] at h1
           first
             | (obtain ⟨_, _, rfl⟩ := h1; rfl)
             | (subst h1; rfl)
             | (obtain ⟨_, _, _, _, rfl⟩ := h1; rfl)
             | (obtain ⟨_, _, _, _, _, _, _, _, rfl⟩ := h1; rfl)
             | (obtain ⟨_, _, _, _, _, rfl, _⟩ := h1; rfl)
             | (obtain ⟨_, _, _, _, _, _, _, _, _, _, _, _, rfl, _⟩ := h1; rfl)
             | (obtain ⟨_, _, _, _, _, _, rfl⟩ := h1; rfl)
             | (obtain ⟨_, _, _, _, rfl⟩ := h1; rfl)
             | (obtain ⟨_, _, _, rfl⟩ := h1; rfl))
    rw [this]
    exact ⟨h1, trivial⟩
  · rename_i l'
    cases hc
    obtain ⟨cs, rfl, hl⟩ := hv
    exact hl
  · cases hc

theorem sBox_ok {t : TypeId} {x : Operand} (hs : sBox P s x = .ok r) (ho : o.op = .box t x) (S : St C η ρ h s r w) (hx : TmOK η ρ s a x) : OpSem P o a w (Post C η ρ h s r) := by
  obtain ⟨v, e1, hs⟩ := ebind hs
  have hv := opn_ok (η := η) (ρ := ρ) e1 hx
  split at hs
  · rename_i l hl
    cases hs
    have hc := hv.cells_ok hl
    refine OpSem.value (v := .pointer (some ⟨w.heap.size, 0, none⟩)) (w' := { w with heap := w.heap.push (.cells (a.eval x).cells t) }) ?_
      (Post.block (bs := []) (cs := l) S (by simp) Nils.nil (by rw [nilsR_nil]; exact hc) fun ρ' hr' _ => ⟨_, _, hr', rfl, rfl⟩)
    simp [execOp, ho, Instr.box, newVar, newRow]
  · cases hs

theorem sNilCheck_ok {x : Operand} (hs : sNilCheck P s x = .ok r) (ho : o.op = .nilCheck x) (S : St C η ρ h s r w) (hx : TmOK η ρ s a x) : OpSem P o a w (Post C η ρ h s r) := by
  obtain ⟨v, e1, hs⟩ := ebind hs
  have hv := opn_ok (η := η) (ρ := ρ) e1 hx
  split at hs
  · cases hs
    have hv' := hv
    obtain ⟨rb, blk, _, _, e⟩ := hv
    exact OpSem.value (v := a.eval x) (w' := w) (by simp [execOp, ho, e]) (Post.plain S rfl hv' (Later.refl _))
  · cases hs
    have hv' := hv
    obtain ⟨rb, blk, off, i, _, _, _, _, e⟩ := hv
    exact OpSem.value (v := a.eval x) (w' := w) (by simp [execOp, ho, e]) (Post.plain S rfl hv' (Later.refl _))
  · cases hs

theorem V1s.get : ∀ {l : List S1} {vs : List Value} (_ : V1s η ρ l vs) (i : Nat) (c : S1), l[i]? = some c → ∃ v, vs[i]? = some v ∧ V1 η ρ c v
  | [], _, _, i, c, h => by simp at h
  | c :: l, v :: vs, hv, 0, x, h => by simp at h; subst h; exact ⟨v, rfl, hv.1⟩
  | c :: l, v :: vs, hv, i + 1, x, h => by simp at h; obtain ⟨u, e, r⟩ := hv.2.get i x h; exact ⟨u, by simpa using e, r⟩
  | c :: l, [], hv, _, _, _ => hv.elim

theorem sExtract_ok {x : Operand} {i : Nat} (hs : sExtract P s x i = .ok r) (ho : o.op = .extract x i) (S : St C η ρ h s r w) (hx : TmOK η ρ s a x) : OpSem P o a w (Post C η ρ h s r) := by
  obtain ⟨v, e1, hs⟩ := ebind hs
  have hv := opn_ok (η := η) (ρ := ρ) e1 hx
  split at hs
  · rename_i l
    split at hs
    · rename_i c hc
      obtain ⟨vs, e, hvs⟩ := hv
      obtain ⟨u, hu, hu1⟩ := hvs.get i c hc
      have hrun : (execOp a.eval o).run P w = .ok (.value u) w := by
        have hu' : vs[i]? = some u := by simpa using hu
        simp [execOp, ho, e, Instr.extract, hu']
      unfold V1 at hu1
      split at hs
      · rename_i hagg
        rw [if_pos hagg] at hu1
        cases hs
        exact OpSem.value hrun (Post.plain S rfl hu1 (Later.refl _))
      · rename_i hagg
        rw [if_neg hagg] at hu1
        obtain ⟨y, hy, hvy⟩ := hu1
        split at hs
        · rename_i y' hy'
          cases hs
          rw [hy] at hy'
          cases hy'
          exact OpSem.value hrun (Post.plain S rfl hvy (Later.refl _))
        · cases hs
    · cases hs
  · cases hs

theorem under_ok {t : TypeId} {d : TypeDesc} (h : P.underlying t = some d) (w : World) : (underlying t).run P w = .ok d w := run_underlying h w

theorem run_sizeOf_at {t : TypeId} {i : TypeInfo} (h : P.info? t = some i) (w : World) : (Go.sizeOf t).run P w = .ok i.size w := by
  simp [Go.sizeOf, typeInfo, h]

theorem run_isAgg {t : TypeId} {i : TypeInfo} (h : inf P t = some i) (w : World) : (isAgg t).run P w = .ok (isAggT P t) w := by
  obtain ⟨_, d, hd⟩ := inf_ok h
  unfold isAgg isAggT
  rw [Sem.run_bind, under_ok hd]
  simp only [Result.andThen_ok, hd]
  cases d <;> rfl

theorem run_size {t : TypeId} {i : TypeInfo} (h : inf P t = some i) (w : World) : (Go.sizeOf t).run P w = .ok i.size w := run_sizeOf_at (inf_ok h).1 w

theorem sFieldAddr_ok {t : TypeId} {x : Operand} {f : Nat} (hs : sFieldAddr P s t x f = .ok r) (ho : o.op = .fieldAddr t x f) (S : St C η ρ h s r w) (hx : TmOK η ρ s a x) :
    OpSem P o a w (Post C η ρ h s r) := by
  obtain ⟨v, e1, hs⟩ := ebind hs
  have hv := opn_ok (η := η) (ρ := ρ) e1 hx
  split at hs
  · rename_i fs hu
    split at hs
    · rename_i fd hfd
      split at hs
      · rename_i i hi
        split at hs
        · cases hs
        · rename_i hsz
          have hadd : ∀ b p n : Nat, (⟨b, p, none⟩ : Addr).add n = ⟨b, p + n, none⟩ := fun b p n => by unfold Addr.add; split <;> simp_all
          split at hs
          · cases hs
            obtain ⟨rb, blk, h1, h2, e⟩ := hv
            refine OpSem.value (v := .pointer (some ⟨blk, _ + fd.offset, none⟩)) (w' := w) ?_ (Post.plain S rfl ⟨rb, blk, h1, h2, rfl⟩ (Later.refl _))
            simp [execOp, ho, e, Instr.fieldAt, under_ok hu, hfd, Instr.sureAddr, fieldPlace, run_size hi, hsz, hadd]
          · cases hs
            obtain ⟨rb, blk, off, j, h1, h2, h3, h4, e⟩ := hv
            refine OpSem.value (v := .pointer (some ⟨blk, off + (j.toNat * _ + (_ + fd.offset)), none⟩)) (w' := w) ?_ (Post.plain S rfl ⟨rb, blk, off, j, h1, h2, h3, h4, rfl⟩ (Later.refl _))
            simp [execOp, ho, e, Instr.fieldAt, under_ok hu, hfd, Instr.sureAddr, fieldPlace, run_size hi, hsz, hadd, Nat.add_assoc]
          · cases hs
      · cases hs
    · cases hs
  · cases hs

end
end Gm

/- Each operation does what its static side says (third part: parts, numbers, functions). -/
namespace Gm
open Go

section
variable {P : Program} {o : Oper} {a : Act} {w : World} {C : Ctx} {η : List PV} {ρ : Rho} {h : Hp} {s : SSt} {r : Res} {tb : List PF}

theorem partS_ok {t : TypeId} {cs : List SC} {off : Nat} {v : SV} {arr : Array Value} (hs : partS P t cs off = .ok v) (hl : VL η ρ cs arr.toList) :
    ∃ u, (part t arr off).run P w = .ok u w ∧ VV η ρ v u := by
  unfold partS at hs
  split at hs
  · rename_i i hi
    split at hs
    · rename_i hagg
      split at hs
      · cases hs
        refine ⟨.agg (arr.extract off (off + i.size)), ?_, _, rfl, ?_⟩
        · simp [part, run_isAgg hi, hagg, run_size hi]
        · have := (hl.drop off).take i.size
          simpa using this
      · cases hs
    · rename_i hagg
      split at hs
      · rename_i c hc
        cases hs
        obtain ⟨u, hu, hv⟩ := hl.get off c hc
        have hu' : arr[off]? = some u := by simpa using hu
        have hagg' : isAggT P t = false := by simpa using hagg
        exact ⟨u, by simp [part, run_isAgg hi, hagg', hu'], hv⟩
      · cases hs
  · cases hs

theorem sField_ok {t : TypeId} {x : Operand} {f : Nat} (hs : sField P s t x f = .ok r) (ho : o.op = .field t x f) (S : St C η ρ h s r w) (hx : TmOK η ρ s a x) :
    OpSem P o a w (Post C η ρ h s r) := by
  obtain ⟨v, e1, hs⟩ := ebind hs
  have hv := opn_ok (η := η) (ρ := ρ) e1 hx
  split at hs
  · rename_i fs l hu
    split at hs
    · rename_i fd hfd
      obtain ⟨q, e2, hs⟩ := ebind hs
      cases hs
      obtain ⟨arr, e, hl⟩ := hv
      obtain ⟨u, hrun, huv⟩ := partS_ok (w := w) e2 hl
      refine OpSem.value (v := u) (w' := w) ?_ (Post.plain S rfl huv (Later.refl _))
      simp [execOp, ho, e, Instr.field, under_ok hu, hfd, asAgg, hrun]
    · cases hs
  · cases hs

theorem bytesL_get {b : ByteArray} {n : Nat} {x : Int} (h : (bytesL b)[n]? = some x) : ∃ c, b[n]? = some c ∧ x = (c.toNat : Int) := by
  unfold bytesL at h
  rw [List.getElem?_map] at h
  cases hb : b.data.toList[n]? with
  | none => rw [hb] at h; cases h
  | some c =>
    rw [hb] at h
    cases h
    refine ⟨c, ?_, rfl⟩
    have h1 : b.data[n]? = some c := by simpa using hb
    obtain ⟨hlt, h2⟩ := Array.getElem?_eq_some_iff.1 h1
    have hlt' : n < b.size := hlt
    rw [getElem?_pos b n hlt']
    exact congrArg some h2

theorem sIndex_ok {t : TypeId} {x i : Operand} (hs : sIndex P s t x i = .ok r) (ho : o.op = .index t x i) (S : St C η ρ h s r w) (hx : TmOK η ρ s a x) (hi : TmOK η ρ s a i)
    (I : InsOK tb η s.ne r.ins) : OpSem P o a w (Post C η ρ h s r) := by
  obtain ⟨j, e0, hs⟩ := ebind hs
  have hj := opn_ok (η := η) (ρ := ρ) e0 hi
  split at hs
  · rename_i b k at_ hu _
    cases hs
    have hc0 : a.eval (.const (.string b)) = .string b := rfl
    obtain ⟨n, hn, hjv⟩ := hj
    obtain ⟨vs, q, i1, i2, i3, _⟩ := InsOK.one I
    obtain ⟨p, l1, rfl⟩ := looks1 i1
    rw [hn] at l1
    cases l1
    simp only [step, ev] at i2
    split at i2
    · rename_i h0
      split at i2
      · rename_i z hz
        cases i2
        obtain ⟨c, hc, rfl⟩ := bytesL_get hz
        refine OpSem.value (v := .int .u8 c.toNat) (w' := w) ?_ (Post.plain S rfl ⟨_, i3, rfl⟩ (Later.refl _))
        simp [execOp, ho, hjv, Instr.index, asIntOf, under_ok hu, hc0, h0, hc]
      · cases i2
    · cases i2
  · obtain ⟨v, e1, hs⟩ := ebind hs
    have hv := opn_ok (η := η) (ρ := ρ) e1 hx
    split at hs
    · rename_i len e l k n hu _ _
      split at hs
      · rename_i hr
        split at hs
        · rename_i g hg
          obtain ⟨q, e2, hs⟩ := ebind hs
          cases hs
          obtain ⟨arr, ev_, hl⟩ := hv
          obtain ⟨m, hm, hjv⟩ := hj
          cases hm
          obtain ⟨u, hrun, huv⟩ := partS_ok (w := w) e2 hl
          refine OpSem.value (v := u) (w' := w) ?_ (Post.plain S rfl huv (Later.refl _))
          simp [execOp, ho, ev_, hjv, Instr.index, asIntOf, under_ok hu, hr, run_size hg, hrun]
        · cases hs
      · cases hs
    · cases hs

theorem litOf_look {at_ : Atom} {p : PV} (h : litOf at_ = some p) : look η at_ = some p := by
  cases at_ <;> simp [litOf] at h <;> subst h <;> rfl

theorem lits_looks : ∀ {as : List Atom} {vs : List PV}, lits as = some vs → looks η as = some vs
  | [], vs, h => h
  | x :: l, vs, h => by
    simp only [lits] at h
    cases h1 : litOf x with
    | none => simp [h1] at h
    | some p => cases h2 : lits l with
      | none => simp [h1, h2] at h
      | some ps => simp [h1, h2] at h; simp [looks, litOf_look h1, lits_looks h2, h]

def notCall : Prim → Bool
  | .call _ => false
  | _ => true

theorem step_ev {p : Prim} (hp : notCall p = true) (vs : List PV) : step tb p vs = ev p vs := by
  cases p <;> first | rfl | cases hp

theorem prim1_ok {ne : Nat} {p : Prim} {as : List Atom} {x : Atom} {is l : List Ins} (hp : notCall p = true) (h : prim1 ne p as = (x, is)) (I : InsOK tb η ne (is ++ l)) :
    ∃ vs q, looks η as = some vs ∧ ev p vs = some [q] ∧ look η x = some q ∧ InsOK tb η (ne + insN is) l := by
  have std : (Atom.v ne, [Ins.mk p as 1]) = (x, is) → ∃ vs q, looks η as = some vs ∧ ev p vs = some [q] ∧ look η x = some q ∧ InsOK tb η (ne + insN is) l := by
    intro e
    cases e
    obtain ⟨vs, q, i1, i2, i3, i4⟩ := InsOK.one I
    rw [step_ev hp] at i2
    exact ⟨vs, q, i1, i2, i3, i4⟩
  unfold prim1 at h
  split at h
  · rename_i vs hl
    split at h
    · rename_i n he
      cases h
      exact ⟨vs, _, lits_looks hl, he, rfl, I⟩
    · rename_i b he
      cases h
      exact ⟨vs, _, lits_looks hl, he, rfl, I⟩
    · exact std h
  · exact std h

theorem InsOK.nil_app {l : List Ins} {ne : Nat} (I : InsOK tb η ne l) : InsOK tb η ne (l ++ []) := by simpa using I

theorem sUn_ok {op : UnOp} {t : TypeId} {x : Operand} (hs : sUn P s op x = .ok r) (ho : o.op = .unOp op t x) (S : St C η ρ h s r w) (hx : TmOK η ρ s a x) (I : InsOK tb η s.ne r.ins) :
    OpSem P o a w (Post C η ρ h s r) := by
  obtain ⟨v, e1, hs⟩ := ebind hs
  have hv := opn_ok (η := η) (ρ := ρ) e1 hx
  split at hs
  · generalize hq : prim1 s.ne .bnot _ = q at hs
    obtain ⟨y, is⟩ := q
    cases hs
    obtain ⟨b, hb, hcv⟩ := hv
    obtain ⟨vs, z, i1, i2, i3, _⟩ := prim1_ok rfl hq I.nil_app
    obtain ⟨p, l1, rfl⟩ := looks1 i1
    rw [hb] at l1; cases l1
    simp [ev] at i2; subst i2
    exact OpSem.value (v := .bool (!b)) (w' := w) (by simp [execOp, ho, hcv, Op.unary]) (Post.plain S rfl ⟨_, i3, rfl⟩ (Later.refl _))
  · rename_i k _ _
    generalize hq : prim1 s.ne (.neg _) _ = q at hs
    obtain ⟨y, is⟩ := q
    cases hs
    obtain ⟨b, hb, hcv⟩ := hv
    obtain ⟨vs, z, i1, i2, i3, _⟩ := prim1_ok rfl hq I.nil_app
    obtain ⟨p, l1, rfl⟩ := looks1 i1
    rw [hb] at l1; cases l1
    simp [ev] at i2; subst i2
    refine OpSem.value (v := .int k (k.wrap (0 - b))) (w' := w) ?_ (Post.plain S rfl ⟨_, i3, by simp⟩ (Later.refl _))
    simp only [execOp, ho, hcv, Op.unary]
    rfl
  · rename_i k _ _
    generalize hq : prim1 s.ne (.inv _) _ = q at hs
    obtain ⟨y, is⟩ := q
    cases hs
    obtain ⟨b, hb, hcv⟩ := hv
    obtain ⟨vs, z, i1, i2, i3, _⟩ := prim1_ok rfl hq I.nil_app
    obtain ⟨p, l1, rfl⟩ := looks1 i1
    rw [hb] at l1; cases l1
    simp [ev] at i2; subst i2
    refine OpSem.value (v := .int k (gbits .xor k (if k.signed then -1 else k.max) b)) (w' := w) ?_ (Post.plain S rfl ⟨_, i3, rfl⟩ (Later.refl _))
    simp only [execOp, ho, hcv, Op.unary]
    rfl
  · cases hs

theorem sConvert_ok {src dst : TypeId} {x : Operand} (hs : sConvert P s src dst x = .ok r) (ho : o.op = .convert src dst x) (S : St C η ρ h s r w) (hx : TmOK η ρ s a x) (I : InsOK tb η s.ne r.ins) :
    OpSem P o a w (Post C η ρ h s r) := by
  obtain ⟨v, e1, hs⟩ := ebind hs
  have hv := opn_ok (η := η) (ρ := ρ) e1 hx
  split at hs
  · rename_i d k k' at_ h1 h2
    generalize hq : prim1 s.ne (.conv _) _ = q at hs
    obtain ⟨y, is⟩ := q
    cases hs
    obtain ⟨b, hb, hcv⟩ := hv
    obtain ⟨vs, z, i1, i2, i3, _⟩ := prim1_ok rfl hq I.nil_app
    obtain ⟨p, l1, rfl⟩ := looks1 i1
    rw [hb] at l1; cases l1
    simp [ev] at i2; subst i2
    refine OpSem.value (v := .int k (k.wrap b)) (w' := w) ?_ (Post.plain S rfl ⟨_, i3, rfl⟩ (Later.refl _))
    simp only [execOp, ho, hcv, convert, Sem.run_bind, under_ok h1, under_ok h2, Result.andThen_ok]
    rfl
  · cases hs

theorem cpOf_ok {v : SV} {c : Cp} {u : Value} (h : cpOf v = .ok c) (hv : VV η ρ v u) : VCp η ρ c u := by
  unfold cpOf at h
  split at h <;> cases h
  · exact hv
  · exact hv
  · exact hv
  · exact hv

theorem cpsOf_ok : ∀ {l : List Operand} {cs : List Cp}, cpsOf P s l = .ok cs → (∀ x ∈ l, TmOK η ρ s a x) → VCps η ρ cs (l.map a.eval)
  | [], cs, h, _ => by simp [cpsOf] at h; subst h; trivial
  | x :: l, cs, h, ht => by
    simp only [cpsOf] at h
    obtain ⟨v, e1, h⟩ := ebind h
    obtain ⟨c, e2, h⟩ := ebind h
    obtain ⟨r, e3, h⟩ := ebind h
    cases h
    exact ⟨cpOf_ok e2 (opn_ok e1 (ht x (by simp))), cpsOf_ok e3 (fun y hy => ht y (by simp [hy]))⟩

theorem sMakeFunc_ok {f : Fn} {first cap : Array Operand} (hs : sMakeFunc P s f first cap = .ok r) (ho : o.op = .makeFunc f first cap) (S : St C η ρ h s r w)
    (hx : ∀ x ∈ first, TmOK η ρ s a x) (hy : ∀ x ∈ cap, TmOK η ρ s a x) : OpSem P o a w (Post C η ρ h s r) := by
  unfold sMakeFunc at hs
  split at hs
  · obtain ⟨p, e1, hs⟩ := ebind hs
    obtain ⟨q, e2, hs⟩ := ebind hs
    cases hs
    have h1 := cpsOf_ok (η := η) (ρ := ρ) (a := a) e1 (fun x hx' => hx x (by simpa using hx'))
    have h2 := cpsOf_ok (η := η) (ρ := ρ) (a := a) e2 (fun x hx' => hy x (by simpa using hx'))
    exact OpSem.value (v := .func _ (first.map a.eval) (cap.map a.eval)) (w' := w) (by simp [execOp, ho, Instr.makeFunc])
      (Post.plain S rfl ⟨_, _, by simpa using h1, by simpa using h2, rfl⟩ (Later.refl _))
  · cases hs

end
end Gm

/- Each operation does what its static side says (fourth part: lists made). -/
namespace Gm
open Go

section
variable {P : Program} {o : Oper} {a : Act} {w : World} {C : Ctx} {η : List PV} {ρ : Rho} {h : Hp} {s : SSt} {r : Res} {tb : List PF}

theorem Post.newlist {cv : Value} {w' : World} {ck : CK} {wd : Nat} {x : Atom} {rb : RB} (S : St C η ρ h s r w) (e : r.hp = s.hp ++ [some (.list ck wd x true)])
    (hb : ∀ ρ', BC η ρ' w' rb (.list ck wd x true)) (L : Later w w') (hn : ∀ y ∈ rb.foot, w.heap.size ≤ y)
    (hv : ∀ ρ' : Rho, ρ' s.hp.length = some rb → VV η ρ' r.val cv) : Post C η ρ h s r cv w' := by
  have hlen : r.hp.length = s.hp.length + 1 := by rw [e]; simp
  have hr0 := (S.fresh s.hp.length (Nat.le_refl _) (by omega)).1
  have hh0 := (S.fresh s.hp.length (Nat.le_refl _) (by omega)).2
  refine ⟨setR ρ s.hp.length rb, hv _ (by simp [setR]), setR_ext hr0, fun b hb' => ?_, ?_, ?_⟩
  · unfold setR at hb'
    split at hb'
    · rename_i q; subst q; omega
    · exact absurd rfl hb'
  · rw [e, upd_app hh0]
    exact S.hr.add L hr0 (hb _) (.inl hn)
  · rw [e, upd_app hh0]
    exact S.fr.add S.hr L hr0 (.inl hn)

theorem flatK_ok {e : TypeId} {ck : CK} {wd : Nat} (hf : flatK P e = some (ck, wd)) :
    ∃ i z, inf P e = some i ∧ i.zero = some z ∧ i.size = wd ∧ z.cells.size = wd ∧ 0 < wd ∧ i.bytes ≤ 128 ∧ (∀ j, j < wd → z.cells[j]? = some (ck.val 0)) := by
  unfold flatK at hf
  split at hf
  · rename_i i hi
    split at hf
    · rename_i k n hz
      split at hf
      · rename_i hc
        obtain ⟨rfl, h2, h3, h4⟩ := hc
        cases hf
        refine ⟨i, _, hi, hz, h2, rfl, by omega, h4, fun j hj => ?_⟩
        have : j = 0 := by omega
        subst this; rfl
      · cases hf
    · rename_i b hz
      split at hf
      · rename_i hc
        obtain ⟨rfl, h2, h3, h4⟩ := hc
        cases hf
        refine ⟨i, _, hi, hz, h2, rfl, by omega, h4, fun j hj => ?_⟩
        have : j = 0 := by omega
        subst this; rfl
      · cases hf
    · rename_i cs hz
      split at hf
      · rename_i k n l hl
        split at hf
        · rename_i hc
          obtain ⟨rfl, h2, h3, h4, h5⟩ := hc
          cases hf
          have hsz : cs.size = l.length + 1 := by rw [← Array.length_toList, hl]; simp
          refine ⟨i, _, hi, hz, h2, hsz, by omega, h4, fun j hj => ?_⟩
          have : cs[j]? = (Value.int k 0 :: l)[j]? := by rw [← hl]; simp
          show cs[j]? = _
          rw [this]
          cases j with
          | zero => rfl
          | succ j =>
            have hj' : j < l.length := by omega
            rw [List.getElem?_cons_succ, List.getElem?_eq_getElem hj']
            have := (List.all_eq_true.1 h5) l[j] (List.getElem_mem hj')
            split at this
            · rename_i k' m hk
              simp only [Bool.and_eq_true, beq_iff_eq] at this
              obtain ⟨rfl, rfl⟩ := this
              rw [hk]; rfl
            · cases this
        · cases hf
      · cases hf
    · cases hf
  · cases hf

theorem listT_ok {t : TypeId} {ck : CK} {wd : Nat} (hf : listT P t = some (ck, wd)) : ∃ e, P.underlying t = some (.slice e) ∧ flatK P e = some (ck, wd) := by
  unfold listT at hf
  split at hf
  · rename_i e he; exact ⟨e, he, hf⟩
  · cases hf

theorem wrap_small {n : Int} (h0 : 0 ≤ n) (h1 : n ≤ 9223372036854775807) : IntKind.i64.wrap n = n := by
  unfold IntKind.wrap
  simp [IntKind.bits, IntKind.signed]
  omega

theorem zeros_get {z : Array Value} {wd n j : Nat} {v : Value} (hz : z.size = wd) (hw : 0 < wd) (hv : ∀ j, j < wd → z[j]? = some v) (hj : j < n) :
    ((Array.range n).map (fun i => z[i % z.size]!))[j]? = some v := by
  have h1 : (Array.range n)[j]? = some j := by simp [hj]
  simp only [Array.getElem?_map, h1, Option.map_some]
  have h2 : j % z.size < wd := by rw [hz]; exact Nat.mod_lt _ hw
  have h3 := hv _ h2
  rw [getElem!_def, h3]

theorem sMakeSlice_ok {t : TypeId} {len cap : Operand} (hs : sMakeSlice P s t len cap = .ok r) (ho : o.op = .makeSlice t len cap) (S : St C η ρ h s r w)
    (hx : TmOK η ρ s a len) (hy : TmOK η ρ s a cap) (I : InsOK tb η s.ne r.ins) : OpSem P o a w (Post C η ρ h s r) := by
  obtain ⟨u, e1, hs⟩ := ebind hs
  obtain ⟨v, e2, hs⟩ := ebind hs
  have hu := opn_ok (η := η) (ρ := ρ) e1 hx
  have hv := opn_ok (η := η) (ρ := ρ) e2 hy
  split at hs
  · rename_i ck wd m n hl _
    cases hs
    obtain ⟨e, he, hf⟩ := listT_ok hl
    obtain ⟨i, z, hi, hz, h1, h2, h3, h4, h5⟩ := flatK_ok hf
    obtain ⟨x, hx1, hx2⟩ := hu
    obtain ⟨y, hy1, hy2⟩ := hv
    obtain ⟨vs, q, i1, i2, i3, _⟩ := InsOK.one I
    obtain ⟨p1, p2, l1, l2, rfl⟩ := looks2 i1
    rw [hx1] at l1; rw [hy1] at l2
    cases l1; cases l2
    simp only [step, ev] at i2
    split at i2
    · rename_i hc
      obtain ⟨c1, c2, c3⟩ := hc
      cases i2
      have hroom : y.toNat ≤ 1099511627776 := by
        have : y.toNat * 1 ≤ y.toNat * wd := Nat.mul_le_mul_left _ h3
        unfold room at c3; omega
      have wx : IntKind.i64.wrap x = x := wrap_small c1 (by omega)
      have wy : IntKind.i64.wrap y = y := wrap_small (by omega) (by omega)
      have hbytes : ¬ ((i.bytes : Int) * y > 281474976710656) := by
        have a1 : (i.bytes : Int) ≤ 256 := by omega
        have a2 : y ≤ 1099511627776 := by omega
        have a3 : (i.bytes : Int) * y ≤ 256 * y := Int.mul_le_mul_of_nonneg_right a1 (by omega)
        omega
      have hbytes' : ¬ (281474976710656 < (i.bytes : Int) * y) := by omega
      let arr : Array Value := (Array.range (y.toNat * wd)).map (fun j => (if y.toNat * wd = 0 then #[] else z.cells)[j % (if y.toNat * wd = 0 then #[] else z.cells).size]!)
      have harr : ∀ j, j < y.toNat * wd → arr[j]? = some (ck.val 0) := by
        intro j hj
        have hne : ¬ y.toNat * wd = 0 := by omega
        show ((Array.range (y.toNat * wd)).map _)[j]? = _
        simp only [if_neg hne]
        exact zeros_get h2 h3 h5 hj
      refine OpSem.value (v := .slice (some ⟨w.heap.size, 0, none⟩) x.toNat y.toNat) (w' := { w with heap := w.heap.push (.cells arr e) }) ?_
        (Post.newlist (rb := ⟨some (w.heap.size, 0), x.toNat, y.toNat, wd, [w.heap.size]⟩) S rfl (fun ρ' => ⟨_, i3, rfl, by simp, by show x.toNat ≤ y.toNat; omega, .inr ⟨w.heap.size, arr, e, rfl, rfl, by simp, ?_, ?_⟩⟩)
          (Later.push _ _) (by simp) fun ρ' hr' => ⟨_, y.toNat, hr', by show x.toNat ≤ y.toNat; omega, Nat.le_refl _, rfl, by simp⟩)
      · have hnot : ¬ (x < 0) := by omega
        have hnot2 : ¬ (x > y) := by omega
        have hnot3 : ¬ (y < 0) := by omega
        simp only [execOp, ho, hx2, hy2, Instr.makeSlice, Sem.run_bind, under_ok he, Result.andThen_ok, asInt, asIntOf, Sem.run_pure, typeInfo, run_program, (inf_ok hi).1, wx, wy]
        simp [hnot, hnot2, hnot3, hbytes', run_size hi, h1]
        by_cases hz0 : y.toNat * wd = 0
        · have hz0' : y.toNat = 0 ∨ wd = 0 := Nat.mul_eq_zero.1 hz0
          simp [arr, hz0, newRow]
        · have hz0' : ¬ (y.toNat = 0 ∨ wd = 0) := fun q => hz0 (Nat.mul_eq_zero.2 q)
          simp [arr, hz0, newRow, zeroValue, typeInfo, (inf_ok hi).1, hz]
      · show y.toNat * wd ≤ arr.size
        simp [arr]
      · intro j v hj
        rw [List.getElem?_replicate] at hj
        split at hj
        · rename_i hlt
          cases hj
          refine harr j (Nat.lt_of_lt_of_le hlt (Nat.mul_le_mul_right _ (by omega)))
        · cases hj
    · cases i2
  · cases hs

end
end Gm

/- Each operation does what its static side says (fifth part: loads and stores). -/
namespace Gm
open Go

theorem add_at (b p n : Nat) : (⟨b, p, none⟩ : Addr).add n = ⟨b, p + n, none⟩ := by
  unfold Addr.add; split <;> simp_all

theorem looks_some {η : List PV} {x : Atom} {p : PV} (h : look η x = some p) {q : PV} (h' : look η x = some q) : p = q := by rw [h] at h'; cases h'; rfl

section
variable {P : Program} {o : Oper} {a : Act} {w : World} {C : Ctx} {η : List PV} {ρ : Rho} {h : Hp} {s : SSt} {r : Res} {tb : List PF}

theorem listAt_ok {b : Nat} {ck : CK} {wd : Nat} {x : Atom} {rw : Bool} (e : listAt s b = .ok (ck, wd, x, rw)) : hpf s.hp b = some (.list ck wd x rw) := by
  unfold listAt at e
  split at e
  · rename_i h1; cases e; exact h1
  · cases e

theorem cellsAt_ok {b : Nat} {cs : List SC} (e : cellsAt s b = .ok cs) : hpf s.hp b = some (.cells cs) := by
  unfold cellsAt at e
  split at e
  · rename_i h1; cases e; exact h1
  · cases e

/-- a list's element lies in memory -/
theorem BC.at {rb : RB} {ck : CK} {wd : Nat} {x : Atom} {rw : Bool} {l : List Int} (hb : BC η ρ w rb (.list ck wd x rw)) (hl : look η x = some (.ints l)) {k : Nat} {v : Int} (hk : l[k]? = some v) :
    ∃ blk off, rb.at_ = some (blk, off) ∧ w.cell? ⟨blk, off + k, none⟩ = some (ck.val v) := by
  have hb' := hb.weak
  obtain ⟨l', e1, e2, e3, e4, e5⟩ := hb'
  have := looks_some hl e1
  cases this
  obtain ⟨blk, off, arr, t, fr, q1, q2, q3, q4⟩ := e5 k v hk
  exact ⟨blk, off, q1, by simp [World.cell?, q3, q4]⟩

theorem BC.len {rb : RB} {ck : CK} {wd : Nat} {x : Atom} {rw : Bool} (hb : BC η ρ w rb (.list ck wd x rw)) : ∃ l, look η x = some (.ints l) ∧ l.length = rb.n * wd ∧ rb.wd = wd := by
  obtain ⟨l', e1, e2, e3, _⟩ := hb.weak
  exact ⟨l', e1, e3, e2⟩

def ckPV : CK → Int → PV
  | .int _, v => .int v
  | .bool, v => .bool (v != 0)

theorem CK.scVal {ck : CK} {x : Atom} {v : Int} (h : look η x = some (ckPV ck v)) : VC η ρ (ck.sc x) (ck.val v) := by
  cases ck with
  | int k => exact ⟨v, h, rfl⟩
  | bool => exact ⟨_, h, rfl⟩

theorem getsI_ok {ck : CK} {wd : Nat} {x i : Atom} {l : List Int} {j : Int} (hl : look η x = some (.ints l)) (hi : look η i = some (.int j)) (hj : 0 ≤ j) :
    ∀ {n ne off : Nat} {cs : List SC} {is rest : List Ins}, getsI ck wd x i ne off n = (cs, is) → InsOK tb η ne (is ++ rest) →
    ∃ vs : List Int, vs.length = n ∧ VL η ρ cs (vs.map ck.val) ∧ ∀ (k : Nat) (v : Int), vs[k]? = some v → l[j.toNat * wd + off + k]? = some v
  | 0, ne, off, cs, is, rest, hg, I => by
    simp [getsI] at hg
    obtain ⟨rfl, rfl⟩ := hg
    exact ⟨[], rfl, trivial, by simp⟩
  | n + 1, ne, off, cs, is, rest, hg, I => by
    simp only [getsI] at hg
    generalize h1 : getsI ck wd x i (ne + 1) (off + 1) n = q at hg
    obtain ⟨cs', is'⟩ := q
    cases hg
    obtain ⟨vs, q, i1, i2, i3, i4⟩ := InsOK.one I
    obtain ⟨p1, p2, l1, l2, rfl⟩ := looks2 i1
    rw [hl] at l1; rw [hi] at l2
    cases l1; cases l2
    obtain ⟨us, u1, u2, u3⟩ := getsI_ok hl hi hj h1 i4
    have key : ∃ v, l[j.toNat * wd + off]? = some v ∧ q = ckPV ck v := by
      cases ck with
      | int k =>
        simp only [step, ev] at i2
        rw [if_pos hj] at i2
        split at i2
        · rename_i z hz; cases i2; exact ⟨z, hz, rfl⟩
        · cases i2
      | bool =>
        simp only [step, ev] at i2
        rw [if_pos hj] at i2
        split at i2
        · rename_i z hz; cases i2; exact ⟨z, hz, rfl⟩
        · cases i2
    obtain ⟨v, hv, rfl⟩ := key
    refine ⟨v :: us, by simp [u1], ⟨CK.scVal i3, u2⟩, fun k z hz => ?_⟩
    cases k with
    | zero => simp at hz; subst hz; simpa using hv
    | succ k =>
      simp at hz
      have := u3 k z hz
      rw [← this]
      congr 1
      omega

/-- the global tables, as they lie in memory -/
def GL (gl : Nat → Option (CK × List Int)) (C : Ctx) : Prop :=
  ∀ g ck l, gl g = some (ck, l) → ¬ C.touch g ∧ ∃ arr t fr, C.w0.heap[g]? = some (.cells arr t fr) ∧ ∀ (i : Nat) (x : Int), l[i]? = some x → arr[i]? = some (ck.val x)

theorem run_load_cell {ad : Addr} {v : Value} (h : w.cell? ad = some v) : (load ad).run P w = .ok v w := by simp [h]

theorem sLoad_ok {gl : Nat → Option (CK × List Int)} {t : TypeId} {x : Operand} (hs : sLoad P gl s t x = .ok r) (ho : o.op = .load t x) (S : St C η ρ h s r w) (hx : TmOK η ρ s a x)
    (I : InsOK tb η s.ne r.ins) (G : GL gl C) : OpSem P o a w (Post C η ρ h s r) := by
  obtain ⟨p, e1, hs⟩ := ebind hs
  have hp := opn_ok (η := η) (ρ := ρ) e1 hx
  split at hs
  · cases hs
  · rename_i i hi
    split at hs
    · rename_i b off
      obtain ⟨cs, e2, hs⟩ := ebind hs
      have hc := cellsAt_ok e2
      obtain ⟨rb, blk, hr, hat, hv⟩ := hp
      have fin : ∀ {r' : Res}, r' = r → r'.rd = [b] → ∃ arr t, w.heap[blk]? = some (.cells arr t (0, 0)) ∧ VL η ρ cs arr.toList := by
        intro r' e hrd
        subst e
        have hb : h b = some (.cells cs) := by rw [S.ag b (by rw [hrd]; simp)]; exact hc
        obtain ⟨rb', hr', bc⟩ := S.hr.bc b _ hb
        rw [hr] at hr'; cases hr'
        obtain ⟨blk', arr, t, h1, h2, h3, h4⟩ := bc
        rw [hat] at h1; cases h1
        exact ⟨arr, t, h3, h4⟩
      split at hs
      · rename_i hagg
        split at hs
        · rename_i hsz
          cases hs
          obtain ⟨arr, ty, hb, hl⟩ := fin rfl rfl
          have hl2 := (hl.drop off).take i.size
          have hlen : ((arr.toList.drop off).take i.size).length = i.size := by
            rw [hl2.len]
            simp
            omega
          refine OpSem.value (v := .agg ((arr.toList.drop off).take i.size).toArray) (w' := w) ?_ (Post.plain S rfl ⟨_, rfl, by simpa using hl2⟩ (Later.refl _))
          have hload := run_loadCells_list (P := P) w ⟨blk, off, none⟩ ((arr.toList.drop off).take i.size) (fun j v hj => by
            rw [add_at]
            rw [List.getElem?_take] at hj
            split at hj
            · rw [List.getElem?_drop] at hj
              have : arr[off + j]? = some v := by simpa using hj
              simp [World.cell?, hb, this]
            · cases hj)
          rw [hlen] at hload
          simp [execOp, ho, hv, Instr.loadAt, Instr.sureAddr, loadVar, run_isAgg hi, hagg, run_size hi, hload]
        · cases hs
      · rename_i hagg
        have hagg' : isAggT P t = false := by simpa using hagg
        split at hs
        · rename_i c hcc
          cases hs
          obtain ⟨arr, ty, hb, hl⟩ := fin rfl rfl
          obtain ⟨u, hu, huv⟩ := hl.get off c hcc
          have hu' : arr[off]? = some u := by simpa using hu
          refine OpSem.value (v := u) (w' := w) ?_ (Post.plain S rfl huv (Later.refl _))
          have hcell : w.cell? ⟨blk, off, none⟩ = some u := by simp [World.cell?, hb, hu']
          simp [execOp, ho, hv, Instr.loadAt, Instr.sureAddr, loadVar, run_isAgg hi, hagg', hcell]
        · cases hs
    · rename_i b x' wd' off
      obtain ⟨⟨ck, wd, l, rw_⟩, e2, hs⟩ := ebind hs
      have hc := listAt_ok e2
      obtain ⟨rb, blk, boff, j, hr, hat, hj, hj0, hv⟩ := hp
      simp only at hs
      split at hs
      · cases hs
      · rename_i hwd
        have hwd' : wd' = wd := by omega
        subst hwd'
        have fin : ∀ {r' : Res}, r' = r → r'.rd = [b] → ∃ ls, look η l = some (.ints ls) ∧ ∀ (k : Nat) (v : Int), ls[k]? = some v → w.cell? ⟨blk, boff + k, none⟩ = some (ck.val v) := by
          intro r' e hrd
          subst e
          have hb : h b = some (.list ck wd' l rw_) := by rw [S.ag b (by rw [hrd]; simp)]; exact hc
          obtain ⟨rb', hr', bc⟩ := S.hr.bc b _ hb
          rw [hr] at hr'; cases hr'
          obtain ⟨ls, q1, _, _⟩ := bc.len
          refine ⟨ls, q1, fun k v hk => ?_⟩
          obtain ⟨blk', off', q2, q3⟩ := bc.at q1 hk
          rw [hat] at q2; cases q2
          exact q3
        split at hs
        · rename_i hagg
          generalize hg : getsI ck wd' l x' s.ne off i.size = q at hs
          obtain ⟨cs, is⟩ := q
          simp only at hs
          split at hs
          · cases hs
            obtain ⟨ls, q1, q2⟩ := fin rfl rfl
            obtain ⟨vs, v1, v2, v3⟩ := getsI_ok (tb := tb) (ρ := ρ) q1 hj hj0 hg (rest := []) (by simpa using I)
            refine OpSem.value (v := .agg (vs.map ck.val).toArray) (w' := w) ?_ (Post.plain S rfl ⟨_, rfl, by simpa using v2⟩ (Later.refl _))
            have hload := run_loadCells_list (P := P) w ⟨blk, boff + (j.toNat * wd' + off), none⟩ (vs.map ck.val) (fun k v hk => by
              rw [add_at]
              rw [List.getElem?_map] at hk
              cases hz : vs[k]? with
              | none => rw [hz] at hk; cases hk
              | some z =>
                rw [hz] at hk; cases hk
                have := q2 _ _ (v3 k z hz)
                rw [← Nat.add_assoc] at this
                exact this)
            rw [List.length_map, v1] at hload
            simp [execOp, ho, hv, Instr.loadAt, Instr.sureAddr, loadVar, run_isAgg hi, hagg, run_size hi, hload]
          · cases hs
        · rename_i hagg
          have hagg' : isAggT P t = false := by simpa using hagg
          generalize hg : getsI ck wd' l x' s.ne off 1 = q at hs
          obtain ⟨cs, is⟩ := q
          simp only at hs
          split at hs
          · rename_i c _
            split at hs
            · cases hs
              obtain ⟨ls, q1, q2⟩ := fin rfl rfl
              obtain ⟨vs, v1, v2, v3⟩ := getsI_ok (tb := tb) (ρ := ρ) q1 hj hj0 hg (rest := []) (by simpa using I)
              match vs, v1 with
              | [z], _ =>
                refine OpSem.value (v := ck.val z) (w' := w) ?_ (Post.plain S rfl v2.1 (Later.refl _))
                have hcell := q2 _ _ (v3 0 z rfl)
                have hcell' : w.cell? ⟨blk, boff + (j.toNat * wd' + off), none⟩ = some (ck.val z) := hcell
                simp [execOp, ho, hv, Instr.loadAt, Instr.sureAddr, loadVar, run_isAgg hi, hagg', hcell']
            · cases hs
          · cases hs
    · rename_i g x'
      obtain ⟨j, hj, hj0, hv⟩ := hp
      split at hs
      · rename_i k l hgl
        split at hs
        · cases hs
        · rename_i hagg
          have hagg' : isAggT P t = false := by simpa using hagg
          cases hs
          obtain ⟨vs, q, i1, i2, i3, _⟩ := InsOK.one I
          obtain ⟨p, l1, rfl⟩ := looks1 i1
          rw [hj] at l1; cases l1
          simp only [step, ev] at i2
          rw [if_pos hj0] at i2
          split at i2
          · rename_i z hz
            cases i2
            obtain ⟨hnt, arr, ty, fr, hb, hval⟩ := G g _ _ hgl
            have hlt : g < C.w0.heap.size := (Array.getElem?_eq_some_iff.1 hb).1
            have hb' : w.heap[g]? = some (.cells arr ty fr) := by rw [S.fr.keep g hlt hnt]; exact hb
            refine OpSem.value (v := .int k z) (w' := w) ?_ (Post.plain S rfl ⟨_, i3, rfl⟩ (Later.refl _))
            have hcell : w.cell? ⟨g, j.toNat, none⟩ = some (.int k z) := by simp [World.cell?, hb', hval _ _ hz, CK.val]
            simp [execOp, ho, hv, Instr.loadAt, Instr.sureAddr, loadVar, run_isAgg hi, hagg', hcell]
          · cases i2
      · cases hs
    · cases hs

end
end Gm

/- Each operation does what its static side says (sixth part: stores). -/
namespace Gm
open Go

theorem setCell_facts (w : World) (blk i : Nat) (arr : Array Value) (t : TypeId) (v : Value) (hg : w.heap[blk]? = some (.cells arr t (0, 0))) :
    (w.setCell ⟨blk, i, none⟩ v).heap[blk]? = some (.cells (arr.setIfInBounds i v) t (0, 0)) ∧ ∀ x, x ≠ blk → (w.setCell ⟨blk, i, none⟩ v).heap[x]? = w.heap[x]? :=
  ⟨heap_setCell_same w blk i arr t v hg, fun x hx => heap_setCell_other w ⟨blk, i, none⟩ x v hx⟩

/-- some cells stored, one behind the other -/
theorem run_stores (P : Program) (blk off : Nat) (t : TypeId) : ∀ (vs : List Value) (i : Nat) (arr : Array Value) (w : World), w.heap[blk]? = some (.cells arr t (0, 0)) → off + i + vs.length ≤ arr.size →
    (∀ v ∈ vs, v.oneCell' = true) → ∃ w', (storeCells ⟨blk, off, none⟩ vs i).run P w = .ok () w' ∧ w'.os = w.os ∧ w'.tape = w.tape ∧ w'.output = w.output ∧ w'.heap.size = w.heap.size ∧
      (∀ x, x ≠ blk → w'.heap[x]? = w.heap[x]?) ∧ ∃ arr' : Array Value, w'.heap[blk]? = some (.cells arr' t (0, 0)) ∧ arr'.toList = arr.toList.take (off + i) ++ vs ++ arr.toList.drop (off + i + vs.length)
  | [], i, arr, w, hg, hl, _ => ⟨w, rfl, rfl, rfl, rfl, rfl, fun _ _ => rfl, arr, hg, by simp⟩
  | v :: vs, i, arr, w, hg, hl, h1 => by
    simp only [List.length_cons] at hl
    have hlt : off + i < arr.size := by omega
    have hcell : w.cell? ⟨blk, off + i, none⟩ = some arr[off + i] := by simp [World.cell?, hg, hlt]
    have hfro : w.frozen? ⟨blk, off + i, none⟩ = false := by simp [World.frozen?, hg]
    have hst : (store ((⟨blk, off, none⟩ : Addr).add i) v).run P w = .ok () (w.setCell ⟨blk, off + i, none⟩ v) := by
      rw [add_at, run_store P w _ v _ (h1 v (by simp)), hcell]
      simp [hfro]
    obtain ⟨f1, f2⟩ := setCell_facts w blk (off + i) arr t v hg
    obtain ⟨w', r1, r2, r3, r4, r5, r6, arr', r7, r8⟩ := run_stores P blk off t vs (i + 1) (arr.setIfInBounds (off + i) v) (w.setCell ⟨blk, off + i, none⟩ v) f1 (by simp; omega) (fun x hx => h1 x (by simp [hx]))
    refine ⟨w', ?_, r2, r3, r4, by rw [r5]; simp, fun x hx => (r6 x hx).trans (f2 x hx), arr', r7, ?_⟩
    · simp only [storeCells, Sem.run_bind, hst, Result.andThen_ok]
      exact r1
    · rw [r8]
      simp only [Array.toList_setIfInBounds]
      apply List.ext_getElem?
      intro k
      simp only [List.getElem?_append, List.length_append, List.length_take, List.length_set, Array.length_toList, List.length_cons, List.getElem?_take, List.getElem?_set, List.getElem?_drop]
      by_cases hk : k < off + i
      · simp [show k < off + (i + 1) by omega, hk, show min (off + (i + 1)) arr.size = off + i + 1 by omega, show min (off + i) arr.size = off + i by omega, show ¬ off + i = k by omega, show k < off + i + 1 + vs.length by omega,
          show k < off + i + (vs.length + 1) by omega, show k < off + i + 1 by omega]
      · by_cases hk2 : k = off + i
        · subst hk2
          simp [show min (off + (i + 1)) arr.size = off + i + 1 by omega, show min (off + i) arr.size = off + i by omega, hlt, show off + i < off + (i + 1) by omega, show off + i < off + i + 1 + vs.length by omega,
            show off + i < off + i + (vs.length + 1) by omega]
        · simp only [show min (off + (i + 1)) arr.size = off + i + 1 by omega, show min (off + i) arr.size = off + i by omega]
          by_cases hk3 : k < off + i + 1 + vs.length
          · rw [if_pos hk3, if_neg (by omega), if_pos (by omega), if_neg (by omega)]
            have : k - (off + i) = (k - (off + i + 1)) + 1 := by omega
            rw [this, List.getElem?_cons_succ]
          · rw [if_neg hk3, if_neg (by omega)]
            rw [if_neg (by omega)]
            congr 1
            omega

section
variable {P : Program} {o : Oper} {a : Act} {w : World} {C : Ctx} {η : List PV} {ρ : Rho} {h : Hp} {s : SSt} {r : Res} {tb : List PF}

theorem VC.one {c : SC} {v : Value} (hc : c ≠ .any) (hv : VC η ρ c v) : v.oneCell' = true := by
  cases c with
  | any => exact absurd rfl hc
  | int k a => obtain ⟨_, _, rfl⟩ := hv; rfl
  | bool a => obtain ⟨_, _, rfl⟩ := hv; rfl
  | str a => obtain ⟨_, _, rfl⟩ := hv; rfl
  | nilp => cases hv; rfl
  | ptr b o => obtain ⟨_, _, _, _, rfl⟩ := hv; rfl
  | eptr b a w o => obtain ⟨_, _, _, _, _, _, _, _, rfl⟩ := hv; rfl
  | nils => cases hv; rfl
  | slc b => obtain ⟨_, _, _, _, _, rfl, _⟩ := hv; rfl
  | sub b lo n => obtain ⟨_, _, _, _, _, _, _, _, _, _, _, _, rfl, _⟩ := hv; rfl
  | csl b n w => obtain ⟨_, _, _, _, _, _, rfl⟩ := hv; rfl
  | fn f fs cs => obtain ⟨_, _, _, _, rfl⟩ := hv; rfl
  | gptr g => cases hv; rfl
  | gel g a => obtain ⟨_, _, _, rfl⟩ := hv; rfl

theorem VL.one : ∀ {l : List SC} {vs : List Value}, VL η ρ l vs → l.any (· == .any) = false → ∀ v ∈ vs, v.oneCell' = true
  | [], [], _, _, v, hv => by cases hv
  | c :: l, u :: vs, h, hn, v, hv => by
    simp only [List.any_cons, Bool.or_eq_false_iff, beq_eq_false_iff_ne] at hn
    cases hv with
    | head => exact h.1.one hn.1
    | tail _ hv => exact h.2.one hn.2 v hv
  | [], _ :: _, h, _, _, _ => h.elim
  | _ :: _, [], h, _, _, _ => h.elim

/-- elements laid over a list -/
theorem setsI_ok {ck : CK} {wd : Nat} {x : Atom} {j : Int} (hi : look η x = some (.int j)) : ∀ {cs : List SC} {vals : List Value} {off ne : Nat} {l rr : Atom} {is rest : List Ins} {L : List Int},
    setsI ck wd x cs off l ne = some (rr, is) → VL η ρ cs vals → look η l = some (.ints L) → InsOK tb η ne (is ++ rest) →
    ∃ zs L' : List Int, vals = zs.map ck.val ∧ look η rr = some (.ints L') ∧ L'.length = L.length ∧ (cs ≠ [] → j.toNat * wd + off + zs.length ≤ L.length) ∧
      ∀ q : Nat, L'[q]? = if j.toNat * wd + off ≤ q ∧ q < j.toNat * wd + off + zs.length then zs[q - (j.toNat * wd + off)]? else L[q]?
  | [], vals, off, ne, l, rr, is, rest, L, hs, hv, hl, I => by
    simp [setsI] at hs
    obtain ⟨rfl, rfl⟩ := hs
    cases vals with
    | nil => exact ⟨[], L, rfl, hl, rfl, by simp, fun q => by rw [if_neg (by simp)]⟩
    | cons _ _ => exact hv.elim
  | c :: cs, [], off, ne, l, rr, is, rest, L, hs, hv, hl, I => hv.elim
  | c :: cs, v :: vals, off, ne, l, rr, is, rest, L, hs, hv, hl, I => by
    have step1 : ∃ (p : Prim) (at_ : Atom) (is' : List Ins) (z : Int), setsI ck wd x cs (off + 1) (.v ne) (ne + 1) = some (rr, is') ∧ is = ⟨p, [l, x, at_], 1⟩ :: is' ∧ v = ck.val z ∧
        ∀ qv, step tb p [.ints L, .int j, qv] = step tb p [.ints L, .int j, qv] ∧ (look η at_ = some qv → step tb p [.ints L, .int j, qv] =
          if 0 ≤ j ∧ j.toNat * wd + off < L.length then some [.ints (L.set (j.toNat * wd + off) z)] else none) := by
      simp only [setsI] at hs
      split at hs
      · rename_i k k' at_
        split at hs
        · rename_i hk
          subst hk
          split at hs
          · rename_i r' is' hr'
            cases hs
            obtain ⟨n, hn, hvn⟩ := hv.1
            refine ⟨_, at_, is', n, hr', rfl, hvn, fun qv => ⟨rfl, fun hq => ?_⟩⟩
            rw [hn] at hq; cases hq
            rfl
          · cases hs
        · cases hs
      · rename_i at_
        split at hs
        · rename_i r' is' hr'
          cases hs
          obtain ⟨n, hn, hvn⟩ := hv.1
          refine ⟨_, at_, is', if n then 1 else 0, hr', rfl, by rw [hvn]; cases n <;> rfl, fun qv => ⟨rfl, fun hq => ?_⟩⟩
          rw [hn] at hq; cases hq
          rfl
        · cases hs
      · cases hs
    obtain ⟨p, at_, is', z, h1, rfl, rfl, h2⟩ := step1
    obtain ⟨vs, q, i1, i2, i3, i4⟩ := InsOK.one I
    obtain ⟨p1, p2, p3, l1, l2, l3, rfl⟩ := looks3 i1
    rw [hl] at l1; rw [hi] at l2
    cases l1; cases l2
    rw [(h2 p3).2 l3] at i2
    split at i2
    · rename_i hc
      cases i2
      obtain ⟨zs, L', e1, e2, e3, e4, e5⟩ := setsI_ok hi h1 hv.2 i3 i4
      have hzs : zs.length = vals.length := by rw [e1]; simp
      refine ⟨z :: zs, L', by simp [e1], e2, by simpa using e3, fun _ => ?_, fun q => ?_⟩
      · cases cs with
        | nil =>
          have : vals.length = 0 := by have := hv.2.len; simpa using this
          simp only [List.length_cons, hzs, this]
          omega
        | cons c' cs' =>
          have := e4 (by simp)
          simp at this ⊢
          omega
      · rw [e5 q]
        simp only [List.length_cons]
        by_cases hq : j.toNat * wd + (off + 1) ≤ q ∧ q < j.toNat * wd + (off + 1) + zs.length
        · rw [if_pos hq, if_pos (by omega)]
          have : q - (j.toNat * wd + off) = (q - (j.toNat * wd + (off + 1))) + 1 := by omega
          rw [this, List.getElem?_cons_succ]
        · rw [if_neg hq]
          by_cases hq2 : q = j.toNat * wd + off
          · subst hq2
            rw [if_pos (by omega)]
            simp [hc.2]
          · rw [if_neg (by omega), List.getElem?_set]
            rw [if_neg (by omega)]
    · cases i2

theorem upd_set_app {h : Hp} {hp bs : List (Option SB)} {b : Nat} {x : Option SB} (hb : b < hp.length) (he : h b = hpf hp b) (hn : ∀ c, hp.length ≤ c → c < hp.length + bs.length → h c = none) :
    upd h hp (hp.set b x ++ bs) = setH (addN h hp.length bs) b x := by
  funext c
  unfold setH
  by_cases hc : c = b
  · subst hc
    simp only [upd, if_true]
    rw [hpf_app_lt (by simpa using hb), hpf_set hb, if_pos rfl]
    split
    · rename_i e; rw [he, ← e]
    · rfl
  · rw [if_neg hc]
    have e0 : upd h hp (hp.set b x ++ bs) c = upd h hp (hp ++ bs) c := by
      simp only [upd]
      have : hpf (hp.set b x ++ bs) c = hpf (hp ++ bs) c := by
        rcases Nat.lt_or_ge c hp.length with q | q
        · rw [hpf_app_lt (by simpa using q), hpf_app_lt q, hpf_set hb, if_neg hc]
        · rw [hpf_app_ge (by simpa using q), hpf_app_ge q]; simp
      rw [this]
    rw [e0, upd_nils hn]

theorem sStore_ok {t : TypeId} {x y : Operand} (hs : sStore P s t x y = .ok r) (ho : o.op = .store t x y) (S : St C η ρ h s r w) (hx : TmOK η ρ s a x) (hy : TmOK η ρ s a y)
    (I : InsOK tb η s.ne r.ins) : OpSem P o a w (Post C η ρ h s r) := by
  replace hs := ebind hs
  obtain ⟨p, e1, hs⟩ := hs
  replace hs := ebind hs
  obtain ⟨⟨v, bs⟩, e2, hs⟩ := hs
  have hp := opn_ok (η := η) (ρ := ρ) e1 hx
  simp only at hs
  split at hs
  · rename_i i l hi hl
    split at hs
    · cases hs
    · rename_i hcond
      have hsz : l.length = i.size := by
        by_cases q : l.length = i.size
        · exact q
        · exact absurd (.inl q) hcond
      have hany : l.any (· == .any) = false := by
        cases q : l.any (· == .any) with
        | false => rfl
        | true => exact absurd (.inr q) hcond
      split at hs
      · rename_i b off
        replace hs := ebind hs
        obtain ⟨cs, e3, hs⟩ := hs
        have hc := cellsAt_ok e3
        have hblt := hpf_lt hc
        split at hs
        · rename_i hle
          cases hs
          have hf : ∀ c, s.hp.length ≤ c → c < s.hp.length + bs.length → ρ c = none := fun c h1 h2 => (S.fresh c h1 (by simpa [setAt] using h2)).1
          have hh : ∀ c, s.hp.length ≤ c → c < s.hp.length + bs.length → h c = none := fun c h1 h2 => (S.fresh c h1 (by simpa [setAt] using h2)).2
          obtain ⟨hn, hvv⟩ := opnd_ok (η := η) (ρ := ρ) e2 hy hf
          have hlv := hvv.cells_ok hl
          have hb : h b = some (.cells cs) := by rw [S.ag b (by simp)]; exact hc
          obtain ⟨rb, blk, hr, hat, hpv⟩ := hp
          have hx' := nilsR_ext' (bs := bs) hf
          have H1 := S.hr.nils hn hf
          have F1 := S.fr.nils S.hr hn hf
          have hb1 : addN h s.hp.length bs b = some (.cells cs) := by unfold addN; rw [if_neg (by omega)]; exact hb
          have hr1 := hx' _ _ hr
          obtain ⟨rb', hr', bc⟩ := H1.bc b _ hb1
          rw [hr1] at hr'; cases hr'
          obtain ⟨blk', arr, ty, q1, q2, q3, q4⟩ := bc
          rw [hat] at q1; cases q1
          have hal : arr.size = cs.length := by have := q4.len; simpa using this
          have hll : (a.eval y).cells.toList.length = l.length := hlv.len
          obtain ⟨w', r1, r2, r3, r4, r5, r6, arr', r7, r8⟩ := run_stores P blk off ty (a.eval y).cells.toList 0 arr w q3 (by rw [hll]; omega) (hlv.one hany)
          refine OpSem.skip (w' := w') ?_ ⟨nilsR ρ s.hp.length bs, trivial, hx', fun c hcne => ?_, ?_, ?_⟩
          · have hsz' : (a.eval y).cells.size = i.size := by rw [← hsz, ← hll]; simp
            simp [execOp, ho, hpv, Instr.storeAt, Instr.sureAddr, storeVar, run_size hi, hsz', r1]
          · unfold nilsR at hcne
            split at hcne
            · rename_i hge
              refine ⟨hge, ?_⟩
              rcases Nat.lt_or_ge c (s.hp.length + bs.length) with q | q
              · simpa [setAt] using q
              · have : hpf bs (c - s.hp.length) = none := hpf_ge (by omega)
                rw [this] at hcne
                exact absurd rfl hcne
            · exact absurd rfl hcne
          · show HR η _ (upd h s.hp (s.hp.set b _ ++ bs)) w'
            rw [upd_set_app hblt (by rw [hb, hc]) hh]
            refine H1.turn hb1 hr1 rfl (by omega) (fun z hz _ => r6 z (fun q => hz (by rw [q2]; simp [q]))) ?_
            refine ⟨blk, arr', ty, hat, q2, r7, ?_⟩
            rw [r8]
            have := ((q4.take off).app hlv).app (q4.drop (off + l.length))
            rw [Nat.add_zero, hll]
            exact this
          · show FR C _ (upd h s.hp (s.hp.set b _ ++ bs)) w'
            rw [upd_set_app hblt (by rw [hb, hc]) hh]
            exact F1.turn hb1 hr1 rfl r2 r3 r4 (by omega) (fun z hz _ => r6 z (fun q => hz (by rw [q2]; simp [q])))
        · cases hs
      · rename_i b x' wd' off
        replace hs := ebind hs
        obtain ⟨⟨ck, wd, c, rw_⟩, e3, hs⟩ := hs
        have hc := listAt_ok e3
        have hblt := hpf_lt hc
        simp only at hs
        split at hs
        · cases hs
        · rename_i hcnd
          simp only [Bool.not_eq_true', Bool.not_eq_false, Bool.and_eq_true, beq_iff_eq, decide_eq_true_eq, List.isEmpty_iff] at hcnd
          obtain ⟨⟨⟨⟨hrw, hwd⟩, hoff⟩, hne⟩, hbs⟩ := hcnd
          subst hrw; subst hwd; subst hbs
          split at hs
          · rename_i rr is hset
            cases hs
            obtain ⟨hn, hvv⟩ := opnd_ok (η := η) (ρ := ρ) e2 hy (by intro c h1 h2; simp at h2; omega)
            rw [nilsR_nil] at hvv
            have hlv := hvv.cells_ok hl
            have hb : h b = some (.list ck wd' c true) := by rw [S.ag b (by simp)]; exact hc
            obtain ⟨rb, blk, boff, j, hr, hat, hj, hj0, hpv⟩ := hp
            obtain ⟨rb', hr', bc⟩ := S.hr.bc b _ hb
            rw [hr] at hr'; cases hr'
            obtain ⟨L, q1, q2, q3, q4, q5⟩ := bc
            rcases q5 with ⟨z1, _, _⟩ | ⟨blk', arr, ty, z1, z2, z3, z4, z5⟩
            · rw [hat] at z1; cases z1
            · rw [hat] at z1; cases z1
              obtain ⟨zs, L', s1, s2, s3, s4, s5⟩ := setsI_ok (tb := tb) hj hset hlv q1 (rest := []) (by simpa using I)
              have hzl : zs.length = l.length := by
                have h1 := hlv.len
                rw [s1] at h1
                simpa using h1
              have hin : j.toNat * wd' + off + zs.length ≤ arr.size := by
                cases l with
                | nil => simp at hne
                | cons c0 l0 =>
                  have h1 := s4 (by simp)
                  have h2 : rb.n * wd' ≤ rb.cap * wd' := Nat.mul_le_mul_right _ q4
                  omega
              have hll : (a.eval y).cells.toList.length = l.length := hlv.len
              obtain ⟨w', r1, r2, r3, r4, r5, r6, arr', r7, r8⟩ := run_stores P blk (0 + (j.toNat * wd' + off)) ty (a.eval y).cells.toList 0 arr w z3 (by rw [hll]; omega) (hlv.one hany)
              have htl : ∀ (q : Nat), arr'.toList[q]? = if j.toNat * wd' + off ≤ q ∧ q < j.toNat * wd' + off + zs.length then (zs.map ck.val)[q - (j.toNat * wd' + off)]? else arr.toList[q]? := by
                intro q
                rw [r8, s1]
                simp only [Nat.zero_add, Nat.add_zero, List.length_map]
                rw [List.getElem?_append, List.getElem?_append]
                simp only [List.length_append, List.length_take, Array.length_toList, List.length_map]
                have hmin : min (j.toNat * wd' + off) arr.size = j.toNat * wd' + off := by omega
                rw [hmin]
                by_cases c1 : q < j.toNat * wd' + off
                · rw [if_pos (by omega), if_pos c1, if_neg (by omega), List.getElem?_take, if_pos c1]
                · by_cases c2 : q < j.toNat * wd' + off + zs.length
                  · rw [if_pos c2, if_neg c1, if_pos (by omega)]
                  · rw [if_neg c2, if_neg (by omega), List.getElem?_drop]
                    congr 1
                    omega
              refine OpSem.skip (w' := w') ?_ ⟨ρ, trivial, Ext.refl _, fun c hcne => absurd rfl hcne, ?_, ?_⟩
              · have hsz' : (a.eval y).cells.size = i.size := by rw [← hsz, ← hll]; simp
                simp only [Nat.zero_add] at r1
                simp [execOp, ho, hpv, Instr.storeAt, Instr.sureAddr, storeVar, run_size hi, hsz', r1]
              · show HR η _ (upd h s.hp (s.hp.set b _)) w'
                rw [upd_set hblt (by rw [hb, hc])]
                refine S.hr.turn hb hr rfl (by omega) (fun z hz _ => r6 z (fun q => hz (by rw [z2]; simp [q]))) ?_
                have hsz2 : arr'.size = arr.size := by
                  have h1 : arr'.toList.length = arr.toList.length := by
                    rw [r8]
                    simp only [List.length_append, List.length_take, List.length_drop, Array.length_toList, hll]
                    omega
                  simpa using h1
                refine ⟨L', s2, q2, by rw [s3]; exact q3, q4, .inr ⟨blk, arr', ty, hat, z2, r7, by rw [hsz2]; exact z4, fun q z hz => ?_⟩⟩
                rw [s5 q] at hz
                have := htl q
                rw [Array.getElem?_toList] at this
                rw [this]
                split at hz
                · rename_i hq
                  rw [if_pos hq, List.getElem?_map, hz]; rfl
                · rename_i hq
                  rw [if_neg hq, Array.getElem?_toList]
                  exact z5 q z hz
              · show FR C _ (upd h s.hp (s.hp.set b _)) w'
                rw [upd_set hblt (by rw [hb, hc])]
                exact S.fr.turn hb hr rfl r2 r3 r4 (by omega) (fun z hz _ => r6 z (fun q => hz (by rw [z2]; simp [q])))
          · cases hs
      · cases hs
  · cases hs

end
end Gm

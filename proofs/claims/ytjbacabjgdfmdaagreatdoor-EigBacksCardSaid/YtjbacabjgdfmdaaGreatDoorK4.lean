/- Calls: what a function promises, and what a call of it does. -/
import Derived.Test.YtjbacabjgdfmdaaGreatDoorK3
import Derived.Laws.AppendOwn
namespace Gm
open Go

def touchOf (sg : Sig) (ρ : Rho) (x : Nat) : Prop := ∃ b sb rb, hpf sg.heap b = some sb ∧ sb.rw = true ∧ ρ b = some rb ∧ x ∈ rb.foot
def aliasOf (sg : Sig) (ρ : Rho) (x : Nat) : Prop := ∃ b sb rb, hpf sg.heap b = some sb ∧ sb.rw = false ∧ ρ b = some rb ∧ x ∈ rb.foot

def CallTo (P : Program) (f : FuncId) (args : Array Value) (w : World) (R : Value → World → Prop) : Prop :=
  match (callFunc f args).run P w with
  | .ok (.value v) w' => R v w'
  | .ok (.enter g as) w' => Calls P g as w' fun
    | .returned v, w'' => R v w''
    | _, _ => False
  | _ => False

/-- what a call leaves, by its signature -/
def Back (sg : Sig) (ρ : Rho) (w : World) (rs : List PV) (v : Value) (w' : World) : Prop :=
  ∃ ρ', VV rs ρ' sg.res v ∧ HR rs ρ' (hpf sg.out) w' ∧ (∀ b, b < sg.npin → ρ' b = ρ b) ∧ FR ⟨w, touchOf sg ρ, aliasOf sg ρ⟩ ρ' (hpf sg.out) w'

def Contract (P : Program) (gl : Nat → Option (CK × List Int)) (f : FuncId) (sg : Sig) (F : PF) : Prop :=
  ∀ (w : World) (ρ : Rho) (ps rs : List PV) (args : Array Value), VVs ps ρ sg.args args.toList → HR ps ρ (hpf sg.heap) w → (∀ b, sg.heap.length ≤ b → ρ b = none) → ps.length = sg.np → F ps some = some rs → rs.length = sg.nr →
    GL gl ⟨w, touchOf sg ρ, aliasOf sg ρ⟩ → CallTo P f args w (Back sg ρ w rs)

theorem Calls.mono {P : Program} {f : FuncId} {args : Array Value} {w : World} {R R' : Ending → World → Prop} (h : Calls P f args w R) (hr : ∀ e w', R e w' → R' e w') : Calls P f args w R' := by
  intro cs
  obtain ⟨e, w', fr, h1, h2⟩ := h cs
  exact ⟨e, w', fr, hr _ _ h1, h2⟩

theorem CallTo.mono {P : Program} {f : FuncId} {args : Array Value} {w : World} {R R' : Value → World → Prop} (h : CallTo P f args w R) (hr : ∀ v w', R v w' → R' v w') : CallTo P f args w R' := by
  unfold CallTo at *
  split at h
  · exact hr _ _ h
  · refine Calls.mono h fun e w' q => ?_
    cases e with
    | returned v => exact hr _ _ q
    | panicked c => exact q
    | outgrown => exact q
  · exact h.elim

theorem OpSem.call {P : Program} {o : Oper} {a : Act} {w : World} {R : Value → World → Prop} {f : FuncId} {args : Array Value} (he : (execOp a.eval o).run P w = (callFunc f args).run P w) (h : CallTo P f args w R) :
    OpSem P o a w R := by
  intro K Q hk
  unfold Oper.wp
  rw [he]
  unfold CallTo at h
  split at h
  · rename_i v w' e; rw [e]; exact hk _ _ h
  · rename_i g as w' e
    rw [e]
    refine Calls.mono h fun e w' q => ?_
    cases e with
    | returned v => exact hk _ _ q
    | panicked c => exact q.elim
    | outgrown => exact q.elim
  · exact h.elim

theorem fitVs_ok {η ps : List PV} {ρ : Rho} {bl : List BM} {as : List Atom} (hp : looks η as = some ps) : ∀ {t a : List SV} {vs : List Value}, fitVs bl as t a = true → VVs η ρ a vs → VVs ps (rhoOf ρ bl) t vs
  | [], [], [], _, _ => trivial
  | t :: ts, a :: l, v :: vs, h, e => by
    simp only [fitVs, Bool.and_eq_true] at h
    exact ⟨fitV_ok hp h.1 e.1, fitVs_ok hp h.2 e.2⟩
  | [], [], _ :: _, _, e => e.elim
  | _ :: _, _ :: _, [], _, e => e.elim
  | [], _ :: _, _, h, _ => by simp [fitVs] at h
  | _ :: _, [], _, h, _ => by simp [fitVs] at h

theorem fit_spec {g : Tgt} {tm : List SV} {hp : List (Option SB)} {npin : Nat} {bl : List BM} {as : List Atom} (h : fit g tm hp npin = .ok (bl, as)) :
    as.length = g.np ∧ bl.length = g.hp.length ∧ pinOk npin bl = true ∧ fitVs bl as g.tm tm = true ∧ fitHs g.hp hp bl as = true := by
  unfold fit at h
  split at h
  · cases h
  · rename_i bl' as' _
    split at h
    · cases h
    · split at h
      · cases h
      · split at h
        · cases h
        · split at h
          · cases h
          · split at h
            · cases h
            · cases h
              simp_all

/-! ### renaming -/
section
variable {rs η : List PV} {ρ2 ρn : Rho} {d : Nat} {f : Nat → Nat} {q : Nat → Bool}

theorem renA_ok (hη : ∀ (j : Nat) (x : PV), rs[j]? = some x → η[d + j]? = some x) {x : Atom} {p : PV} (h : look rs x = some p) : look η (renA d x) = some p := by
  cases x with
  | v i => exact hη i p h
  | i n => exact h
  | b y => exact h
  | nil => exact h

theorem renP_ok (hη : ∀ (j : Nat) (x : PV), rs[j]? = some x → η[d + j]? = some x) (hρ : ∀ b rb, q b = true → ρ2 b = some rb → ρn (f b) = some rb) {c : Cp} {v : Value} (hq : cpIds q c = true) (h : VCp rs ρ2 c v) :
    VCp η ρn (renP f (renA d) c) v := by
  cases c with
  | int k a => obtain ⟨n, e, r⟩ := h; exact ⟨n, renA_ok hη e, r⟩
  | bool a => obtain ⟨n, e, r⟩ := h; exact ⟨n, renA_ok hη e, r⟩
  | str a => obtain ⟨n, e, r⟩ := h; exact ⟨n, renA_ok hη e, r⟩
  | ptr b o => obtain ⟨rb, blk, e, r⟩ := h; exact ⟨rb, blk, hρ _ _ hq e, r⟩

theorem renPs_ok (hη : ∀ (j : Nat) (x : PV), rs[j]? = some x → η[d + j]? = some x) (hρ : ∀ b rb, q b = true → ρ2 b = some rb → ρn (f b) = some rb) : ∀ {c : List Cp} {v : List Value}, c.all (cpIds q) = true → VCps rs ρ2 c v →
    VCps η ρn (c.map (renP f (renA d))) v
  | [], [], _, _ => trivial
  | _ :: _, _ :: _, hq, h => by
    simp only [List.all_cons, Bool.and_eq_true] at hq
    exact ⟨renP_ok hη hρ hq.1 h.1, renPs_ok hη hρ hq.2 h.2⟩
  | [], _ :: _, _, h => h.elim
  | _ :: _, [], _, h => h.elim

theorem renC_ok (hη : ∀ (j : Nat) (x : PV), rs[j]? = some x → η[d + j]? = some x) (hρ : ∀ b rb, q b = true → ρ2 b = some rb → ρn (f b) = some rb) {c : SC} {v : Value} (hq : scIds q c = true) (h : VC rs ρ2 c v) :
    VC η ρn (renC f (renA d) c) v := by
  cases c with
  | any => trivial
  | int k a => obtain ⟨n, e, r⟩ := h; exact ⟨n, renA_ok hη e, r⟩
  | bool a => obtain ⟨n, e, r⟩ := h; exact ⟨n, renA_ok hη e, r⟩
  | str a => obtain ⟨n, e, r⟩ := h; exact ⟨n, renA_ok hη e, r⟩
  | nilp => exact h
  | ptr b o => obtain ⟨rb, blk, e, r⟩ := h; exact ⟨rb, blk, hρ _ _ hq e, r⟩
  | eptr b a w o => obtain ⟨rb, blk, off, i, e, r, ei, r'⟩ := h; exact ⟨rb, blk, off, i, hρ _ _ hq e, r, renA_ok hη ei, r'⟩
  | nils => exact h
  | slc b => obtain ⟨rb, cap, e, r⟩ := h; exact ⟨rb, cap, hρ _ _ hq e, r⟩
  | sub b lo n => obtain ⟨rb, l, m, ad, cap, e, el, em, r⟩ := h; exact ⟨rb, l, m, ad, cap, hρ _ _ hq e, renA_ok hη el, renA_ok hη em, r⟩
  | csl b n w => obtain ⟨rb, blk, cap, e, r⟩ := h; exact ⟨rb, blk, cap, hρ _ _ hq e, r⟩
  | fn f fs cs =>
    simp only [scIds, Bool.and_eq_true] at hq
    obtain ⟨xs, ys, hx, hy, r⟩ := h
    exact ⟨xs, ys, renPs_ok hη hρ hq.1 hx, renPs_ok hη hρ hq.2 hy, r⟩
  | gptr g => exact h
  | gel g a => obtain ⟨i, e, r⟩ := h; exact ⟨i, renA_ok hη e, r⟩

theorem renL_ok (hη : ∀ (j : Nat) (x : PV), rs[j]? = some x → η[d + j]? = some x) (hρ : ∀ b rb, q b = true → ρ2 b = some rb → ρn (f b) = some rb) : ∀ {c : List SC} {v : List Value}, c.all (scIds q) = true → VL rs ρ2 c v →
    VL η ρn (c.map (renC f (renA d))) v
  | [], [], _, _ => trivial
  | _ :: _, _ :: _, hq, h => by
    simp only [List.all_cons, Bool.and_eq_true] at hq
    exact ⟨renC_ok hη hρ hq.1 h.1, renL_ok hη hρ hq.2 h.2⟩
  | [], _ :: _, _, h => h.elim
  | _ :: _, [], _, h => h.elim

theorem V1.agg_iff {η : List PV} {ρ : Rho} {l : List SC} {v : Value} : V1 η ρ ⟨true, l⟩ v ↔ ∃ cs : Array Value, v = .agg cs ∧ VL η ρ l cs.toList := by
  unfold V1; simp

theorem V1.one_iff {η : List PV} {ρ : Rho} {l : List SC} {v : Value} : V1 η ρ ⟨false, l⟩ v ↔ ∃ c, l = [c] ∧ VC η ρ c v := by
  unfold V1; simp

theorem ren1_ok (hη : ∀ (j : Nat) (x : PV), rs[j]? = some x → η[d + j]? = some x) (hρ : ∀ b rb, q b = true → ρ2 b = some rb → ρn (f b) = some rb) {c : S1} {v : Value} (hq : c.cs.all (scIds q) = true) (h : V1 rs ρ2 c v) :
    V1 η ρn (ren1 f (renA d) c) v := by
  obtain ⟨b, l⟩ := c
  cases b with
  | true =>
    rw [V1.agg_iff] at h
    obtain ⟨cs, r, hl⟩ := h
    exact V1.agg_iff.2 ⟨cs, r, renL_ok hη hρ hq hl⟩
  | false =>
    rw [V1.one_iff] at h
    obtain ⟨x, r, hl⟩ := h
    subst r
    simp only [List.all_cons, Bool.and_eq_true] at hq
    exact V1.one_iff.2 ⟨_, rfl, renC_ok hη hρ hq.1 hl⟩

theorem ren1s_ok (hη : ∀ (j : Nat) (x : PV), rs[j]? = some x → η[d + j]? = some x) (hρ : ∀ b rb, q b = true → ρ2 b = some rb → ρn (f b) = some rb) : ∀ {c : List S1} {v : List Value}, (c.all fun s => s.cs.all (scIds q)) = true → V1s rs ρ2 c v →
    V1s η ρn (c.map (ren1 f (renA d))) v
  | [], [], _, _ => trivial
  | _ :: _, _ :: _, hq, h => by
    simp only [List.all_cons, Bool.and_eq_true] at hq
    exact ⟨ren1_ok hη hρ hq.1 h.1, ren1s_ok hη hρ hq.2 h.2⟩
  | [], _ :: _, _, h => h.elim
  | _ :: _, [], _, h => h.elim

theorem renV_ok (hη : ∀ (j : Nat) (x : PV), rs[j]? = some x → η[d + j]? = some x) (hρ : ∀ b rb, q b = true → ρ2 b = some rb → ρn (f b) = some rb) {c : SV} {v : Value} (hq : svIds q c = true) (h : VV rs ρ2 c v) :
    VV η ρn (renV f (renA d) c) v := by
  cases c with
  | c x => exact renC_ok hη hρ hq h
  | agg l => obtain ⟨cs, r, hl⟩ := h; exact ⟨cs, r, renL_ok hη hρ hq hl⟩
  | tup l => obtain ⟨cs, r, hl⟩ := h; exact ⟨cs, r, ren1s_ok hη hρ hq hl⟩

theorem renB_ok (hη : ∀ (j : Nat) (x : PV), rs[j]? = some x → η[d + j]? = some x) (hρ : ∀ b rb, q b = true → ρ2 b = some rb → ρn (f b) = some rb) {sb : SB} {rb : RB} {w : World} (hq : sbIds q sb = true) (h : BC rs ρ2 w rb sb) :
    BC η ρn w rb (renB f (renA d) sb) := by
  cases sb with
  | cells cs => obtain ⟨blk, arr, t, h1, h2, h3, h4⟩ := h; exact ⟨blk, arr, t, h1, h2, h3, renL_ok hη hρ hq h4⟩
  | list ck wd x rw =>
    cases rw with
    | true => obtain ⟨l, h1, h2⟩ := h; exact ⟨l, renA_ok hη h1, h2⟩
    | false => obtain ⟨l, h1, h2⟩ := h; exact ⟨l, renA_ok hη h1, h2⟩

theorem renB_rw {sb : SB} {g : Atom → Atom} : (renB f g sb).rw = sb.rw := by cases sb <;> rfl
end

end Gm

/- A call of a function that keeps its promise. -/
namespace Gm
open Go

section
variable {P : Program} {o : Oper} {a : Act} {w : World} {C : Ctx} {η : List PV} {ρ : Rho} {h : Hp} {s : SSt} {r : Res} {tb : List PF}

theorem weakB_rw {sb : SB} (h : (weakB sb).rw = true) : sb.rw = true := by
  cases sb with
  | cells cs => rfl
  | list ck wd x rw => simp [weakB, SB.rw] at h

theorem BC.weakB {rb : RB} {sb : SB} (h : BC η ρ w rb sb) : BC η ρ w rb (weakB sb) := by
  cases sb with
  | cells cs => exact h
  | list ck wd x rw => exact h.weak

theorem seen_iff {sg : Sig} {bl : List BM} {x b : Nat} {q : SB → Bool} : seen sg bl x q b = true ↔ ∃ t, hpf sg.heap b = some t ∧ bm bl b = .blk x ∧ q t = true := by
  unfold seen
  split
  · rename_i t e
    rw [e]
    simp
  · rename_i e
    simp [e]

theorem bm_mem {bl : List BM} {b x : Nat} (h : bm bl b = .blk x) : BM.blk x ∈ bl := by
  unfold bm at h
  rw [List.getD_eq_getElem?_getD] at h
  cases e : bl[b]? with
  | none => rw [e] at h; cases h
  | some y => rw [e] at h; simp at h; subst h; exact List.mem_of_getElem? e

theorem blksOf_mem {bl : List BM} {n x : Nat} (h : BM.blk x ∈ bl) (hx : x < n) : x ∈ blksOf bl n := by
  unfold blksOf
  rw [List.mem_filterMap]
  exact ⟨_, h, by simp [hx]⟩

/-- what stands at one of the caller's blocks -/
theorem back_cases {sg : Sig} {bl : List BM} {base d : Nat} {o : Option SB} {c : Nat} :
    (∃ b t, hpf sg.heap b = some t ∧ t.rw = true ∧ bm bl b = .blk c ∧ backAt sg bl base d o c = if b < sg.npin then (hpf sg.out b).map (renB (outIds sg bl base) (renA d)) else none) ∨
    ((∀ b t, hpf sg.heap b = some t → t.rw = true → bm bl b ≠ .blk c) ∧
      ((leaks sg = true ∧ (∃ b t, hpf sg.heap b = some t ∧ bm bl b = .blk c) ∧ backAt sg bl base d o c = o.map weakB) ∨
       ((leaks sg = true → ∀ b t, hpf sg.heap b = some t → bm bl b ≠ .blk c) ∧ backAt sg bl base d o c = o))) := by
  unfold backAt
  split
  · rename_i b hb
    have h1 := List.find?_some hb
    rw [seen_iff] at h1
    obtain ⟨t, e1, e2, e3⟩ := h1
    exact .inl ⟨b, t, e1, e3, e2, rfl⟩
  · rename_i hb
    rw [List.find?_eq_none] at hb
    refine .inr ⟨fun b t e1 e2 e3 => hb b (List.mem_range.2 (hpf_lt e1)) (seen_iff.2 ⟨t, e1, e3, e2⟩), ?_⟩
    split
    · rename_i hc
      simp only [Bool.and_eq_true, List.any_eq_true] at hc
      obtain ⟨hl, b, _, hs⟩ := hc
      obtain ⟨t, e1, e2, _⟩ := seen_iff.1 hs
      exact .inl ⟨hl, ⟨b, t, e1, e2⟩, rfl⟩
    · rename_i hc
      refine .inr ⟨fun hl b t e1 e2 => hc ?_, rfl⟩
      simp only [Bool.and_eq_true, List.any_eq_true]
      exact ⟨hl, b, List.mem_range.2 (hpf_lt e1), seen_iff.2 ⟨t, e1, e2, rfl⟩⟩

structure WfSig (sg : Sig) : Prop where
  pin : sg.npin ≤ sg.heap.length
  out : sg.heap.length ≤ sg.out.length
  res : svIds (goodId sg) sg.res = true
  outs : ∀ b so, hpf sg.out b = some so → sbIds (goodId sg) so = true
  pins : ∀ b, b < sg.npin → ∃ t, hpf sg.heap b = some t ∧ t.rw = true
  rest : ∀ b so, hpf sg.out b = some so → b < sg.npin ∨ sg.heap.length ≤ b

theorem wfSig_ok {sg : Sig} (h : wfSig sg = true) : WfSig sg := by
  unfold wfSig at h
  simp only [Bool.and_eq_true, decide_eq_true_eq, List.all_eq_true, List.mem_range, Bool.or_eq_true] at h
  obtain ⟨⟨⟨⟨⟨h1, h2⟩, h3⟩, h4⟩, h5⟩, h6⟩ := h
  refine ⟨h1, h2, h3, fun b so e => ?_, fun b hb => ?_, fun b so e => ?_⟩
  · have hl := hpf_lt e
    unfold hpf at e
    rw [List.getElem?_eq_getElem hl] at e
    have := h4 _ (List.getElem_mem hl)
    simp only [Option.join_some] at e
    rw [e] at this
    exact this
  · have := h5 b hb
    split at this
    · rename_i t e; exact ⟨t, e, this⟩
    · cases this
  · rcases Nat.lt_or_ge b sg.heap.length with q | q
    · rcases h6 b q with q2 | q2
      · exact .inl q2
      · rw [e] at q2; cases q2
    · exact .inr q

theorem hpf_zipIdx {hp : List (Option SB)} {g : Option SB → Nat → Option SB} {b : Nat} (hb : b < hp.length) : hpf (hp.zipIdx.map fun (o, x) => g o x) b = g (hpf hp b) b := by
  unfold hpf
  rw [List.getElem?_map, List.getElem?_zipIdx, List.getElem?_eq_getElem hb]
  simp

theorem hpf_map {hp : List (Option SB)} {g : SB → SB} {b : Nat} : hpf (hp.map fun o => o.map g) b = (hpf hp b).map g := by
  unfold hpf
  rw [List.getElem?_map]
  cases hp[b]? with
  | none => rfl
  | some x => cases x <;> rfl

theorem hpf_drop {hp : List (Option SB)} {n b : Nat} : hpf (hp.drop n) b = hpf hp (n + b) := by
  unfold hpf; rw [List.getElem?_drop]

/-- what a caller knows of the blocks that the call sees -/
structure Seen (ρ : Rho) (h : Hp) (s : SSt) (sg : Sig) (bl : List BM) : Prop where
  blk : ∀ b t y, hpf sg.heap b = some t → bm bl b = .blk y → ∃ sy, h y = some sy ∧ hpf s.hp y = some sy ∧ (t.rw = true → sy.rw = true) ∧ rhoOf ρ bl b = ρ y
  cas : ∀ b t, hpf sg.heap b = some t → (∃ y, bm bl b = .blk y) ∨ (∃ rb, rhoOf ρ bl b = some rb ∧ rb.foot = [])

theorem Seen.of {sg : Sig} {bl : List BM} {as : List Atom} (hf : fitHs sg.heap s.hp bl as = true) (hag : ∀ b b' sb', bm bl b = .blk b' → hpf s.hp b' = some sb' → h b' = some sb') : Seen ρ h s sg bl := by
  refine ⟨fun b t y e1 e2 => ?_, fun b t e1 => ?_⟩
  · rcases fitH_cases hf e1 with ⟨b', sb', h1, h2, h3⟩ | ⟨ck, wd, x, rw, h1, _, _⟩
    · rw [e2] at h1; cases h1
      exact ⟨sb', hag b y sb' e2 h2, h2, fitB_rw h3, rhoOf_blk e2⟩
    · rw [e2] at h1; cases h1
  · rcases fitH_cases hf e1 with ⟨b', sb', h1, h2, h3⟩ | ⟨ck, wd, x, rw, h1, _, _⟩
    · exact .inl ⟨b', h1⟩
    · exact .inr ⟨⟨none, 0, 0, wd, []⟩, by unfold rhoOf; rw [h1], rfl⟩

/-- a cell that the call may turn lies in a block that the caller gave -/
theorem Seen.touch {sg : Sig} {bl : List BM} (Z : Seen ρ h s sg bl) {x : Nat} (ht : touchOf sg (rhoOf ρ bl) x) : ∃ b t y sy rb, hpf sg.heap b = some t ∧ t.rw = true ∧ bm bl b = .blk y ∧ h y = some sy ∧ sy.rw = true ∧ ρ y = some rb ∧ x ∈ rb.foot := by
  obtain ⟨b, t, rb, e1, e2, e3, e4⟩ := ht
  rcases Z.cas b t e1 with ⟨y, e5⟩ | ⟨rb', e5, e6⟩
  · obtain ⟨sy, q1, q2, q3, q4⟩ := Z.blk b t y e1 e5
    exact ⟨b, t, y, sy, rb, e1, e2, e5, q1, q3 e2, by rw [← q4]; exact e3, e4⟩
  · rw [e3] at e5; cases e5; rw [e6] at e4; cases e4

theorem Seen.alias {sg : Sig} {bl : List BM} (Z : Seen ρ h s sg bl) {x : Nat} (ht : aliasOf sg (rhoOf ρ bl) x) : ∃ b t y sy rb, hpf sg.heap b = some t ∧ bm bl b = .blk y ∧ h y = some sy ∧ ρ y = some rb ∧ x ∈ rb.foot := by
  obtain ⟨b, t, rb, e1, e2, e3, e4⟩ := ht
  rcases Z.cas b t e1 with ⟨y, e5⟩ | ⟨rb', e5, e6⟩
  · obtain ⟨sy, q1, q2, q3, q4⟩ := Z.blk b t y e1 e5
    exact ⟨b, t, y, sy, rb, e1, e5, q1, by rw [← q4]; exact e3, e4⟩
  · rw [e3] at e5; cases e5; rw [e6] at e4; cases e4

theorem upd_val {X Y Z : Option SB} {sb : SB} (hc : (if X = Y then Z else X) = some sb) (e : Z = Y) : X = some sb := by
  split at hc
  · rename_i q; rw [q, ← e]; exact hc
  · exact hc

theorem callEnt_ok {args : List SV} {sg : Sig} {i npin : Nat} {f : FuncId} {F : PF} {vals : Array Value} (hs : callEnt s args sg i npin = .ok r) (hF : tb[i]? = some F) {gl : Nat → Option (CK × List Int)} (K : Contract P gl f sg F) (G : GL gl C)
    (S : St C η ρ h s r w) (hv : VVs η ρ args vals.toList) (I : InsOK tb η s.ne r.ins) : CallTo P f vals w (Post C η ρ h s r) := by
  unfold callEnt at hs
  replace hs := ebind hs
  obtain ⟨⟨bl, as⟩, e1, hs⟩ := hs
  obtain ⟨f1, f2, _, f4, f5⟩ := fit_spec e1
  simp only at f1 f2 f4 f5 hs
  split at hs
  · cases hs
  · split at hs
    · cases hs
    · rename_i hwf
      split at hs
      · cases hs
      · rename_i hpb
        cases hs
        simp only [Bool.not_eq_true', Bool.not_eq_false] at hwf hpb
        have W := wfSig_ok hwf
        obtain ⟨ps, rs, i1, i2, i3, i4, _⟩ := I
        simp only [step, hF] at i2
        have hag : ∀ b b' sb', bm bl b = .blk b' → hpf s.hp b' = some sb' → h b' = some sb' := by
          intro b b' sb' q1 q2
          rw [S.ag b' (blksOf_mem (bm_mem q1) (hpf_lt q2))]
          exact q2
        have Z : Seen ρ h s sg bl := Seen.of f5 hag
        have Hc := HR.fitG S.hr hag i1 f5
        have Vc := fitVs_ok i1 f4 hv
        have hnp : ps.length = sg.np := (looks_len i1).trans f1
        have G' : GL gl ⟨w, touchOf sg (rhoOf ρ bl), aliasOf sg (rhoOf ρ bl)⟩ := by
          intro g ck l hg
          obtain ⟨t1, arr, t, fr, t2, t3⟩ := G g ck l hg
          have hlt : g < C.w0.heap.size := (Array.getElem?_eq_some_iff.1 t2).1
          refine ⟨fun ht => ?_, arr, t, fr, (S.fr.keep g hlt t1).trans t2, t3⟩
          obtain ⟨b, t, y, sy, ry, y1, y2, y3, y4, y5, y6, y7⟩ := Z.touch ht
          rcases S.fr.foot y sy ry y4 y6 g y7 with k | k | ⟨k, _⟩
          · omega
          · exact t1 k
          · rw [y5] at k; cases k
        have htop : ∀ b, sg.heap.length ≤ b → rhoOf ρ bl b = none := by
          intro b hb
          have : bm bl b = .no := by unfold bm; rw [List.getD_eq_getElem?_getD, List.getElem?_eq_none (by omega)]; rfl
          unfold rhoOf; rw [this]
        refine CallTo.mono (K w (rhoOf ρ bl) ps rs vals Vc Hc htop hnp i2 i3 G') fun v w' B => ?_
        obtain ⟨ρ2, hv2, H2, hpn, F2⟩ := B
        -- the blocks, from the caller's side
        let g := outIds sg bl s.hp.length
        let ρn : Rho := fun c => if s.hp.length ≤ c ∧ c < s.hp.length + (sg.out.length - sg.heap.length) then ρ2 (sg.heap.length + (c - s.hp.length)) else ρ c
        have hlenr : (callHp s sg bl).length = s.hp.length + (sg.out.length - sg.heap.length) := by simp [callHp]
        have hpinblk : ∀ b, b < sg.npin → ∃ t y, hpf sg.heap b = some t ∧ bm bl b = .blk y ∧ y < s.hp.length := by
          intro b hb
          obtain ⟨t, ht, _⟩ := W.pins b hb
          have := List.all_eq_true.1 hpb b (List.mem_range.2 hb)
          split at this
          · rename_i y hy
            obtain ⟨sy, _, q2, _⟩ := Z.blk b t y ht hy
            exact ⟨t, y, ht, hy, hpf_lt q2⟩
          · cases this
        have hgpin : ∀ b y, b < sg.npin → bm bl b = .blk y → g b = y := by
          intro b y hb hy
          show outIds sg bl s.hp.length b = y
          unfold outIds
          rw [if_pos (Nat.lt_of_lt_of_le hb W.pin), hy]
        have hgnew : ∀ b, sg.heap.length ≤ b → g b = s.hp.length + (b - sg.heap.length) := by
          intro b hb
          show outIds sg bl s.hp.length b = _
          unfold outIds
          rw [if_neg (by omega)]
        have hgood : ∀ b rb, goodId sg b = true → ρ2 b = some rb → ρn (g b) = some rb := by
          intro b rb hb hr
          unfold goodId at hb
          simp only [Bool.or_eq_true, Bool.and_eq_true, decide_eq_true_eq] at hb
          rcases hb with hb | ⟨hb1, hb2⟩
          · obtain ⟨t, y, ht, hy, hlt⟩ := hpinblk b hb
            show (if _ then _ else _) = _
            rw [hgpin b y hb hy, if_neg (by omega), ← rhoOf_blk (ρ := ρ) hy, ← hpn b hb]
            exact hr
          · show (if _ then _ else _) = _
            rw [hgnew b hb1, if_pos (by omega)]
            have : sg.heap.length + (s.hp.length + (b - sg.heap.length) - s.hp.length) = b := by omega
            rw [this]; exact hr
        -- the new heap
        have hnew : ∀ c sb, upd h s.hp (callHp s sg bl) c = some sb →
            (∃ b so, hpf sg.out b = some so ∧ g b = c ∧ sb = renB g (renA s.ne) so) ∨
            (∃ sb0, h c = some sb0 ∧ (sb = sb0 ∨ sb = weakB sb0) ∧ ¬ (s.hp.length ≤ c ∧ c < s.hp.length + (sg.out.length - sg.heap.length)) ∧ (∀ b t, hpf sg.heap b = some t → t.rw = true → bm bl b ≠ .blk c) ∧
              (leaks sg = true → (∃ b t, hpf sg.heap b = some t ∧ bm bl b = .blk c) → sb.rw = false)) := by
          intro c sb hc
          rcases Nat.lt_or_ge c s.hp.length with hlt | hge
          · have hz : hpf (callHp s sg bl) c = backAt sg bl s.hp.length s.ne (hpf s.hp c) c := by
              unfold callHp; rw [hpf_app_lt (by simpa using hlt), hpf_zipIdx hlt]
            unfold upd at hc
            rw [hz] at hc
            rcases back_cases (sg := sg) (bl := bl) (base := s.hp.length) (d := s.ne) (o := hpf s.hp c) (c := c) with ⟨b, t, q1, q2, q3, q4⟩ | ⟨q1, q2⟩
            · obtain ⟨sy, z1, z2, _⟩ := Z.blk b t c q1 q3
              rw [q4] at hc
              have hc' : (if b < sg.npin then (hpf sg.out b).map (renB (outIds sg bl s.hp.length) (renA s.ne)) else none) = some sb := upd_val hc (z1.trans z2.symm)
              split at hc'
              · rename_i hbp
                rw [Option.map_eq_some_iff] at hc'
                obtain ⟨so, w1, w2⟩ := hc'
                exact .inl ⟨b, so, w1, hgpin b c hbp q3, w2.symm⟩
              · cases hc'
            · rcases q2 with ⟨l1, ⟨b, t, e1, e2⟩, l3⟩ | ⟨l1, l2⟩
              · obtain ⟨sy, z1, z2, _⟩ := Z.blk b t c e1 e2
                rw [l3, z2] at hc
                have hc' : sb = weakB sy := by
                  split at hc
                  · rename_i q
                    rw [z1] at hc
                    simp only [Option.map_some] at q
                    cases hc
                    injection q with q
                    exact q.symm
                  · simp only [Option.map_some, Option.some.injEq] at hc
                    exact hc.symm
                refine .inr ⟨sy, z1, .inr hc', by omega, q1, fun _ _ => ?_⟩
                rw [hc']
                cases hrw : (weakB sy).rw with
                | false => rfl
                | true =>
                  cases sy with
                  | cells cs =>
                    -- a row of cells that is lent: its shape in the signature would be one that is written
                    exfalso
                    rcases fitH_cases f5 e1 with ⟨b', sb', h1, h2, h3⟩ | ⟨ck, wd, x, rw, h1, _, _⟩
                    · rw [e2] at h1; cases h1
                      rw [z2] at h2; cases h2
                      cases t with
                      | cells ts => exact q1 b _ e1 rfl e2
                      | list ck wd x rw => simp [fitB] at h3
                    · rw [e2] at h1; cases h1
                  | list ck wd x rw => simp [weakB, SB.rw] at hrw
              · rw [l2] at hc
                simp only [if_true] at hc
                exact .inr ⟨sb, hc, .inl rfl, by omega, q1, fun hl ⟨b, t, e1, e2⟩ => absurd e2 (l1 hl b t e1)⟩
          · have hz : hpf (callHp s sg bl) c = (hpf sg.out (sg.heap.length + (c - s.hp.length))).map (renB g (renA s.ne)) := by
              unfold callHp; rw [hpf_app_ge (by simpa using hge), hpf_map, hpf_drop]
              simp
              rfl
            unfold upd at hc
            rw [hz, hpf_ge hge] at hc
            by_cases hin : c < s.hp.length + (sg.out.length - sg.heap.length)
            · have hf := S.fresh c hge (by show c < (callHp s sg bl).length; omega)
              cases ho : hpf sg.out (sg.heap.length + (c - s.hp.length)) with
              | none => rw [ho] at hc; simp [hf.2] at hc
              | some so =>
                rw [ho] at hc
                simp at hc
                refine .inl ⟨sg.heap.length + (c - s.hp.length), so, ho, ?_, hc.symm⟩
                rw [hgnew _ (by omega)]; omega
            · have ho : hpf sg.out (sg.heap.length + (c - s.hp.length)) = none := hpf_ge (by omega)
              rw [ho] at hc
              simp at hc
              refine .inr ⟨sb, hc, .inl rfl, by omega, fun b t q1 q2 q3 => ?_, fun _ ⟨b, t, q1, q3⟩ => ?_⟩
              · obtain ⟨sy, _, z2, _⟩ := Z.blk b t c q1 q3
                rw [hpf_ge hge] at z2; cases z2
              · obtain ⟨sy, _, z2, _⟩ := Z.blk b t c q1 q3
                rw [hpf_ge hge] at z2; cases z2
        have hgd : ∀ b so, hpf sg.out b = some so → goodId sg b = true := by
          intro b so e
          unfold goodId
          have := hpf_lt e
          rcases W.rest b so e with q | q
          · simp [q]
          · simp [q, this]
        -- a block of the caller that the call doesn't turn
        have hold : ∀ c sb0 rb, h c = some sb0 → ρ c = some rb → (∀ b t, hpf sg.heap b = some t → t.rw = true → bm bl b ≠ .blk c) → ∀ x ∈ rb.foot, x < w.heap.size ∧ ¬ touchOf sg (rhoOf ρ bl) x := by
          intro c sb0 rb e1 e2 e3 x hx
          obtain ⟨rb', r1, bc⟩ := S.hr.bc c sb0 e1
          rw [e2] at r1; cases r1
          refine ⟨bc.foot x hx, fun ht => ?_⟩
          obtain ⟨b, t, y, sy, ry, t1, t2, t3, t4, t5, t6, t7⟩ := Z.touch ht
          have hne : y ≠ c := fun q => e3 b t t1 t2 (by rw [← q]; exact t3)
          exact S.hr.dj y c sy sb0 ry rb t4 e1 hne t5 t6 e2 x t7 hx
        have hext : Ext ρ ρn := by
          intro c rb e
          show (if _ then _ else _) = _
          split
          · rename_i q
            rw [(S.fresh c q.1 (by show c < (callHp s sg bl).length; omega)).1] at e; cases e
          · exact e
        have hρnold : ∀ c, ¬ (s.hp.length ≤ c ∧ c < s.hp.length + (sg.out.length - sg.heap.length)) → ρn c = ρ c := by
          intro c q
          show (if _ then _ else _) = _
          rw [if_neg q]
        have hη : ∀ (j : Nat) (x : PV), rs[j]? = some x → η[s.ne + j]? = some x := i4
        refine ⟨ρn, renV_ok hη hgood W.res hv2, hext, fun c hc => ?_, ⟨fun c sb e => ?_, fun c c' sb sb' rb rb' e e' hne hrw r1 r2 x hx hx' => ?_⟩, ⟨?_, ?_, ?_, ?_, fun x hx hxt => ?_, fun c sb rb e r1 x hx => ?_⟩⟩
        · have : s.hp.length ≤ c ∧ c < s.hp.length + (sg.out.length - sg.heap.length) := by
            by_cases q : s.hp.length ≤ c ∧ c < s.hp.length + (sg.out.length - sg.heap.length)
            · exact q
            · exact absurd (hρnold c q) hc
          refine ⟨this.1, ?_⟩
          show c < (callHp s sg bl).length
          rw [hlenr]; exact this.2
        · rcases hnew c sb e with ⟨b, so, q1, q2, q3⟩ | ⟨sb0, q1, q2, q3, q4, q5⟩
          · obtain ⟨rb, r1, bc⟩ := H2.bc b so q1
            subst q2; subst q3
            exact ⟨rb, hgood b rb (hgd b so q1) r1, renB_ok hη hgood (W.outs b so q1) bc⟩
          · obtain ⟨rb, r1, bc⟩ := S.hr.bc c sb0 q1
            refine ⟨rb, hext _ _ r1, ?_⟩
            have bc' : BC η ρn w' rb sb0 := bc.up (Pre.refl _) hext F2.size (fun x hx => F2.keep x (hold c sb0 rb q1 r1 q4 x hx).1 (hold c sb0 rb q1 r1 q4 x hx).2)
            rcases q2 with rfl | rfl
            · exact bc'
            · exact bc'.weakB
        · rcases hnew c sb e with ⟨b, so, q1, q2, q3⟩ | ⟨sb0, q1, q2, q3, q4, q5⟩
          · obtain ⟨rb1, z1, _⟩ := H2.bc b so q1
            have z2 := hgood b rb1 (hgd b so q1) z1
            rw [q2, r1] at z2; cases z2
            have hso : so.rw = true := by rw [q3, renB_rw] at hrw; exact hrw
            rcases hnew c' sb' e' with ⟨b', so', q1', q2', q3'⟩ | ⟨sb0', q1', q2', q3', q4', q5'⟩
            · obtain ⟨rb1', z1', _⟩ := H2.bc b' so' q1'
              have z2' := hgood b' rb1' (hgd b' so' q1') z1'
              rw [q2', r2] at z2'; cases z2'
              exact H2.dj b b' so so' _ _ q1 q1' (fun q => hne (by rw [← q2, ← q2', q])) hso z1 z1' x hx hx'
            · rw [hρnold c' q3'] at r2
              obtain ⟨p1, p2⟩ := hold c' sb0' rb' q1' r2 q4' x hx'
              rcases F2.foot b so _ q1 z1 x hx with k | k | ⟨k, _⟩
              · exact absurd k (Nat.not_le.2 p1)
              · exact p2 k
              · rw [hso] at k; cases k
          · rw [hρnold c q3] at r1
            obtain ⟨p1, p2⟩ := hold c sb0 rb q1 r1 q4 x hx
            have hsb0 : sb0.rw = true := by
              rcases q2 with rfl | rfl
              · exact hrw
              · exact weakB_rw hrw
            rcases hnew c' sb' e' with ⟨b', so', q1', q2', q3'⟩ | ⟨sb0', q1', q2', q3', q4', q5'⟩
            · obtain ⟨rb1', z1', _⟩ := H2.bc b' so' q1'
              have z2' := hgood b' rb1' (hgd b' so' q1') z1'
              rw [q2', r2] at z2'; cases z2'
              rcases F2.foot b' so' _ q1' z1' x hx' with k | k | ⟨k1, k2⟩
              · exact absurd k (Nat.not_le.2 p1)
              · exact p2 k
              · obtain ⟨b1, t1, y, sy, ry, y1, y2, y3, y4, y5⟩ := Z.alias k2
                by_cases hyc : y = c
                · subst hyc
                  have hleak : leaks sg = true := by
                    unfold leaks
                    rw [List.any_eq_true]
                    refine ⟨some so', ?_, by simp [k1]⟩
                    have hl := hpf_lt q1'
                    unfold hpf at q1'
                    rw [List.getElem?_eq_getElem hl] at q1'
                    simp only [Option.join_some] at q1'
                    rw [← q1']
                    exact List.getElem_mem hl
                  rw [q5 hleak ⟨b1, t1, y1, y2⟩] at hrw
                  cases hrw
                · exact S.hr.dj c y sb0 sy rb ry q1 y3 (Ne.symm hyc) hsb0 r1 y4 x hx y5
            · rw [hρnold c' q3'] at r2
              exact S.hr.dj c c' sb0 sb0' rb rb' q1 q1' hne hsb0 r1 r2 x hx hx'
        · exact F2.os.trans S.fr.os
        · exact F2.tape.trans S.fr.tape
        · exact F2.out.trans S.fr.out
        · exact Nat.le_trans S.fr.size F2.size
        · refine (F2.keep x (Nat.lt_of_lt_of_le hx S.fr.size) fun ht => ?_).trans (S.fr.keep x hx hxt)
          obtain ⟨b, t, y, sy, ry, t1, t2, t3, t4, t5, t6, t7⟩ := Z.touch ht
          rcases S.fr.foot y sy ry t4 t6 x t7 with k | k | ⟨k, _⟩
          · omega
          · exact hxt k
          · rw [t5] at k; cases k
        · rcases hnew c sb e with ⟨b, so, q1, q2, q3⟩ | ⟨sb0, q1, q2, q3, q4, q5⟩
          · obtain ⟨rb1, z1, _⟩ := H2.bc b so q1
            have z2 := hgood b rb1 (hgd b so q1) z1
            rw [q2, r1] at z2; cases z2
            rcases F2.foot b so _ q1 z1 x hx with k | k | ⟨k1, k2⟩
            · exact .inl (Nat.le_trans S.fr.size k)
            · obtain ⟨b, t, y, sy, ry, t1, t2, t3, t4, t5, t6, t7⟩ := Z.touch k
              rcases S.fr.foot y sy ry t4 t6 x t7 with k | k | ⟨k, _⟩
              · exact .inl k
              · exact .inr (.inl k)
              · rw [t5] at k; cases k
            · obtain ⟨b1, t1, y, sy, ry, y1, y2, y3, y4, y5⟩ := Z.alias k2
              rcases S.fr.foot y sy ry y3 y4 x y5 with k | k | ⟨_, k⟩
              · exact .inl k
              · exact .inr (.inl k)
              · exact .inr (.inr ⟨by rw [q3, renB_rw]; exact k1, k⟩)
          · rw [hρnold c q3] at r1
            rcases S.fr.foot c sb0 rb q1 r1 x hx with k | k | ⟨k1, k2⟩
            · exact .inl k
            · exact .inr (.inl k)
            · refine .inr (.inr ⟨?_, k2⟩)
              rcases q2 with rfl | rfl
              · exact k1
              · cases hh : (weakB sb0).rw with
                | false => rfl
                | true => rw [weakB_rw hh] at k1; cases k1

end
end Gm

/- Calls, with what goes ahead of them; the contents of slices. -/
namespace Gm
open Go

/-- the entries that a table stands for -/
def Ents (P : Program) (gl : Nat → Option (CK × List Int)) (es : List Ent) (tb : List PF) : Prop := ∀ (j : Nat) (e : Ent), es[j]? = some e → ∃ F, tb[j]? = some F ∧ Contract P gl e.f e.sg F

section
variable {P : Program} {o : Oper} {a : Act} {w : World} {C : Ctx} {η : List PV} {ρ : Rho} {h : Hp} {s : SSt} {r : Res} {tb : List PF}

theorem callTry_ok {args : List SV} {f : FuncId} {npin : Nat} : ∀ {es : List Ent} {i : Nat} {m : String}, callTry s args f npin i es m = .ok r → ∃ (j : Nat) (e : Ent), es[j]? = some e ∧ e.f = f ∧ callEnt s args e.sg (i + j) npin = .ok r
  | [], i, m, h => by simp only [callTry] at h; cases h
  | e :: l, i, m, h => by
    simp only [callTry] at h
    split at h
    · rename_i hf
      split at h
      · rename_i r' hr
        cases h
        exact ⟨0, e, rfl, hf, hr⟩
      · obtain ⟨j, e', h1, h2, h3⟩ := callTry_ok h
        exact ⟨j + 1, e', by simpa using h1, h2, by rw [show i + (j + 1) = i + 1 + j by omega]; exact h3⟩
    · obtain ⟨j, e', h1, h2, h3⟩ := callTry_ok h
      exact ⟨j + 1, e', by simpa using h1, h2, by rw [show i + (j + 1) = i + 1 + j by omega]; exact h3⟩

theorem callEnt_len {args : List SV} {sg : Sig} {i npin : Nat} (hs : callEnt s args sg i npin = .ok r) : s.hp.length ≤ r.hp.length ∧ ∀ b ∈ r.rd, b < s.hp.length := by
  unfold callEnt at hs
  replace hs := ebind hs
  obtain ⟨⟨bl, as⟩, e1, hs⟩ := hs
  simp only at hs
  split at hs
  · cases hs
  · split at hs
    · cases hs
    · split at hs
      · cases hs
      · cases hs
        refine ⟨by simp [callHp], fun b hb => ?_⟩
        simp only [blksOf, List.mem_filterMap] at hb
        obtain ⟨x, _, hx⟩ := hb
        split at hx
        · split at hx
          · cases hx; assumption
          · cases hx
        · cases hx

/-- empty lists that operands bring -/
theorem Vw.nils {bs : List (Option SB)} {rd : List Nat} (H : HR η ρ h w) (F : FR C ρ h w) (hn : Nils bs) (hf : ∀ b, s.hp.length ≤ b → b < s.hp.length + bs.length → ρ b = none ∧ h b = none) :
    Vw C η ρ h s { s with hp := s.hp ++ bs } [] rd w (nilsR ρ s.hp.length bs) :=
  ⟨Mid.nils H F hn s.hp hf, by simp, by simp [insN], rfl, fun b q1 q2 => by rw [hpf_app_lt q1] at q2; exact absurd rfl q2⟩

theorem callF_ok {es : List Ent} {npin : Nat} {bs : List (Option SB)} {f : FuncId} {args : List SV} {vals : Array Value} (hs : sCallF es npin s { s with hp := s.hp ++ bs } f args = .ok r) {gl : Nat → Option (CK × List Int)} (hE : Ents P gl es tb) (G : GL gl C)
    (S : St C η ρ h s r w) (hn : Nils bs) (hv : VVs η (nilsR ρ s.hp.length bs) args vals.toList) (I : InsOK tb η s.ne r.ins) : CallTo P f vals w (Post C η ρ h s r) := by
  unfold sCallF at hs
  replace hs := ebind hs
  obtain ⟨⟨args', s2, is, rd⟩, e1, hs⟩ := hs
  simp only at hs
  replace hs := ebind hs
  obtain ⟨r0, e2, hs⟩ := hs
  cases hs
  obtain ⟨j, en, j1, j2, j3⟩ := callTry_ok e2
  rw [Nat.zero_add] at j3
  obtain ⟨F, hF, K⟩ := hE j en j1
  rw [j2] at K
  obtain ⟨len2, rd2⟩ := callEnt_len j3
  have len1 := viewVs_len e1
  have len0 : s.hp.length ≤ s2.hp.length := Nat.le_trans (by simp) len1
  have hfr : ∀ b, s.hp.length ≤ b → b < s.hp.length + bs.length → ρ b = none ∧ h b = none := fun b q1 q2 => S.fresh b q1 (by
    show b < r0.hp.length
    simp at len1; omega)
  have R : Rdy C η ρ h s s2 ([] ++ rd) w := ⟨S.hr, S.fr, fun b hb q => S.ag b (by simp at hb ⊢; exact .inl ⟨hb, q⟩), fun b q1 q2 => S.fresh b q1 (by show b < r0.hp.length; omega)⟩
  have V0 : Vw C η ρ h s { s with hp := s.hp ++ bs } [] [] w _ := Vw.nils S.hr S.fr hn hfr
  obtain ⟨I1, I2⟩ := InsOK.app I
  obtain ⟨ρ1, V1, w1⟩ := viewVs_ok e1 (R.right len1 V0) hv I1
  have V := Vw.trans R V0 V1
  rw [← show s2.ne = s.ne + insN is from V1.ne] at I2
  have S2 := S.next (r0 := r0) V.mid len0 len2 rfl (fun b hb => by
    rcases Nat.lt_or_ge b s.hp.length with q | q
    · exact .inl ⟨q, by simp; exact .inr ⟨hb, q⟩⟩
    · exact .inr ⟨q, rd2 b hb⟩)
  refine CallTo.mono (callEnt_ok j3 hF K G S2 w1 I2) fun v w' Q => ?_
  exact Post.first S V.mid len0 len2 rfl rfl (fun b q1 q2 => by simp; exact .inl ⟨by simpa using V.rd b q1 q2, q1⟩) Q

/-! ### the contents of slices -/
theorem cells_read {ck : CK} {wd : Nat} {ad : Option (Nat × Nat)} {M : List Int} {m c : Nat} {w' : World}
    (hc : ∀ (i : Nat) (z : Int), M[i]? = some z → ∃ blk off arr t fr, ad = some (blk, off) ∧ w.heap[blk]? = some (.cells arr t fr) ∧ arr[off + i]? = some (ck.val z)) (hw : w'.heap = w.heap)
    {k : Nat} (hk : k * wd ≤ M.length) (hnone : ad = none → k = 0) : (Builtin.firstCells wd k (.slice (ad.map adr) m c)).run P w' = .ok ((M.take (k * wd)).map ck.val).toArray w' := by
  cases ad with
  | none =>
    have := hnone rfl
    subst this
    simp [Builtin.firstCells]
  | some p =>
    refine run_firstCells_some (P := P) w' wd k (adr p) m c _ (by simp; omega) fun i v hi => ?_
    rw [List.getElem?_map, Option.map_eq_some_iff] at hi
    obtain ⟨z, hz, rfl⟩ := hi
    rw [List.getElem?_take] at hz
    split at hz
    · obtain ⟨blk, off, arr, t, fr, h1, h2, h3⟩ := hc i z hz
      cases h1
      rw [adr_add]
      simp [World.cell?, adr, hw, h2, h3]
    · cases hz

/-- what a slice holds -/
structure Holds (P : Program) (w : World) (ck : CK) (wd : Nat) (M : List Int) (m : Nat) (v : Value) : Prop where
  len : M.length = m * wd
  read : ∀ w' : World, w'.heap = w.heap → ∀ k, k ≤ m → (Builtin.firstCells wd k v).run P w' = .ok ((M.take (k * wd)).map ck.val).toArray w'

theorem contentI_ok {v : SV} {ck : CK} {wd : Nat} {x : Atom} {is rest : List Ins} {rd : List Nat} {cv : Value} (e : contentI s v = .ok (ck, wd, x, is, rd)) (H : HR η ρ h w) (hag : ∀ b ∈ rd, h b = hpf s.hp b)
    (hv : VV η ρ v cv) (I : InsOK tb η s.ne (is ++ rest)) : ∃ M ay m cy, look η x = some (.ints M) ∧ cv = .slice ay m cy ∧ Holds P w ck wd M m cv ∧ InsOK tb η (s.ne + insN is) rest := by
  unfold contentI at e
  split at e
  · rename_i b
    replace e := ebind e
    obtain ⟨⟨ck', wd', x', rw_⟩, e1, e⟩ := e
    cases e
    have hc := listAt_ok e1
    obtain ⟨rb, hr, bc⟩ := H.bc b _ ((hag b (by simp)).trans hc)
    obtain ⟨rb', cap, hr', h1, h2, h3, h4⟩ := hv
    rw [hr] at hr'; cases hr'
    obtain ⟨L, q1, q2, q3⟩ := bc.len
    have wk := bc.weak
    obtain ⟨L2, z1, z2, z3, z4, z5⟩ := wk
    rw [q1] at z1; cases z1
    refine ⟨L, _, rb.n, cap, q1, h3, ⟨q2, fun w' hw k hk => ?_⟩, I⟩
    rw [h3]
    exact cells_read (w := w) (fun i z hz => by obtain ⟨blk, off, arr, t, fr, a1, _, a3, a4⟩ := z5 i z hz; exact ⟨blk, off, arr, t, fr, a1, a3, a4⟩) hw (by rw [q2]; exact Nat.mul_le_mul_right _ hk)
      (fun hn => by have := h4 hn; omega)
  · rename_i b lo n
    replace e := ebind e
    obtain ⟨⟨ck', wd', x', rw_⟩, e1, e⟩ := e
    cases e
    have hc := listAt_ok e1
    obtain ⟨rb, hr, bc⟩ := H.bc b _ ((hag b (by simp)).trans hc)
    obtain ⟨L, q1, q2, q3⟩ := bc.len
    obtain ⟨l, m, ad, cap, hl, hm, h0, h1, hle, hcap, hvx, hnon, hlen, hcell⟩ := part_view hr bc q1 hv
    obtain ⟨vs, q, i1, i2, i3, I⟩ := InsOK.one I
    obtain ⟨p1, p2, p3, l1, l2, l3, rfl⟩ := looks3 i1
    rw [q1] at l1; rw [hl] at l2; rw [hm] at l3
    cases l1; cases l2; cases l3
    simp only [step, ev, h0, h1, and_self, if_true] at i2
    cases i2
    refine ⟨_, _, m.toNat, cap, i3, hvx, ⟨hlen, fun w' hw k hk => ?_⟩, I⟩
    rw [hvx]
    exact cells_read (w := w) (fun i z hz => by obtain ⟨blk, off, arr, t, fr, a1, _, a3, a4⟩ := hcell i z hz; exact ⟨blk, off, arr, t, fr, a1, a3, a4⟩) hw (by rw [hlen]; exact Nat.mul_le_mul_right _ hk)
      (fun hn => by have := hnon hn; omega)
  · cases e

theorem contentI_rd {v : SV} {ck : CK} {wd : Nat} {x : Atom} {is : List Ins} {rd : List Nat} (e : contentI s v = .ok (ck, wd, x, is, rd)) : ∀ b ∈ rd, b < s.hp.length := by
  unfold contentI at e
  split at e
  · replace e := ebind e
    obtain ⟨⟨ck', wd', x', rw_⟩, e1, e⟩ := e
    cases e
    intro b hb; simp at hb; subst hb
    exact hpf_lt (listAt_ok e1)
  · replace e := ebind e
    obtain ⟨⟨ck', wd', x', rw_⟩, e1, e⟩ := e
    cases e
    intro b hb; simp at hb; subst hb
    exact hpf_lt (listAt_ok e1)
  · cases e

end
end Gm

/- The built-in functions. -/
namespace Gm
open Go

section
variable {P : Program} {o : Oper} {a : Act} {w : World} {C : Ctx} {η : List PV} {ρ : Rho} {h : Hp} {s : SSt} {r : Res} {tb : List PF}

/-- a block goes, another one comes in its place -/
theorem Mid.regive {hp : List (Option SB)} {b : Nat} {sb sb' : SB} {rb rb' : RB} {w' : World} (H : HR η ρ h w) (F : FR C ρ h w) (hb : hpf hp b = some sb) (hh : h b = hpf hp b) (hrw : sb.rw = true) (hr : ρ b = some rb)
    (hn : ρ hp.length = none) (hhn : h hp.length = none) (ho : w'.os = w.os) (ht : w'.tape = w.tape) (hout : w'.output = w.output) (hs : w.heap.size ≤ w'.heap.size)
    (hw : ∀ x, x ∉ rb.foot → x < w.heap.size → w'.heap[x]? = w.heap[x]?) (hbc : BC η (setR ρ hp.length rb') w' rb' sb') (hf : ∀ x ∈ rb'.foot, x ∈ rb.foot ∨ w.heap.size ≤ x) :
    Mid C η ρ h hp (hp.set b none ++ [some sb']) w' (setR ρ hp.length rb') := by
  have hlt := hpf_lt hb
  have hb0 : h b = some sb := hh.trans hb
  have hx := setR_ext (rb := rb') hn
  have e : upd h hp (hp.set b none ++ [some sb']) = setH (setH h hp.length (some sb')) b none := by
    rw [upd_set_app hlt hh (fun c h1 h2 => by simp at h2; have : c = hp.length := by omega
                                              subst this; exact hhn)]
    congr 1
    funext c
    unfold addN setH
    by_cases q : c = hp.length
    · subst q; simp [hpf]
    · have : ¬ (hp.length ≤ c ∧ c < hp.length + 1) := by omega
      simp [q, this]
  have get : ∀ c sc, setH (setH h hp.length (some sb')) b none c = some sc → (c = hp.length ∧ sc = sb') ∨ (c ≠ hp.length ∧ c ≠ b ∧ h c = some sc) := by
    intro c sc q
    unfold setH at q
    split at q
    · cases q
    · rename_i q1
      split at q
      · rename_i q2; cases q; exact .inl ⟨q2, rfl⟩
      · rename_i q2; exact .inr ⟨q2, q1, q⟩
  have old : ∀ c sc, c ≠ hp.length → h c = some sc → ∃ rc, ρ c = some rc ∧ setR ρ hp.length rb' c = some rc ∧ BC η ρ w rc sc := by
    intro c sc q1 q2
    obtain ⟨rc, h1, bc⟩ := H.bc c sc q2
    exact ⟨rc, h1, hx _ _ h1, bc⟩
  have meet : ∀ c sc rc, c ≠ b → h c = some sc → ρ c = some rc → ∀ x ∈ rb'.foot, x ∉ rc.foot := by
    intro c sc rc q1 q2 q3 x h1 h2
    rcases hf x h1 with k | k
    · exact H.dj b c sb sc rb rc hb0 q2 (Ne.symm q1) hrw hr q3 x k h2
    · obtain ⟨rc', h3, bc⟩ := H.bc c sc q2
      rw [q3] at h3; cases h3
      have := bc.foot x h2
      omega
  refine ⟨hx, fun c hc => ?_, ?_, ?_⟩
  · unfold setR at hc
    split at hc
    · rename_i q; subst q; simp
    · exact absurd rfl hc
  · rw [e]
    refine ⟨fun c sc q => ?_, fun c c' sc sc' rc rc' q q' hne hw1 r1 r2 => ?_⟩
    · rcases get c sc q with ⟨rfl, rfl⟩ | ⟨q1, q2, q3⟩
      · exact ⟨rb', by simp [setR], hbc⟩
      · obtain ⟨rc, h1, h2, bc⟩ := old c sc q1 q3
        exact ⟨rc, h2, bc.up (Pre.refl _) hx hs (fun x hxm => hw x (fun k => H.dj b c sb sc rb rc hb0 q3 (Ne.symm q2) hrw hr h1 x k hxm) (bc.foot x hxm))⟩
    · rcases get c sc q with ⟨rfl, rfl⟩ | ⟨q1, q2, q3⟩
      · have : rc = rb' := by simp [setR] at r1; exact r1.symm
        subst this
        rcases get c' sc' q' with ⟨rfl, rfl⟩ | ⟨q1', q2', q3'⟩
        · exact absurd rfl hne
        · obtain ⟨rd, h1, h2, _⟩ := old c' sc' q1' q3'
          rw [h2] at r2; cases r2
          exact meet c' sc' rc' q2' q3' h1
      · obtain ⟨rd, h1, h2, _⟩ := old c sc q1 q3
        rw [h2] at r1; cases r1
        rcases get c' sc' q' with ⟨rfl, rfl⟩ | ⟨q1', q2', q3'⟩
        · have : rc' = rb' := by simp [setR] at r2; exact r2.symm
          subst this
          intro x hx1 hx2
          exact meet c sc rc q2 q3 h1 x hx2 hx1
        · obtain ⟨rd', h1', h2', _⟩ := old c' sc' q1' q3'
          rw [h2'] at r2; cases r2
          exact H.dj c c' sc sc' rc rc' q3 q3' hne hw1 h1 h1'
  · rw [e]
    have foot : ∀ x ∈ rb.foot, C.w0.heap.size ≤ x ∨ C.touch x := by
      intro x hxm
      rcases F.foot b sb rb hb0 hr x hxm with k | k | ⟨k, _⟩
      · exact .inl k
      · exact .inr k
      · rw [hrw] at k; cases k
    refine ⟨ho.trans F.os, ht.trans F.tape, hout.trans F.out, Nat.le_trans F.size hs, fun x h1 h2 => ?_, fun c sc rc q r1 x hxm => ?_⟩
    · refine (hw x (fun k => ?_) (Nat.lt_of_lt_of_le h1 F.size)).trans (F.keep x h1 h2)
      rcases foot x k with k | k
      · omega
      · exact h2 k
    · rcases get c sc q with ⟨rfl, rfl⟩ | ⟨q1, q2, q3⟩
      · have : rc = rb' := by simp [setR] at r1; exact r1.symm
        subst this
        rcases hf x hxm with k | k
        · rcases foot x k with k | k
          · exact .inl k
          · exact .inr (.inl k)
        · exact .inl (Nat.le_trans F.size k)
      · obtain ⟨rd, h1, h2, _⟩ := old c sc q1 q3
        rw [h2] at r1; cases r1
        exact F.foot c sc rc q3 h1 x hxm

theorem ckval_one {ck : CK} {z : Int} : (ck.val z).oneCell' = true := by cases ck <;> rfl

theorem run_append_full (t ty e : TypeId) (i : TypeInfo) (z : Value) (ht : P.underlying t = some (.slice e)) (hi : P.info? e = some i) (hz : i.zero = some z) (b : Option Addr) (n cap m : Nat) (ay : Option Addr) (cy : Nat)
    (olds news : Array Value) (hol : (Builtin.firstCells i.size n (.slice b n cap)).run P w.drew = .ok olds w.drew) (hne : (Builtin.firstCells i.size m (.slice ay m cy)).run P w.drew = .ok news w.drew)
    (hg : cap < n + m) (h63 : ((n + m : Nat) : Int) ≤ 9223372036854775807) (hfit : Builtin.nextslicecap (n + m) cap * i.bytes ≤ 281474976710656) :
    (Builtin.append_ #[t, t] ty #[.slice b n cap, .slice ay m cy]).run P w = .ok (.slice (some ⟨w.heap.size, 0, none⟩) (n + m) (grownCap w (n + m) cap e))
      (w.drew.alloc (.cells (olds ++ news ++ Builtin.zeroCells z.cells (grownCap w (n + m) cap e - (n + m))) e)) := by
  have hn : ¬ (n + m ≤ cap) := by omega
  have h63' : ¬ (9223372036854775807 < ((n : Int) + (m : Int))) := by omega
  have h48' : ¬ (281474976710656 < Builtin.nextslicecap (n + m) cap * i.bytes) := by omega
  simp [Builtin.append_, run_underlying ht, Go.sizeOf, typeInfo, zeroValue, hi, hz, Builtin.lenOf, hn, h63', h48', Question.forced, hne, hol, newRow, grownCap]

theorem run_append_in (t ty e : TypeId) (i : TypeInfo) (ht : P.underlying t = some (.slice e)) (hi : P.info? e = some i) (b : Option Addr) (n cap m : Nat) (ay : Option Addr) (cy : Nat)
    (news : Array Value) {w' : World} (hne : (Builtin.firstCells i.size m (.slice ay m cy)).run P w = .ok news w) (hst : (match b with | some x => storeCells (x.add (n * i.size)) news.toList | none => pure ()).run P w = .ok () w') (hg : n + m ≤ cap) :
    (Builtin.append_ #[t, t] ty #[.slice b n cap, .slice ay m cy]).run P w = .ok (.slice b (n + m) cap) w' := by
  cases b with
  | none => simp at hst; subst hst; simp [Builtin.append_, run_underlying ht, Go.sizeOf, typeInfo, hi, Builtin.lenOf, hg, hne]
  | some x => simp at hst; simp [Builtin.append_, run_underlying ht, Go.sizeOf, typeInfo, hi, Builtin.lenOf, hg, hne, hst]

theorem append_core {t ty : TypeId} {b m cy : Nat} {ck : CK} {wd : Nat} {x z : Atom} {u : Value} {ay : Option Addr} {M : List Int} (hl : listT P t = some (ck, wd)) (H : HR η ρ h w) (F : FR C ρ h w)
    (hc : hpf s.hp b = some (.list ck wd x true)) (hh : h b = hpf s.hp b) (hfr : ρ s.hp.length = none ∧ h s.hp.length = none) (hu : VC η ρ (.slc b) u) (HM : Holds P w ck wd M m (.slice ay m cy))
    (hz : ∀ L, look η x = some (.ints L) → look η z = some (.ints (L ++ M)) ∧ ((L ++ M).length ≤ room ∨ m = 0)) :
    ∃ cv w' rb', (Builtin.append_ #[t, t] ty #[u, .slice ay m cy]).run P w = .ok cv w' ∧ Mid C η ρ h s.hp (s.hp.set b none ++ [some (.list ck wd z true)]) w' (setR ρ s.hp.length rb') ∧
      VC η (setR ρ s.hp.length rb') (.slc s.hp.length) cv := by
  obtain ⟨e, ht, hfk⟩ := listT_ok hl
  obtain ⟨i, zv, hi, hzv, h1, h2, h3, h4, h5⟩ := flatK_ok hfk
  have hii := (inf_ok hi).1
  obtain ⟨rb, hr, bc⟩ := H.bc b _ (hh.trans hc)
  have hcon : contentI s (.c (.slc b)) = .ok (ck, wd, x, [], [b]) := by
    have : listAt s b = .ok (ck, wd, x, true) := by unfold listAt; rw [hc]
    simp only [contentI, this]
    rfl
  obtain ⟨L, ay0, n0, cy0, hL, hu0, HL, _⟩ := contentI_ok (P := P) (tb := []) (rest := []) hcon H (by intro c hc'; simp at hc'; subst hc'; exact hh) hu trivial
  obtain ⟨zL, zroom⟩ := hz L hL
  obtain ⟨rb', cap, hr', c1, c2, c3, c4⟩ := hu
  rw [hr] at hr'; cases hr'
  rw [hu0] at c3
  have hn0 : n0 = rb.n := by injection c3
  have hcy : cy0 = cap := by injection c3
  have hay : ay0 = rb.at_.map adr := by injection c3
  subst hn0; subst hcy
  obtain ⟨l, b1, b2, b3, b4, b5⟩ := bc
  rw [hL] at b1; cases b1
  have hsz : (L ++ M).length = (rb.n + m) * wd := by rw [List.length_append, HL.len, HM.len, Nat.add_mul]
  have hone : ∀ v ∈ M.map ck.val, v.oneCell' = true := by
    intro v hv
    rw [List.mem_map] at hv
    obtain ⟨q, _, rfl⟩ := hv
    exact ckval_one
  have hnews : ∀ w' : World, w'.heap = w.heap → (Builtin.firstCells wd m (.slice ay m cy)).run P w' = .ok (M.map ck.val).toArray w' := by
    intro w' hw
    have := HM.read w' hw m (Nat.le_refl _)
    rwa [← HM.len, List.take_length] at this
  have holds : ∀ w' : World, w'.heap = w.heap → (Builtin.firstCells wd rb.n u).run P w' = .ok (L.map ck.val).toArray w' := by
    intro w' hw
    have := HL.read w' hw rb.n (Nat.le_refl _)
    rwa [← HL.len, List.take_length] at this
  by_cases hfit : rb.n + m ≤ cy0
  · -- in place
    rcases b5 with ⟨d1, d2, d3⟩ | ⟨blk, arr, tt, d1, d2, d3, d4, d5⟩
    · have hrun := run_append_in (P := P) (w := w) (w' := w) t ty e i ht hii none rb.n cy0 m ay cy (M.map ck.val).toArray (by rw [h1]; exact hnews w rfl) (by simp) hfit
      refine ⟨_, w, ⟨none, rb.n + m, 0, wd, []⟩, by rw [hu0, hay, d1]; exact hrun, ?_, ⟨⟨none, rb.n + m, 0, wd, []⟩, cy0, by simp [setR], hfit, by show cy0 ≤ 0; omega, rfl, fun _ => rfl⟩⟩
      exact Mid.regive H F hc hh rfl hr hfr.1 hfr.2 rfl rfl rfl (Nat.le_refl _) (fun _ _ _ => rfl) ⟨_, zL, rfl, hsz, by show rb.n + m ≤ 0; omega, .inl ⟨rfl, rfl, rfl⟩⟩ (by simp)
    · have hle : rb.n * wd + 0 + (M.map ck.val).length ≤ arr.size := by
        have q1 : (rb.n + m) * wd ≤ rb.cap * wd := Nat.mul_le_mul_right _ (by omega)
        rw [Nat.add_mul] at q1
        rw [List.length_map, HM.len]
        omega
      obtain ⟨w', r1, r2, r3, r4, r5, r6, arr', r7, r8⟩ := run_stores P blk (rb.n * wd) tt (M.map ck.val) 0 arr w d3 hle hone
      have hrun := run_append_in (P := P) (w := w) (w' := w') t ty e i ht hii (some (adr (blk, 0))) rb.n cy0 m ay cy (M.map ck.val).toArray (by rw [h1]; exact hnews w rfl) (by
        simp only [h1, adr_add]
        simpa [adr] using r1) hfit
      have harr : arr'.size = arr.size := by
        have : arr'.toList.length = arr.toList.length := by
          rw [r8]
          simp only [List.length_append, List.length_take, List.length_drop, Array.length_toList]
          omega
        simpa using this
      refine ⟨_, w', ⟨some (blk, 0), rb.n + m, rb.cap, wd, [blk]⟩, by rw [hu0, hay, d1]; exact hrun, ?_, ⟨⟨some (blk, 0), rb.n + m, rb.cap, wd, [blk]⟩, cy0, by simp [setR], hfit, c2, rfl, by simp⟩⟩
      refine Mid.regive H F hc hh rfl hr hfr.1 hfr.2 r2 r3 r4 (by omega) (fun q hq _ => r6 q (fun hb => hq (by rw [d2]; simp [hb]))) ⟨_, zL, rfl, hsz, by show rb.n + m ≤ rb.cap; omega, .inr ⟨blk, arr', tt, rfl, rfl, r7, by show rb.cap * wd ≤ _; omega, ?_⟩⟩ (by
        intro q hq; simp at hq; subst hq; exact .inl (by rw [d2]; simp))
      intro j v hj
      rw [← Array.getElem?_toList, r8]
      rw [List.getElem?_append] at hj
      split at hj
      · rename_i hlt
        rw [HL.len] at hlt
        have hd := d5 j v hj
        rw [List.append_assoc, List.getElem?_append_left (by simp; omega), List.getElem?_take, if_pos (by omega), Array.getElem?_toList]
        exact hd
      · rename_i hlt
        rw [HL.len] at hlt hj
        have hjm : j - rb.n * wd < M.length := (List.getElem?_eq_some_iff.1 hj).1
        have hmin : (List.take (rb.n * wd + 0) arr.toList).length = rb.n * wd := by simp; omega
        rw [List.append_assoc, List.getElem?_append_right (by omega), hmin, List.getElem?_append_left (by simpa using hjm), List.getElem?_map, hj]
        rfl
  · -- a new row
    have hm0 : m ≠ 0 := by omega
    have hroom := zroom.resolve_right hm0
    rw [hsz] at hroom
    have hnm : rb.n + m ≤ 1099511627776 := by
      have : (rb.n + m) * 1 ≤ (rb.n + m) * wd := Nat.mul_le_mul_left _ h3
      unfold room at hroom; omega
    have hbytes : (rb.n + m) * i.bytes ≤ 140737488355328 := by
      have : (rb.n + m) * i.bytes ≤ 1099511627776 * 128 := Nat.mul_le_mul hnm h4
      omega
    have hrun := run_append_full (P := P) (w := w) t ty e i zv ht hii hzv (rb.at_.map adr) rb.n cy0 m ay cy (L.map ck.val).toArray (M.map ck.val).toArray (by rw [h1, ← hay, ← hu0]; exact holds w.drew rfl) (by rw [h1]; exact hnews w.drew rfl)
      (by omega) (by omega) (growslice_fits (by omega) hbytes)
    have hge := grownCap_ge w (rb.n + m) cy0 e
    refine ⟨_, _, ⟨some (w.heap.size, 0), rb.n + m, grownCap w (rb.n + m) cy0 e, wd, [w.heap.size]⟩, by rw [hu0, hay]; exact hrun, ?_, ⟨⟨some (w.heap.size, 0), rb.n + m, grownCap w (rb.n + m) cy0 e, wd, [w.heap.size]⟩, _, by simp [setR], hge, Nat.le_refl _, rfl, by simp⟩⟩
    refine Mid.regive H F hc hh rfl hr hfr.1 hfr.2 rfl rfl rfl (by simp) (fun q _ hq => heap_alloc_old w.drew _ q hq) ⟨_, zL, rfl, hsz, hge, .inr ⟨w.heap.size, _, e, rfl, rfl, heap_alloc_new w.drew _, ?_, ?_⟩⟩ (by
      intro q hq; simp at hq; subst hq; exact .inr (Nat.le_refl _))
    · simp only [Array.size_append, List.size_toArray, List.length_map, HL.len, HM.len, size_zeroCells, h2, ← Nat.add_mul]
      rw [show rb.n + m + (grownCap w (rb.n + m) cy0 e - (rb.n + m)) = grownCap w (rb.n + m) cy0 e by omega]
      exact Nat.le_refl _
    · intro j v hj
      have hjl : j < (L ++ M).length := (List.getElem?_eq_some_iff.1 hj).1
      have : ((L.map ck.val).toArray ++ (M.map ck.val).toArray) = ((L ++ M).map ck.val).toArray := by simp
      rw [this, Array.getElem?_append_left (by simpa using hjl)]
      simp only [List.getElem?_toArray, List.getElem?_map, hj]
      rfl

end
end Gm

/- The built-in functions, as steps. -/
namespace Gm
open Go

section
variable {P : Program} {o : Oper} {a : Act} {w : World} {C : Ctx} {η : List PV} {ρ : Rho} {h : Hp} {s : SSt} {r : Res} {tb : List PF}

theorem sAppend_ok {t ty : TypeId} {x y : SV} {npin : Nat} {u v : Value} (hs : sAppend P npin s t x y = .ok r) (S : St C η ρ h s r w) (hx : VV η ρ x u) (hy : VV η ρ y v) (I : InsOK tb η s.ne r.ins) :
    ∃ cv w', (Builtin.append_ #[t, t] ty #[u, v]).run P w = .ok cv w' ∧ Post C η ρ h s r cv w' := by
  unfold sAppend at hs
  split at hs
  · rename_i b
    replace hs := ebind hs
    obtain ⟨⟨ck, wd, x', rw_⟩, e1, hs⟩ := hs
    have hc := listAt_ok e1
    simp only at hs
    split at hs
    · cases hs
    · rename_i hcond
      simp only [Bool.not_eq_true', Bool.not_eq_false, Bool.and_eq_true, beq_iff_eq, decide_eq_true_eq] at hcond
      obtain ⟨⟨hrw, _⟩, hl⟩ := hcond
      subst hrw
      split at hs
      · cases hs
        have hv : v = .slice none 0 0 := hy
        subst hv
        have hfr := S.fresh s.hp.length (Nat.le_refl _) (by simp)
        obtain ⟨cv, w', rb', q1, q2, q3⟩ := append_core (P := P) (ty := ty) (z := x') (M := []) (m := 0) (cy := 0) (ay := none) hl S.hr S.fr hc (S.ag b (by simp)) hfr hx
          ⟨by simp, fun w' _ k hk => by have : k = 0 := by omega
                                        subst this; simp [Builtin.firstCells]⟩ (fun L hL => ⟨by simpa using hL, .inr rfl⟩)
        exact ⟨cv, w', q1, Post.iff.2 ⟨_, q3, q2⟩⟩
      · rename_i y' _
        replace hs := ebind hs
        obtain ⟨⟨ck', wd', c, is, rd⟩, e2, hs⟩ := hs
        simp only at hs
        split at hs
        · cases hs
        · rename_i hkk
          simp only [not_or, ne_eq, Decidable.not_not] at hkk
          obtain ⟨rfl, rfl⟩ := hkk
          cases hs
          obtain ⟨M, ay, m, cy, hM, hv, HM, I⟩ := contentI_ok (P := P) e2 S.hr (fun b hb => S.ag b (by simp [hb])) hy I
          subst hv
          have hfr := S.fresh s.hp.length (Nat.le_refl _) (by simp)
          obtain ⟨vs, q, i1, i2, i3, _⟩ := InsOK.one I
          obtain ⟨p1, p2, l1, l2, rfl⟩ := looks2 i1
          rw [hM] at l2; cases l2
          obtain ⟨cv, w', rb', q1, q2, q3⟩ := append_core (P := P) (ty := ty) (z := .v (s.ne + insN is)) hl S.hr S.fr hc (S.ag b (by simp)) hfr hx HM (fun L hL => by
            rw [hL] at l1; cases l1
            simp only [step, ev] at i2
            split at i2
            · rename_i hroom; cases i2; exact ⟨i3, .inl hroom⟩
            · cases i2)
          exact ⟨cv, w', q1, Post.iff.2 ⟨_, q3, q2⟩⟩
  · cases hs

theorem sAppend_len {t : TypeId} {x y : SV} {npin : Nat} (hs : sAppend P npin s t x y = .ok r) : s.hp.length ≤ r.hp.length ∧ ∀ b ∈ r.rd, b < s.hp.length := by
  unfold sAppend at hs
  split at hs
  · rename_i b
    replace hs := ebind hs
    obtain ⟨⟨ck, wd, x', rw_⟩, e1, hs⟩ := hs
    have hc := listAt_ok e1
    simp only at hs
    split at hs
    · cases hs
    · split at hs
      · cases hs
        exact ⟨by simp, fun b hb => by simp at hb; subst hb; exact hpf_lt hc⟩
      · rename_i y' _
        replace hs := ebind hs
        obtain ⟨⟨ck', wd', c, is, rd⟩, e2, hs⟩ := hs
        simp only at hs
        split at hs
        · cases hs
        · cases hs
          refine ⟨by simp, fun b hb => ?_⟩
          simp at hb
          rcases hb with rfl | hb
          · exact hpf_lt hc
          · exact contentI_rd e2 b hb
  · cases hs

theorem sLen_ok {t ty : TypeId} {ats : Array TypeId} (hat : ats[0]? = some t) {x : SV} {u : Value} (hs : sLen P s t x = .ok r) (S : St C η ρ h s r w) (hx : VV η ρ x u) (I : InsOK tb η s.ne r.ins) :
    ∃ cv w', (Builtin.len_ ats ty #[u]).run P w = .ok cv w' ∧ Post C η ρ h s r cv w' := by
  unfold sLen at hs
  split at hs
  · rename_i b e hu
    replace hs := ebind hs
    obtain ⟨⟨ck, wd, x', rw_⟩, e1, hs⟩ := hs
    have hc := listAt_ok e1
    simp only at hs
    split at hs
    · cases hs
    · rename_i hw0
      cases hs
      obtain ⟨rb, cap, hr, h1, h2, h3, h4⟩ := hx
      obtain ⟨rb', hr', bc⟩ := S.hr.bc b _ ((S.ag b (by simp)).trans hc)
      rw [hr] at hr'; cases hr'
      obtain ⟨L, q1, q2, q3⟩ := bc.len
      obtain ⟨vs, q, i1, i2, i3, _⟩ := InsOK.one I
      obtain ⟨p1, l1, rfl⟩ := looks1 i1
      rw [q1] at l1; cases l1
      simp only [step, ev] at i2
      cases i2
      have hdiv : L.length / wd = rb.n := by rw [q2]; exact Nat.mul_div_cancel _ (by omega)
      rw [hdiv] at i3
      exact ⟨.int .i64 rb.n, w, by simp [Builtin.len_, hat, under_ok hu, h3, goInt], Post.plain S rfl ⟨_, i3, rfl⟩ (Later.refl _)⟩
  · rename_i b lo n e hu
    cases hs
    obtain ⟨rb, l, m, ad, cap, hr, hl, hm, h0, h1, hin, hcap, hvx, _, _⟩ := hx
    exact ⟨.int .i64 m.toNat, w, by simp [Builtin.len_, hat, under_ok hu, hvx, goInt], Post.plain S rfl ⟨m, hm, by rw [Int.toNat_of_nonneg h1]⟩ (Later.refl _)⟩
  · rename_i b n wd e hu
    cases hs
    obtain ⟨rb, blk, cap, hr, h1, h2, h3⟩ := hx
    exact ⟨.int .i64 n, w, by simp [Builtin.len_, hat, under_ok hu, h3, goInt], Post.plain S rfl ⟨_, rfl, rfl⟩ (Later.refl _)⟩
  · rename_i e hu
    cases hs
    have h3 : u = .slice none 0 0 := hx
    exact ⟨.int .i64 0, w, by simp [Builtin.len_, hat, under_ok hu, h3, goInt], Post.plain S rfl ⟨_, rfl, rfl⟩ (Later.refl _)⟩
  · rename_i n e hu
    cases hs
    exact ⟨.int .i64 n, w, by simp [Builtin.len_, hat, under_ok hu, goInt], Post.plain S rfl ⟨_, rfl, rfl⟩ (Later.refl _)⟩
  · cases hs

theorem minmax_ok {mx : Bool} : ∀ {l : List SV} {v : SV} {ne : Nat} {is0 : List Ins} {u : Value} {us : List Value} {r : Res}, minmax s (if mx then .mx else .mn) l v ne is0 = .ok r → VV η ρ v u → VVs η ρ l us →
    ∃ is, r.ins = is0 ++ is ∧ r.hp = s.hp ∧ r.rd = [] ∧ (InsOK tb η ne is → ∃ cv, (us.foldlM (if mx then Builtin.max2 else Builtin.min2) u).run P w = .ok cv w ∧ VV η ρ r.val cv)
  | [], v, ne, is0, u, us, r, hs, hv, hl => by
    simp only [minmax] at hs
    cases hs
    cases us with
    | nil => exact ⟨[], by simp, rfl, rfl, fun _ => ⟨u, by simp, hv⟩⟩
    | cons _ _ => exact hl.elim
  | x :: l, v, ne, is0, u, [], r, hs, hv, hl => hl.elim
  | x :: l, v, ne, is0, u, y :: us, r, hs, hv, hl => by
    unfold minmax at hs
    split at hs
    · rename_i heq; cases heq
    · rename_i k b l' k' a' heq
      cases heq
      split at hs
      · cases hs
      · rename_i hk
        simp only [ne_eq, Decidable.not_not] at hk
        subst hk
        generalize hq : prim1 _ (if mx = true then Prim.mx else Prim.mn) [a', b] = z at hs
        obtain ⟨zz, js⟩ := z
        simp only at hs
        obtain ⟨n1, hn1, rfl⟩ := hv
        obtain ⟨⟨n2, hn2, rfl⟩, hl⟩ := hl
        by_cases hok : ∃ vs q, looks η [a', b] = some vs ∧ ev (if mx then Prim.mx else Prim.mn) vs = some [q] ∧ look η zz = some q
        · obtain ⟨vs, q, i1, i2, i3⟩ := hok
          obtain ⟨p1, p2, l1, l2, rfl⟩ := looks2 i1
          rw [hn1] at l1; rw [hn2] at l2; cases l1; cases l2
          have hval : ∃ n3, q = .int n3 ∧ ((if mx then Builtin.max2 else Builtin.min2) (.int k n1) (.int k n2)).run P w = .ok (.int k n3) w := by
            cases mx with
            | true => simp only [if_true, ev] at i2 ⊢; cases i2; exact ⟨_, rfl, rfl⟩
            | false => simp only [Bool.false_eq_true, if_false, ev] at i2 ⊢; cases i2; exact ⟨_, rfl, rfl⟩
          obtain ⟨n3, rfl, hrun⟩ := hval
          obtain ⟨is, e1, e2, e3, e4⟩ := minmax_ok (mx := mx) hs (show VV η ρ (.c (.int k zz)) (.int k n3) from ⟨n3, i3, rfl⟩) hl
          refine ⟨js ++ is, by rw [e1]; simp, e2, e3, fun I => ?_⟩
          obtain ⟨_, I2⟩ := InsOK.app I
          obtain ⟨cv, c1, c2⟩ := e4 I2
          exact ⟨cv, by rw [List.foldlM_cons, Sem.run_bind, hrun]; exact c1, c2⟩
        · -- the steps can't have run
          have hm := minmax_shape hs
          obtain ⟨is, e1, e2, e3⟩ := hm
          refine ⟨js ++ is, by rw [e1]; simp, e2, e3, fun I => ?_⟩
          exfalso
          obtain ⟨vs, q, i1, i2, i3, _⟩ := prim1_ok (by cases mx <;> rfl) hq I
          exact hok ⟨vs, q, i1, i2, i3⟩
    · cases hs
  where
  minmax_shape {mx : Bool} : ∀ {l : List SV} {v : SV} {ne : Nat} {is0 : List Ins} {r : Res}, minmax s (if mx then .mx else .mn) l v ne is0 = .ok r → ∃ is, r.ins = is0 ++ is ∧ r.hp = s.hp ∧ r.rd = []
    | [], v, ne, is0, r, hs => by simp only [minmax] at hs; cases hs; exact ⟨[], by simp, rfl, rfl⟩
    | x :: l, v, ne, is0, r, hs => by
      unfold minmax at hs
      split at hs
      · rename_i heq; cases heq
      · rename_i k b l' k' a' heq
        cases heq
        split at hs
        · cases hs
        · generalize hq : prim1 _ (if mx = true then Prim.mx else Prim.mn) [a', b] = z at hs
          obtain ⟨zz, js⟩ := z
          simp only at hs
          obtain ⟨is, e1, e2, e3⟩ := minmax_shape hs
          exact ⟨js ++ is, by rw [e1]; simp, e2, e3⟩
      · cases hs

end
end Gm

/- The built-in functions that turn a list in its place. -/
namespace Gm
open Go

section
variable {P : Program} {o : Oper} {a : Act} {w : World} {C : Ctx} {η : List PV} {ρ : Rho} {h : Hp} {s : SSt} {r : Res} {tb : List PF}

theorem Post.turn {cv : Value} {w' : World} {b : Nat} {sb sb' : SB} {rb : RB} (S : St C η ρ h s r w) (hb : hpf s.hp b = some sb) (hh : h b = hpf s.hp b) (hrw : sb.rw = true) (hr : ρ b = some rb) (e : r.hp = s.hp.set b (some sb'))
    (ho : w'.os = w.os) (ht : w'.tape = w.tape) (hout : w'.output = w.output) (hs : w.heap.size ≤ w'.heap.size) (hw : ∀ x, x ∉ rb.foot → w'.heap[x]? = w.heap[x]?) (hbc : BC η ρ w' rb sb') (hv : VV η ρ r.val cv) :
    Post C η ρ h s r cv w' := by
  refine ⟨ρ, hv, Ext.refl _, fun c hc => absurd rfl hc, ?_, ?_⟩
  · rw [e, upd_set (hpf_lt hb) hh]
    exact S.hr.turn (hh.trans hb) hr hrw hs (fun x hx _ => hw x hx) hbc
  · rw [e, upd_set (hpf_lt hb) hh]
    exact S.fr.turn (hh.trans hb) hr hrw ho ht hout hs (fun x hx _ => hw x hx)

theorem splice_get {L Z : List Int} {p q : Nat} (hp : p + Z.length ≤ L.length) : (splice L p Z)[q]? = if p ≤ q ∧ q < p + Z.length then Z[q - p]? else L[q]? := by
  unfold splice
  rw [List.append_assoc, List.getElem?_append]
  have h1 : (List.take p L).length = p := by simp; omega
  rw [h1]
  split
  · rename_i h2
    rw [if_neg (by omega), List.getElem?_take, if_pos h2]
  · rename_i h2
    rw [List.getElem?_append]
    split
    · rename_i h3; rw [if_pos (by omega)]
    · rename_i h3
      rw [if_neg (by omega), List.getElem?_drop]
      congr 1; omega

theorem splice_len {L Z : List Int} {p : Nat} (hp : p + Z.length ≤ L.length) : (splice L p Z).length = L.length := by
  unfold splice; simp; omega

/-- numbers laid over a list, in memory -/
theorem splice_store {rb : RB} {ck : CK} {wd : Nat} {x : Atom} {L Z : List Int} {p : Nat} {ad : Option Addr} (bc : BC η ρ w rb (.list ck wd x true)) (hL : look η x = some (.ints L)) (hp : p + Z.length ≤ L.length)
    (had : Z ≠ [] → ∃ blk, rb.at_ = some (blk, 0) ∧ ad = some ⟨blk, p, none⟩) :
    ∃ w', (match ad with | some x => storeCells x (Z.map ck.val) | none => pure ()).run P w = .ok () w' ∧ w'.os = w.os ∧ w'.tape = w.tape ∧ w'.output = w.output ∧ w'.heap.size = w.heap.size ∧ (∀ q, q ∉ rb.foot → w'.heap[q]? = w.heap[q]?) ∧
      ∀ z, look η z = some (.ints (splice L p Z)) → BC η ρ w' rb (.list ck wd z true) := by
  obtain ⟨l, b1, b2, b3, b4, b5⟩ := bc
  rw [hL] at b1; cases b1
  by_cases hZ : Z = []
  · subst hZ
    refine ⟨w, ?_, rfl, rfl, rfl, rfl, fun _ _ => rfl, fun z hz => ⟨L, ?_, b2, b3, b4, b5⟩⟩
    · cases ad <;> rfl
    · rw [hz]; simp [splice]
  · obtain ⟨blk, h1, h2⟩ := had hZ
    rcases b5 with ⟨d1, d2, d3⟩ | ⟨blk', arr, tt, d1, d2, d3, d4, d5⟩
    · rw [h1] at d1; cases d1
    · rw [h1] at d1; cases d1
      have hle : rb.n * wd ≤ rb.cap * wd := Nat.mul_le_mul_right _ b4
      obtain ⟨w', r1, r2, r3, r4, r5, r6, arr', r7, r8⟩ := run_stores P blk p tt (Z.map ck.val) 0 arr w d3 (by simp; omega) (by
        intro v hv
        rw [List.mem_map] at hv
        obtain ⟨q, _, rfl⟩ := hv
        exact ckval_one)
      refine ⟨w', by rw [h2]; exact r1, r2, r3, r4, r5, fun q hq => r6 q (fun hb => hq (by rw [d2]; simp [hb])), fun z hz => ⟨_, hz, b2, by rw [splice_len hp]; exact b3, b4, .inr ⟨blk, arr', tt, h1, d2, r7, ?_, ?_⟩⟩⟩
      · have : arr'.size = arr.size := by
          have : arr'.toList.length = arr.toList.length := by
            rw [r8]; simp; omega
          simpa using this
        omega
      · intro j v hj
        rw [splice_get hp] at hj
        rw [← Array.getElem?_toList, r8, List.append_assoc, List.getElem?_append]
        have hl : (List.take (p + 0) arr.toList).length = p := by simp; omega
        rw [hl]
        split at hj
        · rename_i hq
          rw [if_neg (by omega), List.getElem?_append_left (by simp; omega), List.getElem?_map, hj]; rfl
        · rename_i hq
          have hd := d5 j v hj
          split
          · rename_i h3
            rw [List.getElem?_take, if_pos (by omega), Array.getElem?_toList]; exact hd
          · rename_i h3
            rw [List.getElem?_append_right (by simp; omega), List.getElem?_drop, Array.getElem?_toList]
            simp only [List.length_map, Nat.add_zero]
            rw [show p + Z.length + (j - p - Z.length) = j by omega]
            exact hd

theorem run_copy {t ty : TypeId} {ats : Array TypeId} (hat : ats[0]? = some t) {e : TypeId} {i : TypeInfo} (ht : P.underlying t = some (.slice e)) (hi : inf P e = some i) {ad ay : Option Addr} {n cap m cy : Nat} {news : Array Value} {w' : World}
    (hn : (Builtin.firstCells i.size (Nat.min m n) (.slice ay m cy)).run P w = .ok news w) (hst : (match ad with | some x => storeCells x news.toList | none => pure ()).run P w = .ok () w') :
    (Builtin.copy_ ats ty #[.slice ad n cap, .slice ay m cy]).run P w = .ok (.int .i64 (Nat.min m n : Nat)) w' := by
  cases ad with
  | none => simp at hst; subst hst; simp [Builtin.copy_, hat, under_ok ht, run_size hi, Builtin.lenOf, hn, goInt]
  | some x => simp at hst; simp [Builtin.copy_, hat, under_ok ht, run_size hi, Builtin.lenOf, hn, hst, goInt]

theorem sCopy_ok {t ty : TypeId} {ats : Array TypeId} (hat : ats[0]? = some t) {x y : SV} {u v : Value} (hs : sCopy P s t x y = .ok r) (S : St C η ρ h s r w) (hx : VV η ρ x u) (hy : VV η ρ y v) (I : InsOK tb η s.ne r.ins) :
    ∃ cv w', (Builtin.copy_ ats ty #[u, v]).run P w = .ok cv w' ∧ Post C η ρ h s r cv w' := by
  unfold sCopy at hs
  split at hs
  · rename_i b
    replace hs := ebind hs
    obtain ⟨⟨ck, wd, x', rw_⟩, e1, hs⟩ := hs
    have hc := listAt_ok e1
    simp only at hs
    replace hs := ebind hs
    obtain ⟨⟨ck', wd', c, is, rd⟩, e2, hs⟩ := hs
    simp only at hs
    split at hs
    · cases hs
    · rename_i hcond
      simp only [Bool.not_eq_true', Bool.not_eq_false, Bool.and_eq_true, beq_iff_eq] at hcond
      obtain ⟨⟨⟨hrw, rfl⟩, rfl⟩, hl⟩ := hcond
      subst hrw
      cases hs
      obtain ⟨e, ht, hfk⟩ := listT_ok hl
      obtain ⟨i, zv, hi, hzv, h1, h2, h3, h4, h5⟩ := flatK_ok hfk
      obtain ⟨rb, cap, hr, c1, c2, c3, c4⟩ := hx
      have hh := S.ag b (by simp)
      obtain ⟨rb', hr', bc⟩ := S.hr.bc b _ (hh.trans hc)
      rw [hr] at hr'; cases hr'
      obtain ⟨L, q1, q2, q3⟩ := bc.len
      obtain ⟨M, ay, m, cy, hM, hv, HM, I⟩ := contentI_ok (P := P) e2 S.hr (fun b hb => S.ag b (by simp [hb])) hy I
      subst hv
      obtain ⟨vs, q, i1, i2, i3, I⟩ := InsOK.one I
      obtain ⟨p1, l1, rfl⟩ := looks1 i1
      rw [q1] at l1; cases l1
      simp only [step, ev] at i2
      cases i2
      rw [show L.length / wd = rb.n by rw [q2]; exact Nat.mul_div_cancel _ h3] at i3
      obtain ⟨vs, q, j1, j2, j3, I⟩ := InsOK.one I
      obtain ⟨p1, l1, rfl⟩ := looks1 j1
      rw [hM] at l1; cases l1
      simp only [step, ev] at j2
      cases j2
      rw [show M.length / wd = m by rw [HM.len]; exact Nat.mul_div_cancel _ h3] at j3
      obtain ⟨vs, q, k1, k2, k3, I⟩ := InsOK.one I
      obtain ⟨p1, p2, l1, l2, rfl⟩ := looks2 k1
      rw [j3] at l1; rw [i3] at l2; cases l1; cases l2
      simp only [step, ev] at k2
      cases k2
      have hmin : (if (rb.n : Int) < (m : Int) then (rb.n : Int) else (m : Int)) = ((Nat.min m rb.n : Nat) : Int) := by
        show _ = ((min m rb.n : Nat) : Int)
        split <;> omega
      rw [hmin] at k3
      obtain ⟨vs, q, m1, m2, m3, I⟩ := InsOK.one I
      obtain ⟨p1, p2, p3, l1, l2, l3, rfl⟩ := looks3 m1
      rw [hM] at l1
      have k3' := k3
      rw [show s.ne + insN is + 2 = s.ne + insN is + 1 + 1 by omega] at l3
      rw [k3] at l3; cases l1; cases l2; cases l3
      simp only [step, ev] at m2
      split at m2
      · cases m2
        obtain ⟨vs, q, n1, n2, n3, _⟩ := InsOK.one I
        obtain ⟨p1, p2, p3, l1, l2, l3, rfl⟩ := looks3 n1
        rw [show s.ne + insN is + 3 = s.ne + insN is + 1 + 1 + 1 by omega] at l3
        rw [q1] at l1; rw [m3] at l3; cases l1; cases l2; cases l3
        simp only [step, ev] at n2
        split at n2
        · rename_i hsp
          cases n2
          simp only [Int.toNat_zero, Nat.zero_mul, List.drop_zero, Int.toNat_natCast] at hsp n3
          have hle : Nat.min m rb.n ≤ m := Nat.min_le_left _ _
          obtain ⟨w', r1, r2, r3, r4, r5, r6, r7⟩ := splice_store (P := P) bc q1 (p := 0) (Z := M.take (Nat.min m rb.n * wd)) (ad := rb.at_.map adr) hsp.2 (fun hne => by
            have hpos : 0 < rb.n := by
              rcases Nat.eq_zero_or_pos rb.n with h0 | h0
              · rw [h0] at hne
                simp at hne
              · exact h0
            obtain ⟨l, _, _, _, b4, b5⟩ := bc
            rcases b5 with ⟨d1, d2, d3⟩ | ⟨blk, arr, tt, d1, _⟩
            · omega
            · exact ⟨blk, d1, by rw [d1]; rfl⟩)
          refine ⟨_, w', by rw [c3]; exact run_copy (P := P) (w := w) hat ht hi (by rw [h1]; exact HM.read w rfl _ hle) r1, ?_⟩
          refine Post.turn S hc hh rfl hr (sb' := .list ck wd (.v (s.ne + insN is + 4)) true) rfl r2 r3 r4 (by omega) r6 (r7 _ (by rw [show s.ne + insN is + 4 = s.ne + insN is + 1 + 1 + 1 + 1 by omega]; exact n3)) ⟨_, k3, rfl⟩
        · cases n2
      · cases m2
  · rename_i b lo n
    replace hs := ebind hs
    obtain ⟨⟨ck, wd, x', rw_⟩, e1, hs⟩ := hs
    have hc := listAt_ok e1
    simp only at hs
    replace hs := ebind hs
    obtain ⟨⟨ck', wd', c, is, rd⟩, e2, hs⟩ := hs
    simp only at hs
    split at hs
    · cases hs
    · rename_i hcond
      simp only [Bool.not_eq_true', Bool.not_eq_false, Bool.and_eq_true, beq_iff_eq] at hcond
      obtain ⟨⟨⟨hrw, rfl⟩, rfl⟩, hl⟩ := hcond
      subst hrw
      cases hs
      obtain ⟨e, ht, hfk⟩ := listT_ok hl
      obtain ⟨i, zv, hi, hzv, h1, h2, h3, h4, h5⟩ := flatK_ok hfk
      obtain ⟨rb, lv, mv, ad, cap, hr, hlo, hnn, h0, hm0, hin, hcap, hvx, hpos, hnon⟩ := hx
      have hh := S.ag b (by simp)
      obtain ⟨rb', hr', bc⟩ := S.hr.bc b _ (hh.trans hc)
      rw [hr] at hr'; cases hr'
      obtain ⟨L, q1, q2, q3⟩ := bc.len
      obtain ⟨M, ay, m, cy, hM, hv, HM, I⟩ := contentI_ok (P := P) e2 S.hr (fun b hb => S.ag b (by simp [hb])) hy I
      subst hv
      obtain ⟨vs, q, j1, j2, j3, I⟩ := InsOK.one I
      obtain ⟨p1, l1, rfl⟩ := looks1 j1
      rw [hM] at l1; cases l1
      simp only [step, ev] at j2
      cases j2
      rw [show M.length / wd = m by rw [HM.len]; exact Nat.mul_div_cancel _ h3] at j3
      obtain ⟨vs, q, k1, k2, k3, I⟩ := InsOK.one I
      obtain ⟨p1, p2, l1, l2, rfl⟩ := looks2 k1
      rw [j3] at l1; rw [hnn] at l2; cases l1; cases l2
      simp only [step, ev] at k2
      cases k2
      have hmin : (if mv < (m : Int) then mv else (m : Int)) = ((Nat.min m mv.toNat : Nat) : Int) := by
        show _ = ((min m mv.toNat : Nat) : Int)
        split <;> omega
      rw [hmin] at k3
      obtain ⟨vs, q, m1, m2, m3, I⟩ := InsOK.one I
      obtain ⟨p1, p2, p3, l1, l2, l3, rfl⟩ := looks3 m1
      rw [hM] at l1
      rw [k3] at l3; cases l1; cases l2; cases l3
      simp only [step, ev] at m2
      split at m2
      · cases m2
        obtain ⟨vs, q, n1, n2, n3, _⟩ := InsOK.one I
        obtain ⟨p1, p2, p3, l1, l2, l3, rfl⟩ := looks3 n1
        rw [show s.ne + insN is + 2 = s.ne + insN is + 1 + 1 by omega] at l3
        rw [q1] at l1; rw [hlo] at l2; rw [m3] at l3; cases l1; cases l2; cases l3
        simp only [step, ev] at n2
        split at n2
        · rename_i hsp
          cases n2
          simp only [Int.toNat_zero, Nat.zero_mul, List.drop_zero, Int.toNat_natCast] at hsp n3
          have hle : Nat.min m mv.toNat ≤ m := Nat.min_le_left _ _
          obtain ⟨w', r1, r2, r3, r4, r5, r6, r7⟩ := splice_store (P := P) bc q1 (p := lv.toNat * wd) (Z := M.take (Nat.min m mv.toNat * wd)) (ad := ad.map adr) hsp.2 (fun hne => by
            have hpos' : 0 < mv := by
              rcases Int.lt_or_le 0 mv with h0 | h0
              · exact h0
              · have : mv.toNat = 0 := by omega
                rw [this] at hne
                simp at hne
            obtain ⟨blk, off, hatt, hade⟩ := hpos hpos'
            obtain ⟨l, _, _, _, b4, b5⟩ := bc
            rcases b5 with ⟨d1, d2, d3⟩ | ⟨blk', arr, tt, d1, _⟩
            · rw [hatt] at d1; cases d1
            · rw [hatt] at d1; cases d1
              exact ⟨blk, hatt, by rw [hade, q3]; simp [adr]⟩)
          refine ⟨_, w', by rw [hvx]; exact run_copy (P := P) (w := w) hat ht hi (by rw [h1]; exact HM.read w rfl _ hle) r1, ?_⟩
          refine Post.turn S hc hh rfl hr (sb' := .list ck wd (.v (s.ne + insN is + 3)) true) rfl r2 r3 r4 (by omega) r6 (r7 _ (by rw [show s.ne + insN is + 3 = s.ne + insN is + 1 + 1 + 1 by omega]; exact n3)) ⟨_, k3, rfl⟩
        · cases n2
      · cases m2
  · cases hs

theorem sClear_ok {t ty : TypeId} {ats : Array TypeId} (hat : ats[0]? = some t) {x : SV} {u : Value} (hs : sClear P s t x = .ok r) (S : St C η ρ h s r w) (hx : VV η ρ x u) (I : InsOK tb η s.ne r.ins) :
    ∃ cv w', (Builtin.clear_ ats ty #[u]).run P w = .ok cv w' ∧ Post C η ρ h s r cv w' := by
  unfold sClear at hs
  split at hs
  · rename_i b lo n
    replace hs := ebind hs
    obtain ⟨⟨ck, wd, x', rw_⟩, e1, hs⟩ := hs
    have hc := listAt_ok e1
    simp only at hs
    split at hs
    · cases hs
    · rename_i hcond
      simp only [Bool.not_eq_true', Bool.not_eq_false, Bool.and_eq_true, beq_iff_eq] at hcond
      obtain ⟨hrw, hl⟩ := hcond
      subst hrw
      cases hs
      obtain ⟨e, ht, hfk⟩ := listT_ok hl
      obtain ⟨i, zv, hi, hzv, h1, h2, h3, h4, h5⟩ := flatK_ok hfk
      obtain ⟨rb, lv, mv, ad, cap, hr, hlo, hnn, h0, hm0, hin, hcap, hvx, hpos, hnon⟩ := hx
      have hh := S.ag b (by simp)
      obtain ⟨rb', hr', bc⟩ := S.hr.bc b _ (hh.trans hc)
      rw [hr] at hr'; cases hr'
      obtain ⟨L, q1, q2, q3⟩ := bc.len
      obtain ⟨vs, q, n1, n2, n3, _⟩ := InsOK.one I
      obtain ⟨p1, p2, p3, l1, l2, l3, rfl⟩ := looks3 n1
      rw [q1] at l1; rw [hlo] at l2; rw [hnn] at l3; cases l1; cases l2; cases l3
      simp only [step, ev] at n2
      split at n2
      · rename_i hsp
        cases n2
        obtain ⟨w', r1, r2, r3, r4, r5, r6, r7⟩ := splice_store (P := P) bc q1 (p := lv.toNat * wd) (Z := List.replicate (mv.toNat * wd) 0) (ad := ad.map adr) (by simp; exact hsp.2.2) (fun hne => by
          have hpos' : 0 < mv := by
            rcases Int.lt_or_le 0 mv with h0 | h0
            · exact h0
            · have : mv.toNat = 0 := by omega
              rw [this] at hne
              simp at hne
          obtain ⟨blk, off, hatt, hade⟩ := hpos hpos'
          obtain ⟨l, _, _, _, b4, b5⟩ := bc
          rcases b5 with ⟨d1, d2, d3⟩ | ⟨blk', arr, tt, d1, _⟩
          · rw [hatt] at d1; cases d1
          · rw [hatt] at d1; cases d1
            exact ⟨blk, hatt, by rw [hade, q3]; simp [adr]⟩)
        have hzc : (Builtin.zeroCells zv.cells mv.toNat).toList = (List.replicate (mv.toNat * wd) 0).map ck.val := by
          apply List.ext_getElem?
          intro j
          rw [Array.getElem?_toList]
          unfold Builtin.zeroCells
          rw [List.getElem?_map, List.getElem?_replicate]
          split
          · rename_i hj
            rw [h2]
            have := zeros_get (n := mv.toNat * wd) h2 h3 h5 hj
            rw [h2] at this
            exact this
          · rename_i hj
            rw [Array.getElem?_eq_none (by simp [h2]; omega)]; rfl
        refine ⟨.tuple #[], w', ?_, ?_⟩
        · rw [hvx]
          cases ad with
          | none =>
            simp at r1; subst r1
            simp [Builtin.clear_, hat, under_ok ht]
          | some p =>
            by_cases hmz : mv.toNat = 0
            · have : w' = w := by
                rw [hmz] at r1
                simp [storeCells] at r1
                exact r1.symm
              subst this
              simp [Builtin.clear_, hat, under_ok ht, hmz]
            · obtain ⟨k, hk⟩ : ∃ k, mv.toNat = k + 1 := ⟨mv.toNat - 1, by omega⟩
              rw [hk] at r1 hzc ⊢
              simp only [Option.map_some] at r1 ⊢
              rw [← hzc] at r1
              simp [Builtin.clear_, hat, under_ok ht, zeroValue, typeInfo, (inf_ok hi).1, hzv, r1]
        · exact Post.turn S hc hh rfl hr (sb' := .list ck wd (.v s.ne) true) rfl r2 r3 r4 (by omega) r6 (r7 _ n3) ⟨#[], rfl, trivial⟩
      · cases n2
  · cases hs

end
end Gm

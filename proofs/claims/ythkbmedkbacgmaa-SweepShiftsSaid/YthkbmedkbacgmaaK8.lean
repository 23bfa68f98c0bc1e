/- Totality: assumptions, and what a state entails. -/
import Derived.Test.YthkbmedkbacgmaaK7
import Derived.Test.YthkbmedkbacgmaaK6
import Derived.ChangeSlices
import Derived.Carry
import Derived.ProofKit
namespace Gm
open Go

def setHi (sl : List Slot) (i : Nat) (n : Int) : List Slot := sl.modify i fun s => { s with hi := minO s.hi (some n) }
def setLo (sl : List Slot) (i : Nat) (n : Int) : List Slot := sl.modify i fun s => { s with lo := maxO s.lo (some n) }

/-- the state, if an atom is at most another one and so much more -/
def asmLe (st : AS) (a b : Atom) (c : Int) : AS :=
  match a, b with
  | .v i, .v j =>
    let sl := match hiS st.sl j with
      | some h => setHi st.sl i (h + c)
      | none => st.sl
    let sl := match loS st.sl i with
      | some l => setLo sl j (l - c)
      | none => sl
    ⟨sl, (i, j, c) :: st.fs⟩
  | .v i, b => match hiA st b with
    | some h => ⟨setHi st.sl i (h + c), st.fs⟩
    | none => st
  | a, .v j => match loA st a with
    | some l => ⟨setLo st.sl j (l - c), st.fs⟩
    | none => st
  | _, _ => st

theorem modify_get {sl : List Slot} {i j : Nat} {f : Slot → Slot} {s : Slot} (h : (sl.modify i f)[j]? = some s) : ∃ s0, sl[j]? = some s0 ∧ s = if i = j then f s0 else s0 := by
  rw [List.getElem?_modify] at h
  cases hs : sl[j]? with
  | none => rw [hs] at h; cases h
  | some s0 =>
    rw [hs] at h
    have h' : (if i = j then f s0 else s0) = s := Option.some.inj h
    exact ⟨s0, rfl, h'.symm⟩

theorem ms_modify {sl : List Slot} {η : List PV} {i j : Nat} {f : Slot → Slot} (hf : ∀ s, (f s).t = s.t) : ms (sl.modify i f) η j = ms sl η j := by
  unfold ms
  rw [List.getElem?_modify]
  cases sl[j]? with
  | none => rfl
  | some s =>
    cases η[j]? with
    | none => rfl
    | some p =>
      show meas (if i = j then f s else s).t p = meas s.t p
      split
      · rw [hf]
      · rfl

section
variable {st : AS} {η : List PV}

theorem AS.ok.modify (h : AS.ok st η) {i : Nat} {f : Slot → Slot} (hf : ∀ s, (f s).t = s.t) (hk : ∀ s p, st.sl[i]? = some s → η[i]? = some p → s.ok η p → ms st.sl η i = meas s.t p → (f s).ok η p) : AS.ok ⟨st.sl.modify i f, st.fs⟩ η := by
  refine ⟨by simp [h.len], fun j s p h1 h2 => ?_, fun a b c hm => ?_⟩
  · obtain ⟨s0, h3, h4⟩ := modify_get h1
    have k := h.slot j s0 p h3 h2
    split at h4
    · rename_i q
      subst q
      rw [h4]
      refine hk s0 p h3 h2 k ?_
      unfold ms; rw [h3, h2]
    · rw [h4]; exact k
  · obtain ⟨q1, q2, q3⟩ := h.fact a b c hm
    exact ⟨by simpa using q1, by simpa using q2, by rw [ms_modify hf, ms_modify hf]; exact q3⟩

theorem setHi_ok (h : AS.ok st η) {i : Nat} {n : Int} (hn : ms st.sl η i ≤ n) : AS.ok ⟨setHi st.sl i n, st.fs⟩ η := by
  refine h.modify (f := fun s => { s with hi := minO s.hi (some n) }) (fun s => rfl) (fun s p h1 h2 k hm => ⟨k.t, k.lo, ?_, k.df⟩)
  exact minO_ok (P := fun m => meas s.t p ≤ m) k.hi (fun m e => by cases e; rw [← hm]; exact hn)

theorem setLo_ok (h : AS.ok st η) {i : Nat} {n : Int} (hn : n ≤ ms st.sl η i) : AS.ok ⟨setLo st.sl i n, st.fs⟩ η := by
  refine h.modify (f := fun s => { s with lo := maxO s.lo (some n) }) (fun s => rfl) (fun s p h1 h2 k hm => ⟨k.t, ?_, k.hi, k.df⟩)
  exact maxO_ok (P := fun m => m ≤ meas s.t p) k.lo (fun m e => by cases e; rw [← hm]; exact hn)

theorem ms_setHi {i j : Nat} {n : Int} {sl : List Slot} : ms (setHi sl i n) η j = ms sl η j := ms_modify (fun _ => rfl)
theorem ms_setLo {i j : Nat} {n : Int} {sl : List Slot} : ms (setLo sl i n) η j = ms sl η j := ms_modify (fun _ => rfl)
theorem len_setHi {i : Nat} {n : Int} {sl : List Slot} : (setHi sl i n).length = sl.length := by simp [setHi]
theorem len_setLo {i : Nat} {n : Int} {sl : List Slot} : (setLo sl i n).length = sl.length := by simp [setLo]

theorem AS.ok.fact_cons (h : AS.ok st η) {i j : Nat} {c : Int} (hi : i < st.sl.length) (hj : j < st.sl.length) (hc : ms st.sl η i ≤ ms st.sl η j + c) : AS.ok ⟨st.sl, (i, j, c) :: st.fs⟩ η := by
  refine ⟨h.len, h.slot, fun a b d hm => ?_⟩
  rcases List.mem_cons.1 hm with e | hm
  · cases e; exact ⟨hi, hj, hc⟩
  · exact h.fact a b d hm

/-- an atom is there -/
def here (st : AS) : Atom → Prop
  | .v i => i < st.sl.length
  | _ => True

theorem here_of {a : Atom} {p : PV} (h : AS.ok st η) (e : look η a = some p) : here st a := by
  cases a with
  | v i => exact v_lt h e
  | _ => trivial

theorem asmLe_ok (h : AS.ok st η) {a b : Atom} {c : Int} (ha : here st a) (hb : here st b) (hc : mA st.sl η a ≤ mA st.sl η b + c) : AS.ok (asmLe st a b c) η ∧ (∀ x, mA (asmLe st a b c).sl η x = mA st.sl η x) ∧ (asmLe st a b c).sl.length = st.sl.length := by
  have key : ∀ {sl : List Slot}, (∀ j, ms sl η j = ms st.sl η j) → ∀ x, mA sl η x = mA st.sl η x := by
    intro sl hs x
    cases x with
    | v i => exact hs i
    | _ => rfl
  unfold asmLe
  split
  · rename_i i j
    have hc' : ms st.sl η i ≤ ms st.sl η j + c := hc
    have s1 : ∃ sl, (match hiS st.sl j with | some h => setHi st.sl i (h + c) | none => st.sl) = sl ∧ AS.ok ⟨sl, st.fs⟩ η ∧ (∀ j, ms sl η j = ms st.sl η j) ∧ sl.length = st.sl.length := by
      refine ⟨_, rfl, ?_⟩
      split
      · rename_i n hn
        have := hiS_ok h hn
        exact ⟨setHi_ok h (by omega), fun _ => ms_setHi, len_setHi⟩
      · exact ⟨h, fun _ => rfl, rfl⟩
    obtain ⟨sl1, e1, o1, m1, l1⟩ := s1
    have s2 : ∃ sl, (match loS st.sl i with | some l => setLo sl1 j (l - c) | none => sl1) = sl ∧ AS.ok ⟨sl, st.fs⟩ η ∧ (∀ j, ms sl η j = ms st.sl η j) ∧ sl.length = st.sl.length := by
      refine ⟨_, rfl, ?_⟩
      split
      · rename_i n hn
        have := loS_ok h hn
        exact ⟨setLo_ok (st := ⟨sl1, st.fs⟩) o1 (by rw [m1]; omega), fun j => by rw [ms_setLo]; exact m1 j, by rw [len_setLo, l1]⟩
      · exact ⟨o1, m1, l1⟩
    obtain ⟨sl2, e2, o2, m2, l2⟩ := s2
    simp only [e1, e2]
    refine ⟨AS.ok.fact_cons (st := ⟨sl2, st.fs⟩) o2 (by rw [l2]; exact ha) (by rw [l2]; exact hb) (by rw [m2, m2]; exact hc'), key m2, l2⟩
  · rename_i i hne
    split
    · rename_i n hn
      have := hiA_ok h hn
      have hc' : ms st.sl η i ≤ mA st.sl η b + c := hc
      exact ⟨setHi_ok h (by omega), key fun _ => ms_setHi, len_setHi⟩
    · exact ⟨h, fun _ => rfl, rfl⟩
  · rename_i j hne
    split
    · rename_i n hn
      have := loA_ok h hn
      have hc' : mA st.sl η a ≤ ms st.sl η j + c := hc
      exact ⟨setLo_ok h (by omega), key fun _ => ms_setLo, len_setLo⟩
    · exact ⟨h, fun _ => rfl, rfl⟩
  · exact ⟨h, fun _ => rfl, rfl⟩

/-- the state, if a comparison turned out so -/
def asmCmp (st : AS) (op : BinOp) (x : Bool) (a b : Atom) : AS :=
  match op, x with
  | .lss, true => asmLe st a b (-1)
  | .lss, false => asmLe st b a 0
  | .leq, true => asmLe st a b 0
  | .leq, false => asmLe st b a (-1)
  | .gtr, true => asmLe st b a (-1)
  | .gtr, false => asmLe st a b 0
  | .geq, true => asmLe st b a 0
  | .geq, false => asmLe st a b (-1)
  | .eql, true => asmLe (asmLe st a b 0) b a 0
  | .neq, false => asmLe (asmLe st a b 0) b a 0
  | .eql, false => bif leA st a b 0 then asmLe st a b (-1) else bif leA st b a 0 then asmLe st b a (-1) else st
  | .neq, true => bif leA st a b 0 then asmLe st a b (-1) else bif leA st b a 0 then asmLe st b a (-1) else st
  | _, _ => st

theorem here_len {st' : AS} (h : st'.sl.length = st.sl.length) {a : Atom} (ha : here st a) : here st' a := by
  cases a with
  | v i => show i < st'.sl.length; rw [h]; exact ha
  | _ => trivial

theorem asmNe_ok (h : AS.ok st η) {a b : Atom} (ha : here st a) (hb : here st b) (hc : mA st.sl η a ≠ mA st.sl η b) :
    AS.ok (bif leA st a b 0 then asmLe st a b (-1) else bif leA st b a 0 then asmLe st b a (-1) else st) η := by
  cases h1 : leA st a b 0 with
  | true => have := leA_ok h h1; exact (asmLe_ok h ha hb (by omega)).1
  | false =>
    cases h2 : leA st b a 0 with
    | true => have := leA_ok h h2; exact (asmLe_ok h hb ha (by omega)).1
    | false => exact h

theorem asmEq_ok (h : AS.ok st η) {a b : Atom} (ha : here st a) (hb : here st b) (hc : mA st.sl η a = mA st.sl η b) : AS.ok (asmLe (asmLe st a b 0) b a 0) η := by
  obtain ⟨k1, k2, k3⟩ := asmLe_ok h ha hb (c := 0) (by omega)
  exact (asmLe_ok k1 (here_len k3 hb) (here_len k3 ha) (by rw [k2, k2]; omega)).1

theorem asmCmp_ok (h : AS.ok st η) {op : BinOp} {a b : Atom} {r : Bool} {x y : Int} (ha : here st a) (hb : here st b) (ex : mA st.sl η a = x) (ey : mA st.sl η b = y) (e : cmpInt op x y = some r) :
    AS.ok (asmCmp st op r a b) η := by
  cases op <;> simp only [cmpInt, Option.some.injEq, reduceCtorEq] at e <;> cases r <;> simp only [asmCmp] <;> simp at e
  case eql.false => exact asmNe_ok h ha hb (by omega)
  case eql.true => exact asmEq_ok h ha hb (by omega)
  case neq.false => exact asmEq_ok h ha hb (by omega)
  case neq.true => exact asmNe_ok h ha hb (by omega)
  case lss.false => exact (asmLe_ok h hb ha (by omega)).1
  case lss.true => exact (asmLe_ok h ha hb (by omega)).1
  case leq.false => exact (asmLe_ok h hb ha (by omega)).1
  case leq.true => exact (asmLe_ok h ha hb (by omega)).1
  case gtr.false => exact (asmLe_ok h ha hb (by omega)).1
  case gtr.true => exact (asmLe_ok h hb ha (by omega)).1
  case geq.false => exact (asmLe_ok h ha hb (by omega)).1
  case geq.true => exact (asmLe_ok h hb ha (by omega)).1

/-- the state, if a bool turned out so -/
def asmB (st : AS) : Nat → Atom → Bool → AS
  | 0, _, _ => st
  | d + 1, .v i, x => match st.sl[i]? with
    | some s =>
      let st := bif x then asmLe st (.i 1) (.v i) 0 else asmLe st (.v i) (.i 0) 0
      match s.df with
      | .cmp op a b => asmCmp st op x a b
      | .not a => asmB st d a (!x)
      | .none => st
    | none => st
  | _, _, _ => st

theorem asmB_ok : ∀ (d : Nat) {st : AS} (a : Atom) (x : Bool), AS.ok st η → look η a = some (.bool x) → mA st.sl η a = (bif x then 1 else 0) → AS.ok (asmB st d a x) η
  | 0, st, a, x, h, _, _ => h
  | d + 1, st, .i n, x, h, _, _ => h
  | d + 1, st, .b n, x, h, _, _ => h
  | d + 1, st, .nil, x, h, _, _ => h
  | d + 1, st, .v i, x, h, hl, hm => by
    simp only [asmB]
    split
    · rename_i s hs
      have s1 : ∃ st', (bif x then asmLe st (.i 1) (.v i) 0 else asmLe st (.v i) (.i 0) 0) = st' ∧ AS.ok st' η ∧ (∀ y, mA st'.sl η y = mA st.sl η y) ∧ st'.sl.length = st.sl.length := by
        refine ⟨_, rfl, ?_⟩
        cases x with
        | true => exact asmLe_ok h (a := .i 1) trivial (here_of h hl) (by rw [hm]; exact Int.le_refl _)
        | false => exact asmLe_ok h (b := .i 0) (here_of h hl) trivial (by rw [hm]; exact Int.le_refl _)
      obtain ⟨st', e1, o1, m1, l1⟩ := s1
      rw [e1]
      have k := (h.slot i s _ hs hl).df
      split
      · rename_i op a b hd
        rw [hd] at k
        obtain ⟨p, q, r, k1, k2, k3, k4⟩ := k
        cases k4
        have ea : ∀ {a : Atom} {p : Int}, look η a = some (.int p) → mA st'.sl η a = p := by
          intro a p e
          cases a with
          | i n => cases e; rfl
          | b n => cases e
          | nil => cases e
          | v j =>
            have hj := v_lt o1 e
            obtain ⟨p', g1, g2, g3⟩ := o1.at (List.getElem?_eq_getElem hj)
            simp only [look] at e
            rw [e] at g1
            cases g1
            show ms st'.sl η j = p
            rw [g3]
            have := g2.t
            cases ht : (st'.sl[j]).t with
            | int => rfl
            | bool => rw [ht] at this; exact this.elim
            | ints w lo hi => rw [ht] at this; exact this.elim
            | str => rw [ht] at this; exact this.elim
        exact asmCmp_ok o1 (here_of o1 k1) (here_of o1 k2) (ea k1) (ea k2) k3
      · rename_i a hd
        rw [hd] at k
        obtain ⟨r, k1, k2⟩ := k
        cases k2
        refine asmB_ok d a _ o1 (by rw [k1]; simp) ?_
        have : mA st'.sl η a = bif r then 1 else 0 := by
          cases a with
          | i n => cases k1
          | b n => cases k1; rfl
          | nil => cases k1
          | v j =>
            have hj := v_lt o1 k1
            obtain ⟨p', g1, g2, g3⟩ := o1.at (List.getElem?_eq_getElem hj)
            simp only [look] at k1
            rw [k1] at g1
            cases g1
            show ms st'.sl η j = _
            rw [g3]
            have := g2.t
            cases ht : (st'.sl[j]).t with
            | int => rw [ht] at this; exact this.elim
            | bool => rfl
            | ints w lo hi => rw [ht] at this; exact this.elim
            | str => rw [ht] at this; exact this.elim
        simpa using this
      · exact o1
    · exact h
end
end Gm

/- Totality: a state that follows from another one, and what a call leaves behind. -/
namespace Gm
open Go

def tyOk (st : AS) (a : Atom) : AT → Bool
  | .int => isInt st a
  | .bool => isBool st a
  | .ints w lo hi => match isInts st a w with
    | some (l, h) => decide (h < l) || (decide (lo ≤ l) && decide (h ≤ hi))
    | none => false
  | .str => match tyA st a with
    | some .str => true
    | _ => false

def loOk (st : AS) (a : Atom) : Option Int → Bool
  | none => true
  | some n => leA st (.i n) a 0

def hiOk (st : AS) (a : Atom) : Option Int → Bool
  | none => true
  | some n => leA st a (.i n) 0

def Def.isNone : Def → Bool
  | .none => true
  | _ => false

def entS (st : AS) : List Atom → List Slot → Bool
  | [], [] => true
  | a :: as, s :: sl => (tyOk st a s.t && (loOk st a s.lo && hiOk st a s.hi)) && (s.df.isNone && entS st as sl)
  | _, _ => false

def entF (st : AS) (as : List Atom) : List (Nat × Nat × Int) → Bool
  | [] => true
  | f :: fs => (match as[f.1]?, as[f.2.1]? with
    | some a, some b => leA st a b f.2.2
    | _, _ => false) && entF st as fs

/-- do values stand to each other so? -/
def ent (st : AS) (as : List Atom) (A : AS) : Bool := entS st as A.sl && entF st as A.fs

section
variable {st : AS} {η : List PV}

structure Fit1 (st : AS) (η : List PV) (a : Atom) (s : Slot) (p : PV) : Prop where
  look : look η a = some p
  t : s.t.ok p
  lo : ∀ n, s.lo = some n → n ≤ meas s.t p
  hi : ∀ n, s.hi = some n → meas s.t p ≤ n
  df : s.df = .none
  m : mA st.sl η a = meas s.t p

theorem tyOk_ok (h : AS.ok st η) {a : Atom} {t : AT} (e : tyOk st a t = true) : ∃ p, look η a = some p ∧ t.ok p ∧ mA st.sl η a = meas t p := by
  cases t with
  | int => obtain ⟨x, h1, h2⟩ := isInt_ok h e; exact ⟨_, h1, trivial, h2⟩
  | bool => obtain ⟨x, h1, h2⟩ := isBool_ok h e; exact ⟨_, h1, trivial, h2⟩
  | ints w lo hi =>
    simp only [tyOk] at e
    split at e
    · rename_i l hh q
      obtain ⟨l1, a1, a2, a3, a4, a5⟩ := isInts_ok h q
      refine ⟨_, a1, ⟨a3, a4, fun x hx => ?_⟩, a2⟩
      have := a5 x hx
      simp only [Bool.or_eq_true, Bool.and_eq_true, decide_eq_true_eq] at e
      omega
    · cases e
  | str =>
    simp only [tyOk] at e
    split at e
    · rename_i q; exact tyA_ok h q
    · cases e

theorem ent1_ok (h : AS.ok st η) {a : Atom} {s : Slot} (e : (tyOk st a s.t && (loOk st a s.lo && hiOk st a s.hi)) = true) (ed : s.df.isNone = true) : ∃ p, Fit1 st η a s p := by
  simp only [Bool.and_eq_true] at e
  obtain ⟨p, h1, h2, h3⟩ := tyOk_ok h e.1
  refine ⟨p, h1, h2, fun n hn => ?_, fun n hn => ?_, ?_, h3⟩
  · have e1 := e.2.1
    rw [hn] at e1
    have : n ≤ _ := leA_ok h (a := .i n) e1
    omega
  · have e1 := e.2.2
    rw [hn] at e1
    have : _ ≤ n + 0 := leA_ok h (b := .i n) e1
    omega
  · cases hd : s.df with
    | none => rfl
    | cmp op a b => rw [hd] at ed; cases ed
    | not a => rw [hd] at ed; cases ed

theorem entS_ok (h : AS.ok st η) : ∀ {as : List Atom} {sl : List Slot}, entS st as sl = true → ∃ v, looks η as = some v ∧ v.length = sl.length ∧ as.length = sl.length ∧
    ∀ (k : Nat) (a : Atom) (s : Slot) (p : PV), as[k]? = some a → sl[k]? = some s → v[k]? = some p → Fit1 st η a s p
  | [], [], _ => ⟨[], rfl, rfl, rfl, fun k a s p h1 => (by simp at h1)⟩
  | [], _ :: _, e => by cases e
  | _ :: _, [], e => by cases e
  | a :: as, s :: sl, e => by
    simp only [entS] at e
    rw [Bool.and_eq_true] at e
    have e2 := e.2
    rw [Bool.and_eq_true] at e2
    obtain ⟨p, hp⟩ := ent1_ok h e.1 e2.1
    obtain ⟨v, h1, h2, h3, h4⟩ := entS_ok h e2.2
    refine ⟨p :: v, by simp [looks, hp.look, h1], by simp [h2], by simp [h3], fun k a' s' p' g1 g2 g3 => ?_⟩
    cases k with
    | zero => simp at g1 g2 g3; subst g1; subst g2; subst g3; exact hp
    | succ k => exact h4 k a' s' p' (by simpa using g1) (by simpa using g2) (by simpa using g3)

theorem entF_ok : ∀ {as : List Atom} {fs : List (Nat × Nat × Int)}, entF st as fs = true → ∀ x y c, (x, y, c) ∈ fs → ∃ a b, as[x]? = some a ∧ as[y]? = some b ∧ leA st a b c = true
  | as, [], _, x, y, c, hm => by cases hm
  | as, f :: fs, e, x, y, c, hm => by
    simp only [entF] at e
    rw [Bool.and_eq_true] at e
    rcases List.mem_cons.1 hm with q | hm
    · cases q
      have e1 := e.1
      split at e1
      · rename_i a b h1 h2
        exact ⟨a, b, h1, h2, e1⟩
      · cases e1
    · exact entF_ok e.2 x y c hm

theorem ent_ok (h : AS.ok st η) {as : List Atom} {A : AS} (e : ent st as A = true) : ∃ v, looks η as = some v ∧ AS.ok A v := by
  simp only [ent] at e
  rw [Bool.and_eq_true] at e
  obtain ⟨v, h1, h2, h3, h4⟩ := entS_ok h e.1
  refine ⟨v, h1, h2, fun k s p g1 g2 => ?_, fun x y c hm => ?_⟩
  · have hk := (List.getElem?_eq_some_iff.1 g1).1
    have f := h4 k _ s p (List.getElem?_eq_getElem (by rw [h3]; exact hk)) g1 g2
    exact ⟨f.t, f.lo, f.hi, by rw [f.df]; trivial⟩
  · obtain ⟨a, b, g1, g2, g3⟩ := entF_ok e.2 x y c hm
    have key : ∀ {k : Nat} {a : Atom}, as[k]? = some a → k < A.sl.length ∧ ms A.sl v k = mA st.sl η a := by
      intro k a g
      have hk := (List.getElem?_eq_some_iff.1 g).1
      have q1 := List.getElem?_eq_getElem (l := A.sl) (i := k) (by omega)
      have q2 := List.getElem?_eq_getElem (l := v) (i := k) (by omega)
      have f := h4 k a _ _ g q1 q2
      exact ⟨by omega, by unfold ms; rw [q1, q2]; exact f.m.symm⟩
    obtain ⟨k1, k2⟩ := key g1
    obtain ⟨k3, k4⟩ := key g2
    exact ⟨k1, k3, by rw [k2, k4]; exact leA_ok h g3⟩
end

def sameT (st : AS) (a : Atom) : AT → Bool
  | .int => isInt st a
  | .bool => isBool st a
  | .ints w _ _ => match isInts st a w with
    | some _ => true
    | none => false
  | .str => match tyA st a with
    | some .str => true
    | _ => false

def sameS (st : AS) : List Atom → List Slot → Bool
  | [], _ => true
  | a :: as, s :: sl => sameT st a s.t && sameS st as sl
  | _, [] => false

def asmS (st : AS) : List Atom → List Slot → AS
  | a :: as, s :: sl =>
    let st := match s.lo with
      | some n => asmLe st (.i n) a 0
      | none => st
    let st := match s.hi with
      | some n => asmLe st a (.i n) 0
      | none => st
    asmS st as sl
  | _, _ => st

def asmF (st : AS) (ats : List Atom) : List (Nat × Nat × Int) → AS
  | [] => st
  | f :: fs => match ats[f.1]?, ats[f.2.1]? with
    | some a, some b => asmF (asmLe st a b f.2.2) ats fs
    | _, _ => asmF st ats fs

def Slot.clr (s : Slot) : Slot := { s with df := .none }

def vsFrom : Nat → Nat → List Atom
  | _, 0 => []
  | i, n + 1 => .v i :: vsFrom (i + 1) n

/-- a state behind a call: the results are pushed, and what is known of arguments and results is assumed -/
def inst (st : AS) (as : List Atom) (n : Nat) (A : AS) : Option AS :=
  bif Nat.beq A.sl.length (as.length + n) && sameS st as A.sl then
    some (asmF (asmS ⟨st.sl ++ (A.sl.drop as.length).map Slot.clr, st.fs⟩ as A.sl) (as ++ vsFrom st.sl.length n) A.fs)
  else none

theorem vsFrom_get : ∀ {i n k : Nat} {a : Atom}, (vsFrom i n)[k]? = some a → k < n ∧ a = .v (i + k)
  | i, 0, k, a, h => by simp [vsFrom] at h
  | i, n + 1, 0, a, h => by simp [vsFrom] at h; exact ⟨by omega, by rw [← h]; rfl⟩
  | i, n + 1, k + 1, a, h => by
    simp [vsFrom] at h
    obtain ⟨h1, h2⟩ := vsFrom_get h
    exact ⟨by omega, by rw [h2]; congr 1; omega⟩

section
variable {st : AS} {η : List PV}

theorem sameT_ok (h : AS.ok st η) {a : Atom} {t : AT} {p : PV} (e : sameT st a t = true) (hl : look η a = some p) : mA st.sl η a = meas t p := by
  cases t with
  | int => obtain ⟨x, h1, h2⟩ := isInt_ok h e; rw [hl] at h1; cases h1; exact h2
  | bool => obtain ⟨x, h1, h2⟩ := isBool_ok h e; rw [hl] at h1; cases h1; exact h2
  | ints w lo hi =>
    simp only [sameT] at e
    split at e
    · rename_i b q
      obtain ⟨l1, a1, a2, _⟩ := isInts_ok (lo := b.1) (hi := b.2) h q
      rw [hl] at a1; cases a1
      exact a2
    · cases e
  | str =>
    simp only [sameT] at e
    split at e
    · rename_i q
      obtain ⟨p', h1, h2, h3⟩ := tyA_ok h q
      rw [hl] at h1; cases h1
      exact h3
    · cases e

theorem sameS_ok (h : AS.ok st η) : ∀ {as : List Atom} {sl : List Slot} {vs : List PV}, sameS st as sl = true → looks η as = some vs →
    ∀ (k : Nat) (a : Atom), as[k]? = some a → ∃ s p, sl[k]? = some s ∧ vs[k]? = some p ∧ here st a ∧ mA st.sl η a = meas s.t p
  | [], sl, vs, _, _, k, a, hk => by simp at hk
  | a :: as, [], vs, e, _, k, a', hk => by cases e
  | a :: as, s :: sl, vs, e, hl, k, a', hk => by
    simp only [sameS] at e
    rw [Bool.and_eq_true] at e
    simp only [looks] at hl
    cases hx : look η a with
    | none => simp [hx] at hl
    | some p =>
      cases hy : looks η as with
      | none => simp [hx, hy] at hl
      | some ps =>
        simp [hx, hy] at hl
        subst hl
        cases k with
        | zero => simp at hk; subst hk; exact ⟨s, p, rfl, rfl, here_of h hx, sameT_ok h e.1 hx⟩
        | succ k =>
          obtain ⟨s', p', h1, h2, h3⟩ := sameS_ok h e.2 hy k a' (by simpa using hk)
          exact ⟨s', p', by simpa using h1, by simpa using h2, h3⟩

theorem asmS_ok : ∀ {as : List Atom} {sl : List Slot} {st : AS}, AS.ok st η →
    (∀ (k : Nat) (a : Atom) (s : Slot), as[k]? = some a → sl[k]? = some s → here st a ∧ (∀ n, s.lo = some n → n ≤ mA st.sl η a) ∧ (∀ n, s.hi = some n → mA st.sl η a ≤ n)) →
    AS.ok (asmS st as sl) η ∧ (∀ x, mA (asmS st as sl).sl η x = mA st.sl η x) ∧ (asmS st as sl).sl.length = st.sl.length
  | [], sl, st, h, _ => by cases sl <;> exact ⟨h, fun _ => rfl, rfl⟩
  | a :: as, [], st, h, _ => ⟨h, fun _ => rfl, rfl⟩
  | a :: as, s :: sl, st, h, hk => by
    obtain ⟨k1, k2, k3⟩ := hk 0 a s rfl rfl
    have s1 : ∃ st1, (match s.lo with | some n => asmLe st (.i n) a 0 | none => st) = st1 ∧ AS.ok st1 η ∧ (∀ x, mA st1.sl η x = mA st.sl η x) ∧ st1.sl.length = st.sl.length := by
      refine ⟨_, rfl, ?_⟩
      split
      · rename_i n hn
        exact asmLe_ok h (a := .i n) trivial k1 (by have := k2 n hn; show n ≤ _; omega)
      · exact ⟨h, fun _ => rfl, rfl⟩
    obtain ⟨st1, e1, o1, m1, l1⟩ := s1
    have s2 : ∃ st2, (match s.hi with | some n => asmLe st1 a (.i n) 0 | none => st1) = st2 ∧ AS.ok st2 η ∧ (∀ x, mA st2.sl η x = mA st.sl η x) ∧ st2.sl.length = st.sl.length := by
      refine ⟨_, rfl, ?_⟩
      split
      · rename_i n hn
        obtain ⟨q1, q2, q3⟩ := asmLe_ok o1 (b := .i n) (c := 0) (here_len l1 k1) trivial (by rw [m1]; have := k3 n hn; show _ ≤ n + 0; omega)
        exact ⟨q1, fun x => by rw [q2, m1], by rw [q3, l1]⟩
      · exact ⟨o1, m1, l1⟩
    obtain ⟨st2, e2, o2, m2, l2⟩ := s2
    have e3 : asmS st (a :: as) (s :: sl) = asmS st2 as sl := by
      simp only [asmS, e1, e2]
    rw [e3]
    obtain ⟨q1, q2, q3⟩ := asmS_ok (as := as) (sl := sl) o2 (fun k a' s' g1 g2 => by
      obtain ⟨z1, z2, z3⟩ := hk (k + 1) a' s' (by simpa using g1) (by simpa using g2)
      exact ⟨here_len l2 z1, fun n e => by rw [m2]; exact z2 n e, fun n e => by rw [m2]; exact z3 n e⟩)
    exact ⟨q1, fun x => by rw [q2, m2], by rw [q3, l2]⟩

theorem asmF_ok {ats : List Atom} {g : Nat → Int} : ∀ {fs : List (Nat × Nat × Int)} {st : AS}, AS.ok st η → (∀ (k : Nat) (a : Atom), ats[k]? = some a → here st a ∧ mA st.sl η a = g k) →
    (∀ x y c, (x, y, c) ∈ fs → g x ≤ g y + c) → AS.ok (asmF st ats fs) η
  | [], st, h, _, _ => h
  | f :: fs, st, h, hk, hf => by
    simp only [asmF]
    split
    · rename_i a b h1 h2
      obtain ⟨a1, a2⟩ := hk _ _ h1
      obtain ⟨b1, b2⟩ := hk _ _ h2
      have hc := hf f.1 f.2.1 f.2.2 (by simp)
      obtain ⟨q1, q2, q3⟩ := asmLe_ok h (c := f.2.2) a1 b1 (by rw [a2, b2]; exact hc)
      exact asmF_ok q1 (fun k a' e => by obtain ⟨z1, z2⟩ := hk k a' e; exact ⟨here_len q3 z1, by rw [q2]; exact z2⟩) (fun x y c hm => hf x y c (List.mem_cons_of_mem _ hm))
    · exact asmF_ok h hk (fun x y c hm => hf x y c (List.mem_cons_of_mem _ hm))

theorem looks_some_len {η : List PV} {as : List Atom} {ps : List PV} (h : looks η as = some ps) : ps.length = as.length := looks_len h

theorem inst_ok (h : AS.ok st η) {as : List Atom} {n : Nat} {A st' : AS} {vs rs : List PV} (hl : looks η as = some vs) (hA : AS.ok A (vs ++ rs)) (e : inst st as n A = some st') : AS.ok st' (η ++ rs) ∧ rs.length = n := by
  unfold inst at e
  obtain ⟨hc, rfl⟩ := cond_some e
  rw [Bool.and_eq_true] at hc
  have hlen := Nat.eq_of_beq_eq_true hc.1
  have hvl := looks_len hl
  have hAl := hA.len
  rw [List.length_append] at hAl
  have hrn : rs.length = n := by omega
  refine ⟨?_, hrn⟩
  have hsame := sameS_ok h hc.2 hl
  -- the slots of the results
  have hget : ∀ (i : Nat) (s : Slot), (A.sl.drop as.length)[i]? = some s → A.sl[as.length + i]? = some s := fun i s q => by rw [List.getElem?_drop] at q; exact q
  have o1 : AS.ok ⟨st.sl ++ (A.sl.drop as.length).map Slot.clr, st.fs⟩ (η ++ rs) := by
    refine ⟨by simp [h.len]; omega, fun i s p g1 g2 => ?_, fun a b c hm => ?_⟩
    · rcases Nat.lt_or_ge i st.sl.length with q | q
      · rw [List.getElem?_append_left q] at g1
        rw [List.getElem?_append_left (by rw [h.len]; exact q)] at g2
        have k := h.slot i s p g1 g2
        exact ⟨k.t, k.lo, k.hi, Def.ok_pre (Pre.app _ _) k.df⟩
      · rw [List.getElem?_append_right q] at g1
        rw [List.getElem?_append_right (by rw [h.len]; exact q), h.len] at g2
        rw [List.getElem?_map] at g1
        cases hs : (A.sl.drop as.length)[i - st.sl.length]? with
        | none => rw [hs] at g1; cases g1
        | some s0 =>
          rw [hs] at g1
          cases g1
          have k := hA.slot (as.length + (i - st.sl.length)) s0 p (hget _ _ hs) (by rw [List.getElem?_append_right (by omega)]; rw [hvl]; rw [show as.length + (i - st.sl.length) - as.length = i - st.sl.length by omega]; exact g2)
          exact ⟨k.t, k.lo, k.hi, trivial⟩
    · obtain ⟨q1, q2, q3⟩ := h.fact a b c hm
      exact ⟨by simp; omega, by simp; omega, by rw [ms_app q1 h.len, ms_app q2 h.len]; exact q3⟩
  -- what they measure
  have m1 : ∀ (k : Nat) (a : Atom), as[k]? = some a → here ⟨st.sl ++ (A.sl.drop as.length).map Slot.clr, st.fs⟩ a ∧ mA (st.sl ++ (A.sl.drop as.length).map Slot.clr) (η ++ rs) a = ms A.sl (vs ++ rs) k := by
    intro k a hk
    obtain ⟨s, p, g1, g2, g3, g4⟩ := hsame k a hk
    have hr : ms A.sl (vs ++ rs) k = meas s.t p := by
      unfold ms
      rw [g1, List.getElem?_append_left (List.getElem?_eq_some_iff.1 g2).1, g2]
    rw [hr, ← g4]
    cases a with
    | v i =>
      have hi : i < st.sl.length := g3
      refine ⟨?_, ms_app hi h.len⟩
      show i < (st.sl ++ _).length
      rw [List.length_append]; omega
    | i m => exact ⟨trivial, rfl⟩
    | b m => exact ⟨trivial, rfl⟩
    | nil => exact ⟨trivial, rfl⟩
  have s1 := asmS_ok (as := as) (sl := A.sl) o1 (fun k a s g1 g2 => by
    obtain ⟨z1, z2⟩ := m1 k a g1
    refine ⟨z1, ?_⟩
    simp only
    rw [z2]
    obtain ⟨p, f1, f2, f3⟩ := hA.at g2
    rw [f3]
    exact ⟨f2.lo, f2.hi⟩)
  obtain ⟨o2, m2, l2⟩ := s1
  refine asmF_ok (g := ms A.sl (vs ++ rs)) o2 (fun k a hk => ?_) (fun x y c hm => (hA.fact x y c hm).2.2)
  rw [m2]
  rcases Nat.lt_or_ge k as.length with q | q
  · rw [List.getElem?_append_left q] at hk
    obtain ⟨z1, z2⟩ := m1 k a hk
    exact ⟨here_len l2 z1, z2⟩
  · rw [List.getElem?_append_right q] at hk
    obtain ⟨z1, rfl⟩ := vsFrom_get hk
    have hlt : st.sl.length + (k - as.length) < (st.sl ++ (A.sl.drop as.length).map Slot.clr).length := by simp; omega
    refine ⟨here_len l2 (show _ < _ from hlt), ?_⟩
    show ms _ _ _ = _
    unfold ms
    rw [List.getElem?_append_right (by omega), List.getElem?_append_right (by rw [h.len]; omega), h.len, List.getElem?_map, List.getElem?_drop, List.getElem?_append_right (by omega), hvl]
    rw [show st.sl.length + (k - as.length) - st.sl.length = k - as.length by omega, show as.length + (k - as.length) = k by omega]
    cases A.sl[k]? with
    | none => rfl
    | some s => cases rs[k - as.length]? <;> rfl
end
end Gm

/- Totality: a term, with a certificate, ends, and what it yields is as it is told. -/
namespace Gm
open Go

/-- a leaf: which alternative; some bools may be told apart before -/
inductive Lf where
  | at (n : Nat)
  | split (i : Nat) (a b : Lf)
  | no (i j : Nat) (c : Int)
  deriving Inhabited

inductive Cert where
  | leaf (l : Lf)
  | op (w : Nat) (ks : List Cert)
  | ite (a b : Cert)
  | seq (mids : List AS) (a : Cert) (bs : List Cert)
  | loop (inv : AS) (r : Nat) (up : Bool) (body : Cert)
  | absurd (i j : Nat) (c : Int)
  deriving Inhabited

/-- of each function: what it may be handed, and what it yields then -/
abbrev Sums := List (List (AS × List AS))

def SumOk (F : PF) (x : AS × List AS) : Prop := ∀ args, AS.ok x.1 args → ∃ rs, F args some = some rs ∧ ∃ A ∈ x.2, AS.ok A (args ++ rs)

def SumsOk (tb : List PF) (S : Sums) : Prop := ∀ (i : Nat) (l : List (AS × List AS)), S[i]? = some l → l = [] ∨ ∃ F, tb[i]? = some F ∧ ∀ x ∈ l, SumOk F x

def sh (g : Nat) : Atom → Atom
  | .v i => .v (i + g)
  | a => a

def gh (g : Nat) : List Atom := vsFrom 0 g

def bump (g i : Nat) : Nat := bif Nat.blt i g then i else i + 1

/-- a state of a loop, with what a slot was worth before as one more ghost -/
def inAS (inv : AS) (g r : Nat) (more : List (Nat × Nat × Int)) : AS :=
  ⟨inv.sl.take g ++ ⟨.int, loS inv.sl (g + r), hiS inv.sl (g + r), .none⟩ :: inv.sl.drop g, more ++ inv.fs.map fun f => (bump g f.1, bump g f.2.1, f.2.2)⟩

def allAlts (f : AS → Cert → Bool) : List AS → List Cert → Bool
  | [], _ => true
  | A :: As, c :: cs => f A c && allAlts f As cs
  | _, _ => false

def rankOk (inv : AS) (i : Nat) : Bool := match inv.sl[i]? with
  | some s => match s.t, s.lo, s.hi with
    | .int, some l, some h => Nat.blt (h - l).toNat 18446744073709551615
    | _, _, _ => false
  | none => false

def stepFact (g r : Nat) (up : Bool) : Nat × Nat × Int := bif up then (g, g + 1 + r, -1) else (g + 1 + r, g, -1)

def no (st : AS) (i j : Nat) (d : Int) : Bool := le st far i j d && le st far j i (-1 - d)

def bad (c : Cert) (st : AS) : Bool := match c with
  | .absurd i j d => no st i j d
  | _ => false

def leafOk (alts : List AS) (ats : List Atom) : Lf → AS → Bool
  | .at n, st => match alts[n]? with
    | some A => ent st ats A
    | none => false
  | .split i a b, st => isBool st (.v i) && (leafOk alts ats a (asmB st 3 (.v i) true) && leafOk alts ats b (asmB st 3 (.v i) false))
  | .no i j c, st => no st i j c

def chk (S : Sums) (g0 : Nat) (post : List AS) : T → Cert → Nat → AS → List (Nat × List AS) → Bool
  | .fail, c, _, st, _ => bad c st
  | .ret as, c, g, st, _ => match c with
    | .leaf l => leafOk post (gh g0 ++ as.map (sh g)) l st
    | c => bad c st
  | .jump l as, c, g, st, js => match c with
    | .leaf f => match js[l]? with
      | some x => leafOk x.2 (gh x.1 ++ as.map (sh g)) f st
      | none => false
    | c => bad c st
  | .op p as n k, c, g, st, js => match c with
    | .op w ks => match p with
      | .call i => match S[i]? with
        | some vs => match vs[w]? with
          | some x => ent st (as.map (sh g)) x.1 && allAlts (fun A c' => match inst st (as.map (sh g)) n A with
            | some st' => chk S g0 post k c' g st' js
            | none => false) x.2 ks
          | none => false
        | none => false
      | p => match ks, tr st w p (as.map (sh g)) with
        | [c'], some none => Nat.beq n 0 && chk S g0 post k c' g st js
        | [c'], some (some nw) => Nat.beq n 1 && chk S g0 post k c' g (push st nw) js
        | _, _ => false
    | c => bad c st
  | .ite c0 a b, c, g, st, js => match c with
    | .ite ca cb => isBool st (sh g c0) && (chk S g0 post a ca g (asmB st 3 (sh g c0) true) js && chk S g0 post b cb g (asmB st 3 (sh g c0) false) js)
    | c => bad c st
  | .seq a b, c, g, st, js => match c with
    | .seq mids ca cbs => chk S g0 post a ca g st ((g, mids) :: js) && allAlts (fun A c' => chk S g0 post b c' g A js) mids cbs
    | c => bad c st
  | .loop init body, c, g, st, js => match c with
    | .loop inv r up cb => ((ent st (gh g ++ init.map (sh g)) inv && rankOk inv (g + r)) &&
        (ent inv (gh g ++ (.v (g + r) :: vsFrom g init.length)) (inAS inv g r [(g, g + 1 + r, 0), (g + 1 + r, g, 0)]) &&
          ent (inAS inv g r [stepFact g r up]) (gh g ++ vsFrom (g + 1) init.length) inv)) &&
        chk S g0 post body cb (g + 1) (inAS inv g r [(g, g + 1 + r, 0), (g + 1 + r, g, 0)]) ((g + 1, [inAS inv g r [stepFact g r up]]) :: js)
    | c => bad c st

def Good (g0 : Nat) (post : List AS) (γ : List PV) (js : List (Nat × List AS)) : Out → Prop
  | .ret v => ∃ A ∈ post, AS.ok A (γ.take g0 ++ v)
  | .jump l v => ∃ x, js[l]? = some x ∧ ∃ A ∈ x.2, AS.ok A (γ.take x.1 ++ v)

theorem no_no {st : AS} {η : List PV} (h : AS.ok st η) {i j : Nat} {d : Int} : no st i j d = false := by
  cases hb : no st i j d with
  | false => rfl
  | true =>
    exfalso
    unfold no at hb
    rw [Bool.and_eq_true] at hb
    have h1 := le_ok h _ _ _ hb.1
    have h2 := le_ok h _ _ _ hb.2
    omega

theorem leafOk_ok {alts : List AS} {ats : List Atom} {η : List PV} : ∀ {l : Lf} {st : AS}, AS.ok st η → leafOk alts ats l st = true → ∃ v, looks η ats = some v ∧ ∃ A ∈ alts, AS.ok A v
  | .at n, st, h, e => by
    simp only [leafOk] at e
    split at e
    · rename_i A hA
      obtain ⟨v, h1, h2⟩ := ent_ok h e
      exact ⟨v, h1, A, List.mem_of_getElem? hA, h2⟩
    · cases e
  | .split i a b, st, h, e => by
    simp only [leafOk] at e
    rw [Bool.and_eq_true, Bool.and_eq_true] at e
    obtain ⟨x, h1, h2⟩ := isBool_ok h e.1
    have h3 := asmB_ok 3 _ x h h1 h2
    cases x with
    | true => exact leafOk_ok h3 e.2.1
    | false => exact leafOk_ok h3 e.2.2
  | .no i j d, st, h, e => by
    simp only [leafOk] at e
    rw [no_no h] at e
    cases e

theorem bad_no {st : AS} {η : List PV} (h : AS.ok st η) {c : Cert} : bad c st = false := by
  unfold bad
  split
  · exact no_no h
  · rfl

theorem allAlts_ok {f : AS → Cert → Bool} : ∀ {As : List AS} {cs : List Cert}, allAlts f As cs = true → ∀ A ∈ As, ∃ c, f A c = true
  | [], cs, _, A, h => by cases h
  | B :: As, [], e, A, h => by cases e
  | B :: As, c :: cs, e, A, h => by
    simp only [allAlts] at e
    rw [Bool.and_eq_true] at e
    rcases List.mem_cons.1 h with rfl | h
    · exact ⟨c, e.1⟩
    · exact allAlts_ok e.2 A h

theorem look_sh {γ η : List PV} (a : Atom) : look (γ ++ η) (sh γ.length a) = look η a := by
  cases a with
  | v i =>
    simp only [sh, look]
    rw [List.getElem?_append_right (by omega), Nat.add_sub_cancel]
  | _ => rfl

theorem looks_sh {γ η : List PV} : ∀ (as : List Atom), looks (γ ++ η) (as.map (sh γ.length)) = looks η as
  | [] => rfl
  | a :: as => by simp only [List.map_cons, looks, look_sh, looks_sh as]

theorem looks_append {η : List PV} : ∀ {as bs : List Atom} {v : List PV}, looks η (as ++ bs) = some v ↔ ∃ u w, looks η as = some u ∧ looks η bs = some w ∧ v = u ++ w
  | [], bs, v => by simp [looks]
  | a :: as, bs, v => by
    simp only [List.cons_append, looks]
    cases look η a with
    | none => simp
    | some p =>
      simp only
      constructor
      · intro h
        cases hx : looks η (as ++ bs) with
        | none => rw [hx] at h; cases h
        | some q =>
          rw [hx] at h
          obtain ⟨u, w, h1, h2, h3⟩ := looks_append.1 hx
          cases h
          exact ⟨p :: u, w, by rw [h1], h2, by rw [h3]; rfl⟩
      · rintro ⟨u, w, h1, h2, h3⟩
        cases hy : looks η as with
        | none => rw [hy] at h1; cases h1
        | some q =>
          rw [hy] at h1
          cases h1
          rw [looks_append.2 ⟨q, w, hy, h2, rfl⟩, h3]
          rfl

theorem looks_vs : ∀ (b a c : List PV), looks (a ++ (b ++ c)) (vsFrom a.length b.length) = some b
  | [], a, c => rfl
  | p :: b, a, c => by
    simp only [vsFrom, List.length_cons, looks, look]
    rw [List.getElem?_append_right (Nat.le_refl _)]
    simp only [Nat.sub_self, List.cons_append, List.getElem?_cons_zero]
    have h := looks_vs b (a ++ [p]) c
    rw [List.length_append, List.append_assoc] at h
    simp only [List.length_singleton, List.singleton_append] at h
    rw [h]

theorem looks_gh {γ η : List PV} {g : Nat} (h : g ≤ γ.length) : looks (γ ++ η) (gh g) = some (γ.take g) := by
  have k := looks_vs (γ.take g) [] (γ.drop g ++ η)
  rw [List.nil_append, ← List.append_assoc, List.take_append_drop, List.length_take, Nat.min_eq_left h] at k
  exact k

theorem step_ev2 {tb : List PF} {p : Prim} (h : ∀ i, p ≠ .call i) (vs : List PV) : step tb p vs = ev p vs := by
  cases p <;> first | rfl | exact absurd rfl (h _)

theorem chk_prim {S : Sums} {g0 : Nat} {post : List AS} {p : Prim} {as : List Atom} {n : Nat} {k : T} {w : Nat} {ks : List Cert} {g : Nat} {st : AS} {js : List (Nat × List AS)} (h : ∀ i, p ≠ .call i) :
    chk S g0 post (.op p as n k) (.op w ks) g st js = match ks, tr st w p (as.map (sh g)) with
        | [c'], some none => Nat.beq n 0 && chk S g0 post k c' g st js
        | [c'], some (some nw) => Nat.beq n 1 && chk S g0 post k c' g (push st nw) js
        | _, _ => false := by
  cases p <;> first | rfl | exact absurd rfl (h _)

end Gm

/- Totality: the check is sound. -/
namespace Gm
open Go

theorem iter_rank {f : List PV → Option Out} {P : List PV → Prop} {G : Out → Prop} (m : List PV → Nat)
    (hstep : ∀ v, P v → ∃ o, f v = some o ∧ match o with
      | .jump 0 v' => P v' ∧ m v' < m v
      | .jump (l + 1) v' => G (.jump l v')
      | .ret v' => G (.ret v')) : ∀ (n : Nat) v, P v → m v < n → ∃ o, iterO f n v = some o ∧ G o
  | 0, v, _, h => absurd h (Nat.not_lt_zero _)
  | n + 1, v, hp, h => by
    obtain ⟨o, h1, h2⟩ := hstep v hp
    simp only [iterO, h1]
    cases o with
    | ret v' => exact ⟨_, rfl, h2⟩
    | jump l v' =>
      cases l with
      | zero => exact iter_rank m hstep n v' h2.1 (by have := h2.2; omega)
      | succ l => exact ⟨_, rfl, h2⟩

theorem inAS_get {inv : AS} {g r i : Nat} {more : List (Nat × Nat × Int)} (hg : g ≤ inv.sl.length) (hi : g ≤ i) : (inAS inv g r more).sl[i + 1]? = inv.sl[i]? := by
  have hl : (inv.sl.take g).length = g := by rw [List.length_take]; omega
  unfold inAS
  rw [List.getElem?_append_right (by omega), hl, show i + 1 - g = (i - g) + 1 by omega, List.getElem?_cons_succ, List.getElem?_drop, show g + (i - g) = i by omega]

theorem inAS_get0 {inv : AS} {g r : Nat} {more : List (Nat × Nat × Int)} (hg : g ≤ inv.sl.length) : (inAS inv g r more).sl[g]? = some ⟨.int, loS inv.sl (g + r), hiS inv.sl (g + r), .none⟩ := by
  have hl : (inv.sl.take g).length = g := by rw [List.length_take]; omega
  unfold inAS
  rw [List.getElem?_append_right (by omega), hl, Nat.sub_self, List.getElem?_cons_zero]

theorem rankOk_ok {inv : AS} {η : List PV} (h : AS.ok inv η) {i : Nat} (e : rankOk inv i = true) :
    ∃ s x l u, inv.sl[i]? = some s ∧ s.t = .int ∧ η[i]? = some (.int x) ∧ s.lo = some l ∧ s.hi = some u ∧ l ≤ x ∧ x ≤ u ∧ (u - l).toNat < 18446744073709551615 ∧ ms inv.sl η i = x := by
  unfold rankOk at e
  split at e
  · rename_i s hs
    split at e
    · rename_i l u h1 h2 h3
      obtain ⟨p, g1, g2, g3⟩ := h.at hs
      have ht := g2.t
      rw [h1] at ht
      cases p with
      | int x =>
        have k1 := g2.lo l h2
        have k2 := g2.hi u h3
        rw [h1] at k1 k2 g3
        simp only [meas] at k1 k2 g3
        exact ⟨s, x, l, u, hs, h1, g1, h2, h3, k1, k2, blt_lt e, g3⟩
      | bool b => exact ht.elim
      | ints b => exact ht.elim
      | str b => exact ht.elim
    · cases e
  · cases e

theorem take_take' {γ : List PV} {a : Nat} {x : List PV} (h : a ≤ γ.length) : (γ ++ x).take a = γ.take a := by rw [List.take_append_of_le_length h]

theorem chk_ok {tb : List PF} {S : Sums} (hS : SumsOk tb S) {g0 : Nat} {post : List AS} : ∀ (t : T) (c : Cert) (g : Nat) (st : AS) (js : List (Nat × List AS)) (γ η : List PV),
    γ.length = g → g0 ≤ g → (∀ x ∈ js, x.1 ≤ g) → chk S g0 post t c g st js = true → AS.ok st (γ ++ η) → ∃ o, eval tb t η = some o ∧ Good g0 post γ js o
  | .fail, c, g, st, js, γ, η, hg, h0, hj, e, h => by
    simp only [chk] at e
    rw [bad_no h] at e
    cases e
  | .ret as, c, g, st, js, γ, η, hg, h0, hj, e, h => by
    simp only [chk] at e
    split at e
    · obtain ⟨v, h1, A, hA, h2⟩ := leafOk_ok h e
      obtain ⟨u, w, k1, k2, k3⟩ := looks_append.1 h1
      rw [← hg, looks_sh] at k2
      rw [looks_gh (by omega)] at k1
      cases k1
      refine ⟨.ret w, by simp only [eval, k2], A, hA, ?_⟩
      rw [← k3]; exact h2
    · rw [bad_no h] at e; cases e
  | .jump l as, c, g, st, js, γ, η, hg, h0, hj, e, h => by
    simp only [chk] at e
    split at e
    · split at e
      · rename_i x hx
        obtain ⟨v, h1, A, hA, h2⟩ := leafOk_ok h e
        obtain ⟨u, w, k1, k2, k3⟩ := looks_append.1 h1
        rw [← hg, looks_sh] at k2
        rw [looks_gh (by rw [hg]; exact hj x (List.mem_of_getElem? hx))] at k1
        cases k1
        refine ⟨.jump l w, by simp only [eval, k2], x, hx, A, hA, ?_⟩
        rw [← k3]; exact h2
      · cases e
    · rw [bad_no h] at e; cases e
  | .op p as n k, c, g, st, js, γ, η, hg, h0, hj, e, h => by
    by_cases hc : ∃ w ks, c = .op w ks
    · obtain ⟨w, ks, rfl⟩ := hc
      by_cases hp : ∃ i, p = .call i
      · obtain ⟨i, rfl⟩ := hp
        simp only [chk] at e
        split at e
        · rename_i vs hvs
          split at e
          · rename_i x hx
            rw [Bool.and_eq_true] at e
            obtain ⟨v, h1, h2⟩ := ent_ok h e.1
            have h1' := h1
            rw [← hg, looks_sh] at h1'
            rcases hS i vs hvs with rfl | ⟨F, hF, hF2⟩
            · simp at hx
            · obtain ⟨rs, h3, A, h4, h5⟩ := hF2 x (List.mem_of_getElem? hx) v h2
              obtain ⟨c', h6⟩ := allAlts_ok e.2 A h4
              split at h6
              · rename_i st' hst
                obtain ⟨h7, h8⟩ := inst_ok h h1 h5 hst
                rw [List.append_assoc] at h7
                obtain ⟨o, h9, h10⟩ := chk_ok hS k c' g st' js γ (η ++ rs) hg h0 hj h6 h7
                refine ⟨o, ?_, h10⟩
                simp only [eval, h1', step, hF, h3]
                rw [if_pos h8]
                exact h9
              · cases h6
          · cases e
        · cases e
      · have hp' : ∀ i, p ≠ .call i := fun i q => hp ⟨i, q⟩
        rw [chk_prim hp'] at e
        split at e
        · rename_i c' htr
          rw [Bool.and_eq_true] at e
          obtain ⟨vs, rs, h1, h2, h3⟩ := tr_ok h htr
          rw [← hg, looks_sh] at h1
          have h3' : rs = [] := h3
          subst h3'
          obtain ⟨o, h9, h10⟩ := chk_ok hS k c' g st js γ η hg h0 hj e.2 h
          refine ⟨o, ?_, h10⟩
          simp only [eval, h1, step_ev2 hp', h2]
          rw [if_pos (by have := Nat.eq_of_beq_eq_true e.1; subst this; rfl), List.append_nil]
          exact h9
        · rename_i c' nw htr
          rw [Bool.and_eq_true] at e
          obtain ⟨vs, rs, h1, h2, h3⟩ := tr_ok h htr
          rw [← hg, looks_sh] at h1
          obtain ⟨q, rfl, h4⟩ : ∃ q, rs = [q] ∧ nw.ok st (γ ++ η) q := h3
          have h5 := AS.push h h4
          rw [List.append_assoc] at h5
          obtain ⟨o, h9, h10⟩ := chk_ok hS k c' g _ js γ (η ++ [q]) hg h0 hj e.2 h5
          refine ⟨o, ?_, h10⟩
          simp only [eval, h1, step_ev2 hp', h2]
          rw [if_pos (by have := Nat.eq_of_beq_eq_true e.1; subst this; rfl)]
          exact h9
        · cases e
    · exfalso
      have : chk S g0 post (.op p as n k) c g st js = bad c st := by
        cases c with
        | op w ks => exact absurd ⟨w, ks, rfl⟩ hc
        | _ => rfl
      rw [this, bad_no h] at e
      cases e
  | .ite c0 a b, c, g, st, js, γ, η, hg, h0, hj, e, h => by
    simp only [chk] at e
    split at e
    · rename_i ca cb
      rw [Bool.and_eq_true, Bool.and_eq_true] at e
      obtain ⟨x, h1, h2⟩ := isBool_ok h e.1
      have h1' := h1
      rw [← hg, look_sh] at h1'
      have h3 := asmB_ok 3 _ x h h1 h2
      cases x with
      | true =>
        obtain ⟨o, h9, h10⟩ := chk_ok hS a ca g _ js γ η hg h0 hj e.2.1 h3
        exact ⟨o, by simp only [eval, h1', cond_true]; exact h9, h10⟩
      | false =>
        obtain ⟨o, h9, h10⟩ := chk_ok hS b cb g _ js γ η hg h0 hj e.2.2 h3
        exact ⟨o, by simp only [eval, h1', cond_false]; exact h9, h10⟩
    · rw [bad_no h] at e; cases e
  | .seq a b, c, g, st, js, γ, η, hg, h0, hj, e, h => by
    simp only [chk] at e
    split at e
    · rename_i mids ca cbs
      rw [Bool.and_eq_true] at e
      obtain ⟨o, h1, h2⟩ := chk_ok hS a ca g st ((g, mids) :: js) γ η hg h0 (fun x hx => by
        rcases List.mem_cons.1 hx with rfl | hx
        · exact Nat.le_refl _
        · exact hj x hx) e.1 h
      cases o with
      | ret v => exact ⟨.ret v, by simp only [eval, h1], h2⟩
      | jump l v =>
        cases l with
        | zero =>
          obtain ⟨x, k1, A, k2, k3⟩ := h2
          simp only [List.getElem?_cons_zero, Option.some.injEq] at k1
          subst k1
          obtain ⟨c', h6⟩ := allAlts_ok e.2 A k2
          simp only [← hg, List.take_length] at k3
          obtain ⟨o, h9, h10⟩ := chk_ok hS b c' g A js γ v hg h0 hj h6 k3
          exact ⟨o, by simp only [eval, h1]; exact h9, h10⟩
        | succ l =>
          obtain ⟨x, k1, A, k2, k3⟩ := h2
          rw [List.getElem?_cons_succ] at k1
          exact ⟨.jump l v, by simp only [eval, h1], x, k1, A, k2, k3⟩
    · rw [bad_no h] at e; cases e
  | .loop init body, c, g, st, js, γ, η, hg, h0, hj, e, h => by
    simp only [chk] at e
    split at e
    · rename_i inv r up cb
      simp only [Bool.and_eq_true] at e
      obtain ⟨⟨⟨e1, e2⟩, e3, e4⟩, e5⟩ := e
      obtain ⟨v0, q1, q2⟩ := ent_ok h e1
      obtain ⟨u, w, k1, k2, k3⟩ := looks_append.1 q1
      rw [← hg, looks_sh] at k2
      rw [looks_gh (by omega), ← hg, List.take_length] at k1
      cases k1
      subst k3
      have hwl : w.length = init.length := looks_len k2
      have hil : inv.sl.length = g + init.length := by rw [← q2.len, List.length_append, hg, hwl]
      -- the measure
      have key := rankOk_ok q2 e2
      obtain ⟨s, _, lo, hi, s1, s2, _, s4, s5, _, _, s8, _⟩ := key
      have hrun := iter_rank (f := eval tb body) (P := fun v => AS.ok inv (γ ++ v)) (G := Good g0 post γ js)
        (fun v => bif up then (hi - ms inv.sl (γ ++ v) (g + r)).toNat else (ms inv.sl (γ ++ v) (g + r) - lo).toNat) (fun v hv => by
          have hvl : v.length = init.length := by have := hv.len; rw [List.length_append, hg, hil] at this; omega
          obtain ⟨s', x, lo', hi', t1, t2, t3, t4, t5, t6, t7, t8, t9⟩ := rankOk_ok hv e2
          rw [s1] at t1; cases t1
          rw [s4] at t4; cases t4
          rw [s5] at t5; cases t5
          obtain ⟨u', p1, p2⟩ := ent_ok hv e3
          obtain ⟨u1, w1, p3, p4, p5⟩ := looks_append.1 p1
          rw [looks_gh (by omega), ← hg, List.take_length] at p3
          cases p3
          have p6 : look (γ ++ v) (.v (γ.length + r)) = some (.int x) := by rw [hg]; exact t3
          have p7 : looks (γ ++ v) (vsFrom γ.length init.length) = some v := by
            have := looks_vs v γ []
            rw [List.append_nil, hvl] at this
            exact this
          rw [← hg] at p4
          simp only [looks, p6, p7] at p4
          cases p4
          subst p5
          have p2' : AS.ok (inAS inv g r [(g, g + 1 + r, 0), (g + 1 + r, g, 0)]) ((γ ++ [.int x]) ++ v) := by rw [List.append_assoc]; exact p2
          obtain ⟨o, h9, h10⟩ := chk_ok hS body cb (g + 1) _ _ (γ ++ [.int x]) v (by simp [hg]) (by omega) (fun y hy => by
            rcases List.mem_cons.1 hy with rfl | hy
            · exact Nat.le_refl _
            · have := hj y hy; omega) e5 p2'
          refine ⟨o, h9, ?_⟩
          cases o with
          | ret v' =>
            obtain ⟨A, z1, z2⟩ := h10
            exact ⟨A, z1, by rw [take_take' (by omega)] at z2; exact z2⟩
          | jump l v' =>
            cases l with
            | succ l =>
              obtain ⟨y, z1, A, z2, z3⟩ := h10
              rw [List.getElem?_cons_succ] at z1
              exact ⟨y, z1, A, z2, by rw [take_take' (by rw [hg]; exact hj y (List.mem_of_getElem? z1))] at z3; exact z3⟩
            | zero =>
              obtain ⟨y, z1, A, z2, z3⟩ := h10
              simp only [List.getElem?_cons_zero, Option.some.injEq] at z1
              subst z1
              simp only [List.mem_singleton] at z2
              subst z2
              have z4 : (γ ++ [PV.int x]).take (g + 1) = γ ++ [.int x] := List.take_of_length_le (by simp [hg])
              rw [z4] at z3
              have hv'l : v'.length = init.length := by
                have := z3.len
                have hl2 : (inAS inv g r [stepFact g r up]).sl.length = inv.sl.length + 1 := by unfold inAS; simp; omega
                rw [hl2, List.length_append, List.length_append, hg, hil] at this
                simp at this; omega
              obtain ⟨u', p1, p2⟩ := ent_ok z3 e4
              obtain ⟨u1, w1, p3, p4, p5⟩ := looks_append.1 p1
              rw [List.append_assoc, looks_gh (by omega), ← hg, List.take_length] at p3
              cases p3
              have p7 : looks (γ ++ [PV.int x] ++ v') (vsFrom (γ.length + 1) init.length) = some v' := by
                have := looks_vs v' (γ ++ [PV.int x]) []
                rw [List.append_nil, hv'l, List.length_append, List.length_singleton] at this
                exact this
              rw [← hg, p7] at p4
              cases p4
              subst p5
              refine ⟨p2, ?_⟩
              -- the rank
              have m1 : ms (inAS inv g r [stepFact g r up]).sl (γ ++ [PV.int x] ++ v') g = x := by
                unfold ms
                rw [inAS_get0 (by omega), List.append_assoc, List.getElem?_append_right (by omega), hg, Nat.sub_self]
                rfl
              have m2 : ms (inAS inv g r [stepFact g r up]).sl (γ ++ [PV.int x] ++ v') (g + 1 + r) = ms inv.sl (γ ++ v') (g + r) := by
                unfold ms
                rw [show g + 1 + r = g + r + 1 by omega, inAS_get (by omega) (by omega), List.getElem?_append_right (by simp; omega), List.getElem?_append_right (show γ.length ≤ g + r by omega)]
                rw [List.length_append, List.length_singleton, hg, show g + r + 1 - (g + 1) = g + r - g by omega]
              obtain ⟨s', x', lo', hi', y1, y2, y3, y4, y5, y6, y7, y8, y9⟩ := rankOk_ok p2 e2
              rw [s1] at y1; cases y1
              rw [s4] at y4; cases y4
              rw [s5] at y5; cases y5
              rw [t9, y9]
              cases up with
              | true =>
                have f := (z3.fact g (g + 1 + r) (-1) (by unfold inAS; simp [stepFact])).2.2
                rw [m1, m2, y9] at f
                simp only [cond_true]
                omega
              | false =>
                have f := (z3.fact (g + 1 + r) g (-1) (by unfold inAS; simp [stepFact])).2.2
                rw [m1, m2, y9] at f
                simp only [cond_false]
                omega) big w q2 (by
          obtain ⟨s', x, lo', hi', t1, t2, t3, t4, t5, t6, t7, t8, t9⟩ := rankOk_ok q2 e2
          rw [s1] at t1; cases t1
          rw [s4] at t4; cases t4
          rw [s5] at t5; cases t5
          rw [t9]
          unfold big
          cases up <;> simp only [cond_true, cond_false] <;> omega)
      obtain ⟨o, r1, r2⟩ := hrun
      exact ⟨o, by simp only [eval, k2]; exact r1, r2⟩
    · rw [bad_no h] at e; cases e

/-- the state at a function's begin: what it is handed stands there twice -/
def dbl (A : AS) : AS :=
  let n := A.sl.length
  ⟨A.sl ++ A.sl, A.fs ++ (A.fs.map (fun f => (f.1 + n, f.2.1 + n, f.2.2)) ++ ((List.range n).map (fun i => (i, i + n, (0 : Int))) ++ (List.range n).map (fun i => (i + n, i, (0 : Int)))))⟩

/-- does a term, handed what it may be handed, yield what is told? -/
def total (S : Sums) (pre : AS) (post : List AS) (t : T) (c : Cert) : Bool :=
  ent pre (gh pre.sl.length ++ gh pre.sl.length) (dbl pre) && chk S pre.sl.length post t c pre.sl.length (dbl pre) []

theorem total_ok {tb : List PF} (hl : ∀ F ∈ tb, Lawful F) {S : Sums} (hS : SumsOk tb S) {pre : AS} {post : List AS} {t : T} {c : Cert} (e : total S pre post t c = true) : SumOk (t.fn tb) (pre, post) := by
  intro args h
  have hn : args.length = pre.sl.length := h.len
  unfold total at e
  rw [Bool.and_eq_true] at e
  obtain ⟨v, h1, h2⟩ := ent_ok h e.1
  obtain ⟨u, w, k1, k2, k3⟩ := looks_append.1 h1
  have k4 : looks args (gh pre.sl.length) = some args := by
    have := looks_gh (γ := args) (η := []) (g := pre.sl.length) (by omega)
    rw [List.append_nil, ← hn, List.take_length] at this
    rw [← hn]; exact this
  rw [k4] at k1 k2
  cases k1; cases k2
  subst k3
  obtain ⟨o, h3, h4⟩ := chk_ok hS t c pre.sl.length (dbl pre) [] args args hn (Nat.le_refl _) (fun x hx => by cases hx) e.2 h2
  cases o with
  | jump l v =>
    obtain ⟨x, q, _⟩ := h4
    simp at q
  | ret rs =>
    obtain ⟨A, q1, q2⟩ := h4
    refine ⟨rs, ?_, A, q1, ?_⟩
    · unfold T.fn
      rw [evalK_eq hl, h3]
      rfl
    · rw [← hn, List.take_length] at q2
      exact q2
end Gm

/- Totality: short names for printed certificates; entries one by one. -/
namespace Gm
open Go

/-- a number with both bounds, with none, with one of them -/
def I (l h : Int) : Slot := ⟨.int, some l, some h, .none⟩
def J : Slot := ⟨.int, none, none, .none⟩
def K (l : Int) : Slot := ⟨.int, some l, none, .none⟩
def H (h : Int) : Slot := ⟨.int, none, some h, .none⟩
def U : Slot := I 0 18446744073709551615
def Z : Slot := I (-9223372036854775808) 9223372036854775807
def B (l h : Int) : Slot := ⟨.bool, some l, some h, .none⟩
def B0 : Slot := ⟨.bool, none, none, .none⟩
def N (w : Nat) (lo hi : Int) (l h : Option Int) : Slot := ⟨.ints w lo hi, l, h, .none⟩
def Y (l h : Option Int) : Slot := ⟨.ints 1 0 18446744073709551615, l, h, .none⟩

theorem Ents.nil {P : Program} {gl : Nat → Option (CK × List Int)} : Ents P gl [] [] := by
  intro j e h; simp at h

theorem Ents.snoc {P : Program} {gl : Nat → Option (CK × List Int)} {es es' : List Ent} {tb tb' : List PF} {e : Ent} {F : PF} (h : Ents P gl es tb) (hl : tb.length = es.length) (hF : Contract P gl e.f e.sg F)
    (h1 : es' = es ++ [e]) (h2 : tb' = tb ++ [F]) : Ents P gl es' tb' := by
  subst h1; subst h2
  intro j x hx
  rcases Nat.lt_or_ge j es.length with q | q
  · rw [List.getElem?_append_left q] at hx
    obtain ⟨G, h3, h4⟩ := h j x hx
    exact ⟨G, by rw [List.getElem?_append_left (by omega)]; exact h3, h4⟩
  · rw [List.getElem?_append_right q] at hx
    have hj : j = es.length := by
      have := (List.getElem?_eq_some_iff.1 hx).1
      simp at this; omega
    subst hj
    simp at hx
    subst hx
    exact ⟨F, by rw [← hl]; simp, hF⟩

theorem lawful_snoc {tb tb' : List PF} {F : PF} (h : ∀ G ∈ tb, Lawful G) (hF : Lawful F) (h2 : tb' = tb ++ [F]) : ∀ G ∈ tb', Lawful G := by
  subst h2
  intro G hG
  rcases List.mem_append.1 hG with hG | hG
  · exact h G hG
  · rw [List.mem_singleton.1 hG]; exact hF

theorem SumsOk.nil {tb : List PF} : SumsOk tb [] := by
  intro i l h; simp at h

theorem SumsOk.snoc {tb tb' : List PF} {S S' : Sums} {F : PF} {l : List (AS × List AS)} (h : SumsOk tb S) (hl : tb.length = S.length) (hF : ∀ x ∈ l, SumOk F x) (h1 : S' = S ++ [l]) (h2 : tb' = tb ++ [F]) : SumsOk tb' S' := by
  subst h1; subst h2
  intro i m hm
  rcases Nat.lt_or_ge i S.length with q | q
  · rw [List.getElem?_append_left q] at hm
    rcases h i m hm with h3 | ⟨G, h3, h4⟩
    · exact .inl h3
    · exact .inr ⟨G, by rw [List.getElem?_append_left (by omega)]; exact h3, h4⟩
  · rw [List.getElem?_append_right q] at hm
    have hj : i = S.length := by
      have := (List.getElem?_eq_some_iff.1 hm).1
      simp at this; omega
    subst hj
    simp at hm
    subst hm
    exact .inr ⟨F, by rw [← hl]; simp, hF⟩

theorem all_nil {F : PF} : ∀ x ∈ ([] : List (AS × List AS)), SumOk F x := fun _ h => (by cases h)
theorem all_cons {F : PF} {x : AS × List AS} {l : List (AS × List AS)} (h : SumOk F x) (hl : ∀ x ∈ l, SumOk F x) : ∀ y ∈ x :: l, SumOk F y := fun y hy => by
  rcases List.mem_cons.1 hy with rfl | hy
  · exact h
  · exact hl y hy

theorem none_GL {w : Ctx} : GL (fun _ => none) w := by
  intro g ck l h; cases h

end Gm

/- Totality: a matrix's places, where a product is looked at: by hand. -/
namespace Gm
open Go

def tIn : T := .seq (.op (.cmp .geq) [.v 4, .i 0] 1 (.ite (.v 6) (.op (.cmp .lss) [.v 4, .v 0] 1 (.ite (.v 7) (.op (.cmp .geq) [.v 5, .i 0] 1 (.ite (.v 8) (.op (.cmp .lss) [.v 5, .v 1] 1 (.ite (.v 9) (.op (.cmp .geq) [.v 2, .i 0] 1 (.ite (.v 10) (.op (.bin .mul .i64) [.v 4, .v 2] 1 (.op (.bin .add .i64) [.v 11, .v 5] 1 (.op (.len 1) [.v 3] 1 (.op (.cmp .lss) [.v 12, .v 13] 1 (.jump 0 [.v 14]))))) (.jump 0 [.b false]))) (.jump 0 [.b false]))) (.jump 0 [.b false]))) (.jump 0 [.b false]))) (.jump 0 [.b false]))) (.ret [.v 0])
def tAt (n : Nat) : T := .op (.call n) [.v 0, .v 1, .v 2, .v 3, .v 4, .v 5] 1 (.op .bnot [.v 6] 1 (.ite (.v 7) (.ret [.i 9221120237041090560]) (.op (.bin .mul .i64) [.v 4, .v 2] 1 (.op (.bin .add .i64) [.v 8, .v 5] 1 (.op (.chk 1) [.v 3, .v 9] 0 (.op (.get 1 0) [.v 3, .v 9] 1 (.ret [.v 10])))))))
def tSet (n : Nat) : T := .op (.call n) [.v 0, .v 1, .v 2, .v 3, .v 4, .v 5] 1 (.seq (.ite (.v 7) (.op (.bin .mul .i64) [.v 4, .v 2] 1 (.op (.bin .add .i64) [.v 8, .v 5] 1 (.op (.chk 1) [.v 3, .v 9] 0 (.op (.set 1 0) [.v 3, .v 9, .v 6] 1 (.jump 0 [.v 10]))))) (.jump 0 [.v 3])) (.ret [.v 0]))

def matP : AS := ⟨[I 0 4096, I 0 4096, I 0 1099511627776, Y (some 0) (some 1099511627776), Z, Z], []⟩
def atQ : AS := ⟨[J, J, J, Y none none, J, J, U], []⟩
def setP : AS := ⟨[I 0 4096, I 0 4096, I 0 1099511627776, Y (some 0) (some 1099511627776), Z, Z, U], []⟩
def setQ : AS := ⟨[J, J, J, Y none none, J, J, J, Y none none], [(3, 7, 0), (7, 3, 0)]⟩

/-- the place that is meant -/
def place (s i j : Int) : Int := IntKind.i64.wrap (IntKind.i64.wrap (i * s) + j)

def inQ (r c s n i j : Int) : Bool :=
  bif decide (i ≥ 0) then bif decide (i < r) then bif decide (j ≥ 0) then bif decide (j < c) then bif decide (s ≥ 0) then decide (place s i j < n) else false else false else false else false else false

theorem in_eq (tb : List PF) (r c s i j : Int) (d : List Int) (k : KF) :
    tIn.fn tb [.int r, .int c, .int s, .ints d, .int i, .int j] k = k [.bool (inQ r c s d.length i j)] := by
  unfold T.fn tIn inQ place
  simp only [evalK, looks, look, stepK, ev, cmpInt, binInt, List.getElem?_cons_zero, List.getElem?_cons_succ, List.cons_append, List.nil_append, List.length_cons, List.length_nil, Nat.reduceAdd, if_true]
  cases decide (i ≥ 0) with
  | false => rfl
  | true =>
    cases decide (i < r) with
    | false => rfl
    | true =>
      cases decide (j ≥ 0) with
      | false => rfl
      | true =>
        cases decide (j < c) with
        | false => rfl
        | true =>
          cases decide (s ≥ 0) with
          | false => rfl
          | true => simp [Nat.div_one]

theorem inQ_true {r c s n i j : Int} (h : inQ r c s n i j = true) : 0 ≤ i ∧ i < r ∧ 0 ≤ j ∧ j < c ∧ 0 ≤ s ∧ place s i j < n := by
  unfold inQ at h
  simp only [cond_eq_ite, decide_eq_true_eq] at h
  split at h <;> try (cases h)
  split at h <;> try (cases h)
  split at h <;> try (cases h)
  split at h <;> try (cases h)
  split at h <;> try (cases h)
  simp at h
  omega

theorem place_ok {r c s n i j : Int} (hr : r ≤ 4096) (hc : c ≤ 4096) (hs : s ≤ 1099511627776) (h : inQ r c s n i j = true) : 0 ≤ place s i j ∧ place s i j < n := by
  obtain ⟨h1, h2, h3, h4, h5, h6⟩ := inQ_true h
  refine ⟨?_, h6⟩
  have h7 : 0 ≤ i * s := Int.mul_nonneg h1 h5
  have h8 : i * s ≤ 4096 * 1099511627776 := Int.mul_le_mul (by omega) hs h5 (by omega)
  unfold place
  rw [wrap_in (k := .i64) (n := i * s) (by simp [IntKind.min, IntKind.bits, IntKind.signed]; omega) (by simp [IntKind.max, IntKind.bits, IntKind.signed]; omega)]
  rw [wrap_in (k := .i64) (by simp [IntKind.min, IntKind.bits, IntKind.signed]; omega) (by simp [IntKind.max, IntKind.bits, IntKind.signed]; omega)]
  omega

structure MatArgs (r c s : Int) (d : List Int) : Prop where
  r : r ≤ 4096
  c : c ≤ 4096
  s : s ≤ 1099511627776
  d : ∀ x ∈ d, 0 ≤ x ∧ x ≤ 18446744073709551615

theorem int_of {p : PV} (h : AT.ok .int p) : ∃ x, p = .int x := by
  cases p with
  | int n => exact ⟨n, rfl⟩
  | bool b => exact h.elim
  | ints l => exact h.elim
  | str b => exact h.elim

theorem ints_of {p : PV} {w : Nat} {lo hi : Int} (h : AT.ok (.ints w lo hi) p) : ∃ l, p = .ints l ∧ ∀ x ∈ l, lo ≤ x ∧ x ≤ hi := by
  cases p with
  | int n => exact h.elim
  | bool b => exact h.elim
  | ints l => exact ⟨l, rfl, h.2.2⟩
  | str b => exact h.elim

theorem six {η : List PV} (h : η.length = 6) : ∃ a b c d e f, η = [a, b, c, d, e, f] := by
  match η, h with
  | [a, b, c, d, e, f], _ => exact ⟨a, b, c, d, e, f, rfl⟩

theorem seven {η : List PV} (h : η.length = 7) : ∃ a b c d e f g, η = [a, b, c, d, e, f, g] := by
  match η, h with
  | [a, b, c, d, e, f, g], _ => exact ⟨a, b, c, d, e, f, g, rfl⟩

theorem slot_int {l h : Int} {η : List PV} {p : PV} (k : Slot.ok η (I l h) p) : ∃ x, p = .int x ∧ l ≤ x ∧ x ≤ h := by
  obtain ⟨x, rfl⟩ := int_of k.t
  exact ⟨x, rfl, k.lo l rfl, k.hi h rfl⟩

theorem slot_list {l h : Option Int} {η : List PV} {p : PV} (k : Slot.ok η (Y l h) p) : ∃ x, p = .ints x ∧ ∀ z ∈ x, 0 ≤ z ∧ z ≤ 18446744073709551615 := ints_of k.t

theorem mat_args {η : List PV} (h : AS.ok matP η) : ∃ r c s d i j, η = [.int r, .int c, .int s, .ints d, .int i, .int j] ∧ MatArgs r c s d := by
  obtain ⟨a, b, c, d, e, f, rfl⟩ := six (by rw [h.len]; rfl)
  obtain ⟨r, rfl, r1, r2⟩ := slot_int (h.slot 0 _ a rfl rfl)
  obtain ⟨c, rfl, c1, c2⟩ := slot_int (h.slot 1 _ b rfl rfl)
  obtain ⟨s, rfl, s1, s2⟩ := slot_int (h.slot 2 _ _ rfl rfl)
  obtain ⟨l, rfl, l1⟩ := slot_list (h.slot 3 _ _ rfl rfl)
  obtain ⟨i, rfl, i1, i2⟩ := slot_int (h.slot 4 _ _ rfl rfl)
  obtain ⟨j, rfl, j1, j2⟩ := slot_int (h.slot 5 _ _ rfl rfl)
  exact ⟨r, c, s, l, i, j, rfl, r2, c2, s2, l1⟩

theorem set_args {η : List PV} (h : AS.ok setP η) : ∃ r c s d i j v, η = [.int r, .int c, .int s, .ints d, .int i, .int j, .int v] ∧ MatArgs r c s d ∧ 0 ≤ v ∧ v ≤ 18446744073709551615 := by
  obtain ⟨a, b, c, d, e, f, g, rfl⟩ := seven (by rw [h.len]; rfl)
  obtain ⟨r, rfl, r1, r2⟩ := slot_int (h.slot 0 _ a rfl rfl)
  obtain ⟨c, rfl, c1, c2⟩ := slot_int (h.slot 1 _ b rfl rfl)
  obtain ⟨s, rfl, s1, s2⟩ := slot_int (h.slot 2 _ _ rfl rfl)
  obtain ⟨l, rfl, l1⟩ := slot_list (h.slot 3 _ _ rfl rfl)
  obtain ⟨i, rfl, i1, i2⟩ := slot_int (h.slot 4 _ _ rfl rfl)
  obtain ⟨j, rfl, j1, j2⟩ := slot_int (h.slot 5 _ _ rfl rfl)
  obtain ⟨v, rfl, v1, v2⟩ := slot_int (h.slot 6 _ _ rfl rfl)
  exact ⟨r, c, s, l, i, j, v, rfl, ⟨r2, c2, s2, l1⟩, v1, v2⟩

/-- what stands at a place -/
def atV (r c s : Int) (d : List Int) (i j : Int) : Int :=
  bif inQ r c s d.length i j then (d[(place s i j).toNat]?).getD 0 else 9221120237041090560

def setV (r c s : Int) (d : List Int) (i j v : Int) : List Int :=
  bif inQ r c s d.length i j then d.set (place s i j).toNat v else d

theorem at_eq {tb tb' : List PF} {n : Nat} (hn : tb[n]? = some (tIn.fn tb')) {r c s i j : Int} {d : List Int} (M : MatArgs r c s d) (k : KF) :
    (tAt n).fn tb [.int r, .int c, .int s, .ints d, .int i, .int j] k = k [.int (atV r c s d i j)] := by
  unfold T.fn tAt atV
  simp only [evalK, looks, look, stepK, hn, in_eq, ev, binInt, List.getElem?_cons_zero, List.getElem?_cons_succ, List.cons_append, List.nil_append, List.length_cons, List.length_nil, Nat.reduceAdd, if_true]
  cases hq : inQ r c s d.length i j with
  | false => rfl
  | true =>
    obtain ⟨p1, p2⟩ := place_ok M.r M.c M.s hq
    have p3 : (place s i j).toNat < d.length := by omega
    simp only [Bool.not_true, cond_false, cond_true, Nat.div_one]
    have q1 : 0 ≤ IntKind.i64.wrap (IntKind.i64.wrap (i * s) + j) ∧ IntKind.i64.wrap (IntKind.i64.wrap (i * s) + j) < ((d.length : Nat) : Int) := ⟨p1, p2⟩
    rw [if_pos q1]
    simp only [List.length_nil, if_true]
    rw [if_pos q1.1, Nat.mul_one, Nat.add_zero]
    change (match (match d[(place s i j).toNat]? with | some x => some [PV.int x] | none => none) with | some rs => _ | none => none) = _
    rw [List.getElem?_eq_getElem p3]
    rfl

theorem set_eq {tb tb' : List PF} {n : Nat} (hn : tb[n]? = some (tIn.fn tb')) {r c s i j v : Int} {d : List Int} (M : MatArgs r c s d) (k : KF) :
    (tSet n).fn tb [.int r, .int c, .int s, .ints d, .int i, .int j, .int v] k = k [.ints (setV r c s d i j v)] := by
  unfold T.fn tSet setV
  simp only [evalK, looks, look, stepK, hn, in_eq, ev, binInt, List.getElem?_cons_zero, List.getElem?_cons_succ, List.cons_append, List.nil_append, List.length_cons, List.length_nil, Nat.reduceAdd, if_true]
  cases hq : inQ r c s d.length i j with
  | false => rfl
  | true =>
    obtain ⟨p1, p2⟩ := place_ok M.r M.c M.s hq
    have p3 : (place s i j).toNat < d.length := by omega
    simp only [cond_true, Nat.div_one]
    have q1 : 0 ≤ IntKind.i64.wrap (IntKind.i64.wrap (i * s) + j) ∧ IntKind.i64.wrap (IntKind.i64.wrap (i * s) + j) < ((d.length : Nat) : Int) := ⟨p1, p2⟩
    have q2 : 0 ≤ IntKind.i64.wrap (IntKind.i64.wrap (i * s) + j) ∧ (IntKind.i64.wrap (IntKind.i64.wrap (i * s) + j)).toNat * 1 + 0 < d.length := ⟨p1, by rw [Nat.mul_one, Nat.add_zero]; exact p3⟩
    rw [if_pos q1]
    simp only [List.length_nil, if_true]
    rw [if_pos q2, Nat.mul_one, Nat.add_zero]
    rfl

theorem atV_in {r c s i j : Int} {d : List Int} (M : MatArgs r c s d) : 0 ≤ atV r c s d i j ∧ atV r c s d i j ≤ 18446744073709551615 := by
  unfold atV
  cases hq : inQ r c s d.length i j with
  | false => simp only [cond_false]; omega
  | true =>
    obtain ⟨p1, p2⟩ := place_ok M.r M.c M.s hq
    have p3 : (place s i j).toNat < d.length := by omega
    simp only [cond_true]
    rw [List.getElem?_eq_getElem p3]
    exact M.d _ (List.getElem_mem p3)

theorem setV_len {r c s i j v : Int} {d : List Int} : (setV r c s d i j v).length = d.length := by
  unfold setV
  cases inQ r c s d.length i j <;> simp

theorem setV_in {r c s i j v : Int} {d : List Int} (M : MatArgs r c s d) (hv : 0 ≤ v ∧ v ≤ 18446744073709551615) : ∀ x ∈ setV r c s d i j v, 0 ≤ x ∧ x ≤ 18446744073709551615 := by
  unfold setV
  cases inQ r c s d.length i j with
  | false => exact M.d
  | true => exact set_in (P := fun z => 0 ≤ z ∧ z ≤ 18446744073709551615) M.d hv

theorem J_ok {η : List PV} {x : Int} : Slot.ok η J (.int x) := ⟨trivial, fun n h => (by cases h), fun n h => (by cases h), trivial⟩
theorem U_ok {η : List PV} {x : Int} (h : 0 ≤ x ∧ x ≤ 18446744073709551615) : Slot.ok η U (.int x) := ⟨trivial, fun n e => (by cases e; exact h.1), fun n e => (by cases e; exact h.2), trivial⟩
theorem Y_ok {η : List PV} {l : List Int} (h : ∀ x ∈ l, 0 ≤ x ∧ x ≤ 18446744073709551615) : Slot.ok η (Y none none) (.ints l) := ⟨⟨by decide, Nat.mod_one _, h⟩, fun n h => (by cases h), fun n h => (by cases h), trivial⟩

theorem slots_cons {η : List PV} {s : Slot} {p : PV} {sl : List Slot} {v : List PV} (h : s.ok η p) (hs : ∀ (i : Nat) (s : Slot) (p : PV), sl[i]? = some s → v[i]? = some p → s.ok η p) :
    ∀ (i : Nat) (s' : Slot) (p' : PV), (s :: sl)[i]? = some s' → (p :: v)[i]? = some p' → s'.ok η p'
  | 0, s', p', h1, h2 => by simp at h1 h2; subst h1; subst h2; exact h
  | i + 1, s', p', h1, h2 => hs i s' p' (by simpa using h1) (by simpa using h2)

theorem slots_nil {η : List PV} : ∀ (i : Nat) (s' : Slot) (p' : PV), ([] : List Slot)[i]? = some s' → ([] : List PV)[i]? = some p' → s'.ok η p' := fun i s p h => by simp at h

theorem at_ok {tb tb' : List PF} {n : Nat} (hn : tb[n]? = some (tIn.fn tb')) : SumOk ((tAt n).fn tb) (matP, [atQ]) := by
  intro args h
  obtain ⟨r, c, s, d, i, j, rfl, M⟩ := mat_args h
  refine ⟨_, at_eq hn M some, atQ, by simp, rfl, ?_, fun a b c hm => by cases hm⟩
  exact slots_cons J_ok (slots_cons J_ok (slots_cons J_ok (slots_cons (Y_ok M.d) (slots_cons J_ok (slots_cons J_ok (slots_cons (U_ok (atV_in M)) slots_nil))))))

theorem set_ok {tb tb' : List PF} {n : Nat} (hn : tb[n]? = some (tIn.fn tb')) : SumOk ((tSet n).fn tb) (setP, [setQ]) := by
  intro args h
  obtain ⟨r, c, s, d, i, j, v, rfl, M, hv⟩ := set_args h
  refine ⟨_, set_eq hn M some, setQ, by simp, rfl, ?_, fun a b c' hm => ?_⟩
  · exact slots_cons J_ok (slots_cons J_ok (slots_cons J_ok (slots_cons (Y_ok M.d) (slots_cons J_ok (slots_cons J_ok (slots_cons J_ok (slots_cons (Y_ok (setV_in M hv)) slots_nil)))))))
  · have e : ((setV r c s d i j v).length / 1 : Nat) = (d.length / 1 : Nat) := by rw [setV_len]
    simp only [setQ, List.mem_cons, Prod.mk.injEq, List.not_mem_nil, or_false] at hm
    rcases hm with ⟨rfl, rfl, rfl⟩ | ⟨rfl, rfl, rfl⟩
    · refine ⟨by decide, by decide, ?_⟩
      show ((d.length / 1 : Nat) : Int) ≤ (((setV r c s d i j v).length / 1 : Nat) : Int) + 0
      omega
    · refine ⟨by decide, by decide, ?_⟩
      show (((setV r c s d i j v).length / 1 : Nat) : Int) ≤ ((d.length / 1 : Nat) : Int) + 0
      omega

def carP : AS := ⟨[U, U, I 0 1], []⟩
def carQ : AS := ⟨[J, J, J, U, I 0 1], []⟩

theorem car_ok {f : Int → Int → Int → Int × Int} (hf : ∀ x y c, 0 ≤ x → x ≤ 18446744073709551615 → 0 ≤ y → y ≤ 18446744073709551615 → 0 ≤ c → c ≤ 1 → (0 ≤ (f x y c).1 ∧ (f x y c).1 ≤ 18446744073709551615) ∧ 0 ≤ (f x y c).2 ∧ (f x y c).2 ≤ 1) :
    SumOk (carryF f) (carP, [carQ]) := by
  intro args h
  have h3 : args.length = 3 := by rw [h.len]; rfl
  match args, h3, h with
  | [a, b, c], _, h =>
    obtain ⟨x, rfl, x1, x2⟩ := slot_int (h.slot 0 _ a rfl rfl)
    obtain ⟨y, rfl, y1, y2⟩ := slot_int (h.slot 1 _ b rfl rfl)
    obtain ⟨z, rfl, z1, z2⟩ := slot_int (h.slot 2 _ c rfl rfl)
    obtain ⟨k1, k2, k3⟩ := hf x y z x1 x2 y1 y2 z1 z2
    refine ⟨[.int (f x y z).1, .int (f x y z).2], by simp only [carryF]; rw [if_pos (by omega)], carQ, by simp, rfl, ?_, fun a b c hm => by cases hm⟩
    exact slots_cons J_ok (slots_cons J_ok (slots_cons J_ok (slots_cons (U_ok k1) (slots_cons ⟨trivial, fun n e => (by cases e; exact k2), fun n e => (by cases e; exact k3), trivial⟩ slots_nil))))

theorem add_car : SumOk (carryF addC) (carP, [carQ]) := car_ok fun x y c _ _ _ _ _ _ => by simp only [addC]; omega
theorem sub_car : SumOk (carryF subC64) (carP, [carQ]) := car_ok fun x y c _ _ _ _ _ _ => by simp only [subC64]; omega

end Gm

/- What a function yields, as a value; sums and products of a reckoner that remembers. -/
namespace Gm
open Go

def u64 (x : Int) : Prop := 0 ≤ x ∧ x ≤ 18446744073709551615

/-- the i-th number that a function yields -/
def val (F : PF) (vs : List PV) (i : Nat) : Int := match F vs some with
  | some rs => match rs[i]? with
    | some (.int x) => x
    | _ => 0
  | none => 0

def binP : AS := ⟨[U, U], []⟩
def binQ : AS := ⟨[J, J, U, I 0 255], []⟩
def unP : AS := ⟨[U], []⟩

theorem U_arg {η : List PV} {x : Int} (h : u64 x) : Slot.ok η U (.int x) := U_ok h

theorem slot_U {η : List PV} {p : PV} (k : Slot.ok η U p) : ∃ x, p = .int x ∧ u64 x := by
  obtain ⟨x, h1, h2, h3⟩ := slot_int k
  exact ⟨x, h1, h2, h3⟩

theorem bin_some {F : PF} (hF : SumOk F (binP, [binQ])) {a b : Int} (ha : u64 a) (hb : u64 b) :
    F [.int a, .int b] some = some [.int (val F [.int a, .int b] 0), .int (val F [.int a, .int b] 1)] ∧ u64 (val F [.int a, .int b] 0) := by
  obtain ⟨rs, h1, A, h2, h3⟩ := hF [.int a, .int b] ⟨rfl, slots_cons (U_arg ha) (slots_cons (U_arg hb) slots_nil), fun a b c hm => (by cases hm)⟩
  rw [List.mem_singleton] at h2
  subst h2
  have h4 : rs.length = 2 := by have := h3.len; simp [binQ] at this; omega
  match rs, h4, h1, h3 with
  | [p, q], _, h1, h3 =>
    obtain ⟨x, rfl, x1⟩ := slot_U (h3.slot 2 _ p rfl rfl)
    obtain ⟨y, rfl, y1, y2⟩ := slot_int (h3.slot 3 _ q rfl rfl)
    have e0 : val F [.int a, .int b] 0 = x := by unfold val; rw [h1]; rfl
    have e1 : val F [.int a, .int b] 1 = y := by unfold val; rw [h1]; rfl
    rw [e0, e1]
    exact ⟨h1, x1⟩

theorem un_some {F : PF} {A : AS} (hA : A.sl = [J, U]) (hF : SumOk F (unP, [A])) {a : Int} (ha : u64 a) :
    F [.int a] some = some [.int (val F [.int a] 0)] ∧ u64 (val F [.int a] 0) := by
  obtain ⟨rs, h1, A', h2, h3⟩ := hF [.int a] ⟨rfl, slots_cons (U_arg ha) slots_nil, fun a b c hm => (by cases hm)⟩
  rw [List.mem_singleton] at h2
  subst h2
  have h4 : rs.length = 1 := by have := h3.len; simp [hA] at this; omega
  match rs, h4, h1, h3 with
  | [p], _, h1, h3 =>
    obtain ⟨x, rfl, x1⟩ := slot_U (h3.slot 1 U p (by rw [hA]; rfl) rfl)
    have e0 : val F [.int a] 0 = x := by unfold val; rw [h1]; rfl
    rw [e0]
    exact ⟨h1, x1⟩

theorem law_k {F : PF} (hl : Lawful F) {vs rs : List PV} (h : F vs some = some rs) (k : KF) : F vs k = k rs := by rw [hl, h]; rfl

def tNote : T := .op (.bin .or .u8) [.v 0, .v 2] 1 (.ret [.v 1, .v 3])
def tCalc (i j : Nat) : T := .op (.call i) [.v 1, .v 2] 2 (.op (.call j) [.v 0, .v 3, .v 4] 2 (.ret [.v 5, .v 6]))

theorem calc_eq {tb tb' : List PF} {i j : Nat} {F : PF} (hi : tb[i]? = some F) (hj : tb[j]? = some (tNote.fn tb')) (hF : SumOk F (binP, [binQ])) (hl : Lawful F) (f : Int) {a b : Int} (ha : u64 a) (hb : u64 b) (k : KF) :
    (tCalc i j).fn tb [.int f, .int a, .int b] k = k [.int (val F [.int a, .int b] 0), .int (gbits .or .u8 f (val F [.int a, .int b] 1))] := by
  unfold T.fn tCalc
  simp only [evalK, looks, look, stepK, hi, hj, law_k hl (bin_some hF ha hb).1, List.getElem?_cons_zero, List.getElem?_cons_succ, List.cons_append, List.nil_append, List.length_cons, List.length_nil, Nat.reduceAdd, if_true]
  unfold T.fn tNote
  simp only [evalK, looks, look, stepK, ev, binInt, List.getElem?_cons_zero, List.getElem?_cons_succ, List.cons_append, List.nil_append, List.length_cons, List.length_nil, Nat.reduceAdd, if_true]

section
variable {tb : List PF} {n : Nat} {as : List Atom} {t u : T} {η vs rs : List PV} {r : KF} {js : List KF} {c : Atom}

theorem evalK_callk {i : Nat} {F : PF} (ht : tb[i]? = some F) (hF : ∀ k, F vs k = k rs) (hl : looks η as = some vs) (hn : rs.length = n) :
    evalK tb (.op (.call i) as n t) η r js = evalK tb t (η ++ rs) r js := by
  simp only [evalK, hl, stepK, ht, hF, hn, if_true]

theorem evalK_primk {p : Prim} (he : ev p vs = some rs) (hp : ∀ i, p ≠ .call i) (hl : looks η as = some vs) (hn : rs.length = n) :
    evalK tb (.op p as n t) η r js = evalK tb t (η ++ rs) r js := by
  simp only [evalK, hl]
  cases p <;> first | exact absurd rfl (hp _) | simp only [stepK, he, hn, if_true]

theorem evalK_seqk : evalK tb (.seq t u) η r js = evalK tb t η r ((fun v => evalK tb u v r js) :: js) := rfl

theorem evalK_jump0 {j : KF} (hl : looks η as = some vs) : evalK tb (.jump 0 as) η r (j :: js) = j vs := by
  simp only [evalK, hl, List.getElem?_cons_zero]

theorem evalK_retk (hl : looks η as = some vs) : evalK tb (.ret as) η r js = r vs := by
  simp only [evalK, hl]

theorem evalK_itek {x : Bool} (hl : look η c = some (.bool x)) : evalK tb (.ite c t u) η r js = bif x then evalK tb t η r js else evalK tb u η r js := by
  simp only [evalK, hl]

theorem evalK_tt (hl : look η c = some (.bool true)) : evalK tb (.ite c t u) η r js = evalK tb t η r js := by rw [evalK_itek hl]; rfl
theorem evalK_ff (hl : look η c = some (.bool false)) : evalK tb (.ite c t u) η r js = evalK tb u η r js := by rw [evalK_itek hl]; rfl
end

theorem ev_sub (a b : Int) : ev (.bin .sub .i64) [.int a, .int b] = some [.int (IntKind.i64.wrap (a - b))] := rfl
theorem ev_neq_self (a : Int) : ev (.cmp .neq) [.int a, .int a] = some [.bool false] := by simp [ev, cmpInt]
theorem ev_eql_self (a : Int) : ev (.cmp .eql) [.int a, .int a] = some [.bool true] := by simp [ev, cmpInt]
theorem no_bin {o : BinOp} {k : IntKind} : ∀ i, Prim.bin o k ≠ .call i := fun i h => by cases h
theorem no_cmp {o : BinOp} : ∀ i, Prim.cmp o ≠ .call i := fun i h => by cases h
theorem no_bnot : ∀ i, Prim.bnot ≠ .call i := fun i h => by cases h
theorem no_len {w : Nat} : ∀ i, Prim.len w ≠ .call i := fun i h => by cases h

end Gm

/- From a contract to a law's row: lists that are only read, and an answer that is true. -/
namespace Gm
open Go

/-- a list of words, as a row's reader hands it over -/
theorem u64_list {H : Type} {enc : TypeId × Value → H} {P : Program} {W : World} {base : Nat} {t e : TypeId} {v : Value} {d : DataW H} {p : List MemPlace} (ht : P.underlying t = some (.slice e)) (he : P.underlying e = some (.int .u64))
    (hc : P.cellsOf e = 1) (hval : Value.okWide P W .any base t v) (hd : DataW.Trod enc P W 0 (fun _ => true) true t v d p) :
    ∃ (l : List Int) (rb : RB), (∀ x ∈ l, u64 x) ∧ (∃ cap, rb.n ≤ cap ∧ cap ≤ rb.cap ∧ v = .slice (rb.at_.map adr) rb.n cap ∧ (rb.at_ = none → rb.cap = 0)) ∧ rb.wd = 1 ∧ l.length = rb.n * 1 ∧ (∀ x ∈ rb.foot, x < W.heap.size) ∧
      (∀ (i : Nat) (x : Int), l[i]? = some x → ∃ blk off arr t fr, rb.at_ = some (blk, off) ∧ blk ∈ rb.foot ∧ W.heap[blk]? = some (.cells arr t fr) ∧ arr[off + i]? = some (CK.val (.int .u64) x)) := by
  have hok := hval
  obtain ⟨a0, len0, cap0, rfl⟩ := Go.WideShapes.okWide_slice ht hval
  obtain ⟨fuel, hf⟩ := hd
  rcases Go.ChangeShapes.open_ints ht he hc hf with ⟨hcs, hx⟩ | ⟨a, len, cap, zs, hcs, _, hl, hm, hz, hx, hcell, hwz⟩
  · simp [Value.cells] at hcs
    obtain ⟨rfl, rfl, rfl⟩ := hcs
    exact ⟨[], ⟨none, 0, 0, 1, []⟩, fun x hx => (by cases hx), ⟨0, Nat.le_refl _, Nat.le_refl _, rfl, fun _ => rfl⟩, rfl, rfl, fun x hx => (by cases hx), fun i x hx => by simp at hx⟩
  · simp [Value.cells] at hcs
    obtain ⟨rfl, rfl, rfl⟩ := hcs
    have hsp : a.spot = none := by
      simp only [Value.okWide, ht, Cell.okWide, Cell.ok] at hok
      exact hok.2.2.2.1
    obtain ⟨blk, off, spot⟩ := a
    simp only at hsp
    subst hsp
    simp only [if_true] at hz
    have hlz : (zs.take len0).length = len0 := by rw [List.length_take]; omega
    refine ⟨zs.take len0, ⟨some (blk, off), len0, cap0, 1, if len0 = 0 then [] else [blk]⟩, fun x hx => ?_, ⟨cap0, hl, Nat.le_refl _, rfl, fun h => (by cases h)⟩, rfl, by rw [hlz]; simp, fun x hx => ?_, fun i x hx => ?_⟩
    · have h1 := hwz x (List.mem_of_mem_take hx)
      simp only [Lit.wf, Bool.and_eq_true, decide_eq_true_eq] at h1
      exact ⟨h1.1, h1.2⟩
    · simp only at hx
      split at hx
      · cases hx
      · rename_i h0
        rw [List.mem_singleton] at hx
        subst hx
        have h1 := hcell 0 (by omega)
        rw [Go.WideShapes.add_plain] at h1
        unfold World.cell? at h1
        split at h1
        · rename_i c _ _ hb
          exact (Array.getElem?_eq_some_iff.1 hb).1
        · cases h1
    · have hi : i < len0 := by
        have := (List.getElem?_eq_some_iff.1 hx).1
        omega
      have h1 := hcell i (by omega)
      rw [Go.WideShapes.add_plain] at h1
      unfold World.cell? at h1
      split at h1
      · rename_i c tt fr hb
        simp only [Option.isSome_none, Bool.false_eq_true, if_false] at h1
        refine ⟨blk, off, c, tt, fr, rfl, ?_, hb, ?_⟩
        · simp only
          rw [if_neg (by omega)]
          exact List.mem_singleton.2 rfl
        · rw [h1]
          rw [List.getElem?_take, if_pos hi] at hx
          rw [List.getD_eq_getElem?_getD, hx]
          rfl
      · cases h1

/-- a law's contract, where nothing that came in is written -/
theorem law_calls {P : Program} {f : FuncId} {fn : Func} {body : Code} {sg : Sig} {F : PF} (hC : Contract P (fun _ => none) f sg F) (hf : P.funcs[f]? = some fn) (hname : (fn.name == "runtime.NumGoroutine") = false) (hb : fn.body = some body)
    (hres : sg.res = .c (.bool (.v 0))) (hnr : sg.nr = 1) (hro : ∀ b sb, hpf sg.heap b = some sb → sb.rw = false) {w : World} {ρ : Rho} {ps : List PV} {args : Array Value}
    (hv : VVs ps ρ sg.args args.toList) (hH : HR ps ρ (hpf sg.heap) w) (htop : ∀ b, sg.heap.length ≤ b → ρ b = none) (hnp : ps.length = sg.np) (hF : F ps some = some [.bool true]) :
    Calls P f args w fun e w' => e = .returned (.bool true) ∧ Go.RowKit.Below w.heap.size w w' := by
  have h := hC w ρ ps _ args hv hH htop hnp hF (by rw [hnr]; rfl) none_GL
  have hcall : (callFunc f args).run P w = .ok (.enter f args) w := by
    have hn' : ¬ fn.name = "runtime.NumGoroutine" := by simpa using hname
    simp [callFunc, hf, hn', hb]
  unfold CallTo at h
  rw [hcall] at h
  refine Calls.mono h fun e w' q => ?_
  cases e with
  | panicked c => exact q.elim
  | outgrown => exact q.elim
  | returned v =>
    obtain ⟨ρ', h1, h2, h3, h4⟩ := q
    rw [hres] at h1
    obtain ⟨x, e1, e2⟩ := h1
    cases e1
    subst e2
    refine ⟨rfl, h4.os, h4.tape, h4.out, h4.size, fun k hk => h4.keep k hk ?_⟩
    rintro ⟨b, sb, rb, a1, a2, _⟩
    rw [hro b sb a1] at a2
    cases a2

/-- what a law leaves, where nothing that came in is written -/
theorem post_law {H : Type} {enc : TypeId × Value → H} {P : Program} {f : Func} {s : ChangeSpec} {apart fresh handsOn : Bool} {W W' : World} {args : Array Value} {ds gs : List (DataW H)} {before pa pv : List MemPlace} {tb : TypeId}
    (hW : DataW.Whole enc P f.params.toList s.vars apart W args.toList ds gs before) (hb : Go.RowKit.Below W.heap.size W W')
    (hrt : f.resultTypes = #[tb]) (htb : P.underlying tb = some .bool) (hres : (s.fn H (ds ++ gs)).results = [.lit (.bool true)])
    (hargs : DataW.TrodAll enc P W' 0 (fun b => decide (b < W.heap.size)) true f.params.toList args.toList (s.fn H (ds ++ gs)).args pa)
    (hvars : DataW.TrodVars enc P W' (fun b => decide (b < W.heap.size)) s.vars (s.fn H (ds ++ gs)).vars pv) :
    s.post enc P f apart fresh handsOn false W args (.bool true) W' := by
  refine ⟨ds, gs, before, [], pa, pv, hW, ?_, hargs, hvars, hb.frame _, fun h => by cases h⟩
  rw [hres, hrt]
  exact Go.ChangeShapes.trodAll_mk1 (Go.RowKit.shut_bool htb true)

end Gm

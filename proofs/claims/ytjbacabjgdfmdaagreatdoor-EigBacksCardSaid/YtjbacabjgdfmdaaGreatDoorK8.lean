/- Totality: assumptions, and what a state entails. -/
import Derived.Test.YtjbacabjgdfmdaaGreatDoorK7
namespace Gm
open Go

def setHi (sl : List Slot) (i : Nat) (n : Int) : List Slot := sl.modify i fun s => { s with hi := minO s.hi (some n) }
def setLo (sl : List Slot) (i : Nat) (n : Int) : List Slot := sl.modify i fun s => { s with lo := maxO s.lo (some n) }

/-- the state, if an atom is at most another one and so much more -/
def asmLe (st : AS) (a b : Atom) (c : Int) : AS :=
  match a, b with
  | .v i, .v j =>
    let sl := match hiS st.sl j with
      | some h => setHi st.sl i (h + c)
      | none => st.sl
    let sl := match loS st.sl i with
      | some l => setLo sl j (l - c)
      | none => sl
    ⟨sl, (i, j, c) :: st.fs⟩
  | .v i, b => match hiA st b with
    | some h => ⟨setHi st.sl i (h + c), st.fs⟩
    | none => st
  | a, .v j => match loA st a with
    | some l => ⟨setLo st.sl j (l - c), st.fs⟩
    | none => st
  | _, _ => st

theorem modify_get {sl : List Slot} {i j : Nat} {f : Slot → Slot} {s : Slot} (h : (sl.modify i f)[j]? = some s) : ∃ s0, sl[j]? = some s0 ∧ s = if i = j then f s0 else s0 := by
  rw [List.getElem?_modify] at h
  cases hs : sl[j]? with
  | none => rw [hs] at h; cases h
  | some s0 =>
    rw [hs] at h
    have h' : (if i = j then f s0 else s0) = s := Option.some.inj h
    exact ⟨s0, rfl, h'.symm⟩

theorem ms_modify {sl : List Slot} {η : List PV} {i j : Nat} {f : Slot → Slot} (hf : ∀ s, (f s).t = s.t) : ms (sl.modify i f) η j = ms sl η j := by
  unfold ms
  rw [List.getElem?_modify]
  cases sl[j]? with
  | none => rfl
  | some s =>
    cases η[j]? with
    | none => rfl
    | some p =>
      show meas (if i = j then f s else s).t p = meas s.t p
      split
      · rw [hf]
      · rfl

section
variable {st : AS} {η : List PV}

theorem AS.ok.modify (h : AS.ok st η) {i : Nat} {f : Slot → Slot} (hf : ∀ s, (f s).t = s.t) (hk : ∀ s p, st.sl[i]? = some s → η[i]? = some p → s.ok η p → ms st.sl η i = meas s.t p → (f s).ok η p) : AS.ok ⟨st.sl.modify i f, st.fs⟩ η := by
  refine ⟨by simp [h.len], fun j s p h1 h2 => ?_, fun a b c hm => ?_⟩
  · obtain ⟨s0, h3, h4⟩ := modify_get h1
    have k := h.slot j s0 p h3 h2
    split at h4
    · rename_i q
      subst q
      rw [h4]
      refine hk s0 p h3 h2 k ?_
      unfold ms; rw [h3, h2]
    · rw [h4]; exact k
  · obtain ⟨q1, q2, q3⟩ := h.fact a b c hm
    exact ⟨by simpa using q1, by simpa using q2, by rw [ms_modify hf, ms_modify hf]; exact q3⟩

theorem setHi_ok (h : AS.ok st η) {i : Nat} {n : Int} (hn : ms st.sl η i ≤ n) : AS.ok ⟨setHi st.sl i n, st.fs⟩ η := by
  refine h.modify (f := fun s => { s with hi := minO s.hi (some n) }) (fun s => rfl) (fun s p h1 h2 k hm => ⟨k.t, k.lo, ?_, k.df⟩)
  exact minO_ok (P := fun m => meas s.t p ≤ m) k.hi (fun m e => by cases e; rw [← hm]; exact hn)

theorem setLo_ok (h : AS.ok st η) {i : Nat} {n : Int} (hn : n ≤ ms st.sl η i) : AS.ok ⟨setLo st.sl i n, st.fs⟩ η := by
  refine h.modify (f := fun s => { s with lo := maxO s.lo (some n) }) (fun s => rfl) (fun s p h1 h2 k hm => ⟨k.t, ?_, k.hi, k.df⟩)
  exact maxO_ok (P := fun m => m ≤ meas s.t p) k.lo (fun m e => by cases e; rw [← hm]; exact hn)

theorem ms_setHi {i j : Nat} {n : Int} {sl : List Slot} : ms (setHi sl i n) η j = ms sl η j := ms_modify (fun _ => rfl)
theorem ms_setLo {i j : Nat} {n : Int} {sl : List Slot} : ms (setLo sl i n) η j = ms sl η j := ms_modify (fun _ => rfl)
theorem len_setHi {i : Nat} {n : Int} {sl : List Slot} : (setHi sl i n).length = sl.length := by simp [setHi]
theorem len_setLo {i : Nat} {n : Int} {sl : List Slot} : (setLo sl i n).length = sl.length := by simp [setLo]

theorem AS.ok.fact_cons (h : AS.ok st η) {i j : Nat} {c : Int} (hi : i < st.sl.length) (hj : j < st.sl.length) (hc : ms st.sl η i ≤ ms st.sl η j + c) : AS.ok ⟨st.sl, (i, j, c) :: st.fs⟩ η := by
  refine ⟨h.len, h.slot, fun a b d hm => ?_⟩
  rcases List.mem_cons.1 hm with e | hm
  · cases e; exact ⟨hi, hj, hc⟩
  · exact h.fact a b d hm

/-- an atom is there -/
def here (st : AS) : Atom → Prop
  | .v i => i < st.sl.length
  | _ => True

theorem here_of {a : Atom} {p : PV} (h : AS.ok st η) (e : look η a = some p) : here st a := by
  cases a with
  | v i => exact v_lt h e
  | _ => trivial

theorem asmLe_ok (h : AS.ok st η) {a b : Atom} {c : Int} (ha : here st a) (hb : here st b) (hc : mA st.sl η a ≤ mA st.sl η b + c) : AS.ok (asmLe st a b c) η ∧ (∀ x, mA (asmLe st a b c).sl η x = mA st.sl η x) ∧ (asmLe st a b c).sl.length = st.sl.length := by
  have key : ∀ {sl : List Slot}, (∀ j, ms sl η j = ms st.sl η j) → ∀ x, mA sl η x = mA st.sl η x := by
    intro sl hs x
    cases x with
    | v i => exact hs i
    | _ => rfl
  unfold asmLe
  split
  · rename_i i j
    have hc' : ms st.sl η i ≤ ms st.sl η j + c := hc
    have s1 : ∃ sl, (match hiS st.sl j with | some h => setHi st.sl i (h + c) | none => st.sl) = sl ∧ AS.ok ⟨sl, st.fs⟩ η ∧ (∀ j, ms sl η j = ms st.sl η j) ∧ sl.length = st.sl.length := by
      refine ⟨_, rfl, ?_⟩
      split
      · rename_i n hn
        have := hiS_ok h hn
        exact ⟨setHi_ok h (by omega), fun _ => ms_setHi, len_setHi⟩
      · exact ⟨h, fun _ => rfl, rfl⟩
    obtain ⟨sl1, e1, o1, m1, l1⟩ := s1
    have s2 : ∃ sl, (match loS st.sl i with | some l => setLo sl1 j (l - c) | none => sl1) = sl ∧ AS.ok ⟨sl, st.fs⟩ η ∧ (∀ j, ms sl η j = ms st.sl η j) ∧ sl.length = st.sl.length := by
      refine ⟨_, rfl, ?_⟩
      split
      · rename_i n hn
        have := loS_ok h hn
        exact ⟨setLo_ok (st := ⟨sl1, st.fs⟩) o1 (by rw [m1]; omega), fun j => by rw [ms_setLo]; exact m1 j, by rw [len_setLo, l1]⟩
      · exact ⟨o1, m1, l1⟩
    obtain ⟨sl2, e2, o2, m2, l2⟩ := s2
    simp only [e1, e2]
    refine ⟨AS.ok.fact_cons (st := ⟨sl2, st.fs⟩) o2 (by rw [l2]; exact ha) (by rw [l2]; exact hb) (by rw [m2, m2]; exact hc'), key m2, l2⟩
  · rename_i i hne
    split
    · rename_i n hn
      have := hiA_ok h hn
      have hc' : ms st.sl η i ≤ mA st.sl η b + c := hc
      exact ⟨setHi_ok h (by omega), key fun _ => ms_setHi, len_setHi⟩
    · exact ⟨h, fun _ => rfl, rfl⟩
  · rename_i j hne
    split
    · rename_i n hn
      have := loA_ok h hn
      have hc' : mA st.sl η a ≤ ms st.sl η j + c := hc
      exact ⟨setLo_ok h (by omega), key fun _ => ms_setLo, len_setLo⟩
    · exact ⟨h, fun _ => rfl, rfl⟩
  · exact ⟨h, fun _ => rfl, rfl⟩

/-- the state, if a comparison turned out so -/
def asmCmp (st : AS) (op : BinOp) (x : Bool) (a b : Atom) : AS :=
  match op, x with
  | .lss, true => asmLe st a b (-1)
  | .lss, false => asmLe st b a 0
  | .leq, true => asmLe st a b 0
  | .leq, false => asmLe st b a (-1)
  | .gtr, true => asmLe st b a (-1)
  | .gtr, false => asmLe st a b 0
  | .geq, true => asmLe st b a 0
  | .geq, false => asmLe st a b (-1)
  | .eql, true => asmLe (asmLe st a b 0) b a 0
  | .neq, false => asmLe (asmLe st a b 0) b a 0
  | .eql, false => bif leA st a b 0 then asmLe st a b (-1) else bif leA st b a 0 then asmLe st b a (-1) else st
  | .neq, true => bif leA st a b 0 then asmLe st a b (-1) else bif leA st b a 0 then asmLe st b a (-1) else st
  | _, _ => st

theorem here_len {st' : AS} (h : st'.sl.length = st.sl.length) {a : Atom} (ha : here st a) : here st' a := by
  cases a with
  | v i => show i < st'.sl.length; rw [h]; exact ha
  | _ => trivial

theorem asmNe_ok (h : AS.ok st η) {a b : Atom} (ha : here st a) (hb : here st b) (hc : mA st.sl η a ≠ mA st.sl η b) :
    AS.ok (bif leA st a b 0 then asmLe st a b (-1) else bif leA st b a 0 then asmLe st b a (-1) else st) η := by
  cases h1 : leA st a b 0 with
  | true => have := leA_ok h h1; exact (asmLe_ok h ha hb (by omega)).1
  | false =>
    cases h2 : leA st b a 0 with
    | true => have := leA_ok h h2; exact (asmLe_ok h hb ha (by omega)).1
    | false => exact h

theorem asmEq_ok (h : AS.ok st η) {a b : Atom} (ha : here st a) (hb : here st b) (hc : mA st.sl η a = mA st.sl η b) : AS.ok (asmLe (asmLe st a b 0) b a 0) η := by
  obtain ⟨k1, k2, k3⟩ := asmLe_ok h ha hb (c := 0) (by omega)
  exact (asmLe_ok k1 (here_len k3 hb) (here_len k3 ha) (by rw [k2, k2]; omega)).1

theorem asmCmp_ok (h : AS.ok st η) {op : BinOp} {a b : Atom} {r : Bool} {x y : Int} (ha : here st a) (hb : here st b) (ex : mA st.sl η a = x) (ey : mA st.sl η b = y) (e : cmpInt op x y = some r) :
    AS.ok (asmCmp st op r a b) η := by
  cases op <;> simp only [cmpInt, Option.some.injEq, reduceCtorEq] at e <;> cases r <;> simp only [asmCmp] <;> simp at e
  case eql.false => exact asmNe_ok h ha hb (by omega)
  case eql.true => exact asmEq_ok h ha hb (by omega)
  case neq.false => exact asmEq_ok h ha hb (by omega)
  case neq.true => exact asmNe_ok h ha hb (by omega)
  case lss.false => exact (asmLe_ok h hb ha (by omega)).1
  case lss.true => exact (asmLe_ok h ha hb (by omega)).1
  case leq.false => exact (asmLe_ok h hb ha (by omega)).1
  case leq.true => exact (asmLe_ok h ha hb (by omega)).1
  case gtr.false => exact (asmLe_ok h ha hb (by omega)).1
  case gtr.true => exact (asmLe_ok h hb ha (by omega)).1
  case geq.false => exact (asmLe_ok h ha hb (by omega)).1
  case geq.true => exact (asmLe_ok h hb ha (by omega)).1

theorem mA_int (h : AS.ok st η) {a : Atom} {p : Int} (e : look η a = some (.int p)) : mA st.sl η a = p := by
  cases a with
  | i n => cases e; rfl
  | b n => cases e
  | nil => cases e
  | v j =>
    have hj := v_lt h e
    obtain ⟨p', g1, g2, g3⟩ := h.at (List.getElem?_eq_getElem hj)
    simp only [look] at e
    rw [e] at g1
    cases g1
    show ms st.sl η j = p
    rw [g3]
    have := g2.t
    cases ht : (st.sl[j]).t with
    | int => rfl
    | bool => rw [ht] at this; exact this.elim
    | ints w lo hi => rw [ht] at this; exact this.elim
    | str => rw [ht] at this; exact this.elim

def fol1 (st : AS) (p : Atom) : AS := bif nonneg st p then asmLe st (.i 1) p 0 else st

/-- a product that is not 0 has factors that are not 0 -/
def fol (st : AS) : Atom → AS
  | .v i => match st.sl[i]? with
    | some s => match s.df with
      | .mul p q => bif leA st (.i 1) (.v i) 0 then fol1 (fol1 st p) q else st
      | _ => st
    | none => st
  | _ => st

theorem fol1_ok (h : AS.ok st η) {a : Atom} {x : Int} (hx : look η a = some (.int x)) (h0 : x ≠ 0) : AS.ok (fol1 st a) η := by
  unfold fol1
  cases hn : nonneg st a with
  | false => exact h
  | true =>
    have h1 := nonneg_ok h hn
    have h2 := mA_int h hx
    refine (asmLe_ok h (a := .i 1) trivial (here_of h hx) ?_).1
    show (1 : Int) ≤ _
    omega

theorem fol_ok (h : AS.ok st η) (a : Atom) : AS.ok (fol st a) η := by
  unfold fol
  split
  · rename_i i
    split
    · rename_i s hs
      split
      · rename_i p q hd
        obtain ⟨v, hv, k, hm⟩ := h.at hs
        have kd := k.df
        rw [hd] at kd
        obtain ⟨x, y, r, e1, e2, rfl, e4⟩ := kd
        cases hl : leA st (.i 1) (.v i) 0 with
        | false => exact h
        | true =>
          have h1 := leA_ok h hl
          have h2 : mA st.sl η (.v i) = r := mA_int h hv
          rw [h2] at h1
          have h3 : (1 : Int) ≤ r + 0 := h1
          have hx : x ≠ 0 := fun z => by have := e4 (.inl z); omega
          have hy : y ≠ 0 := fun z => by have := e4 (.inr z); omega
          exact fol1_ok (fol1_ok h e1 hx) e2 hy
      · exact h
    · exact h
  · exact h

/-- the state, if a bool turned out so -/
def asmB (st : AS) : Nat → Atom → Bool → AS
  | 0, _, _ => st
  | d + 1, .v i, x => match st.sl[i]? with
    | some s =>
      let st := bif x then asmLe st (.i 1) (.v i) 0 else asmLe st (.v i) (.i 0) 0
      match s.df with
      | .cmp op a b => fol (fol (asmCmp st op x a b) a) b
      | .mul _ _ => st
      | .not a => asmB st d a (!x)
      | .none => st
    | none => st
  | _, _, _ => st

theorem asmB_ok : ∀ (d : Nat) {st : AS} (a : Atom) (x : Bool), AS.ok st η → look η a = some (.bool x) → mA st.sl η a = (bif x then 1 else 0) → AS.ok (asmB st d a x) η
  | 0, st, a, x, h, _, _ => h
  | d + 1, st, .i n, x, h, _, _ => h
  | d + 1, st, .b n, x, h, _, _ => h
  | d + 1, st, .nil, x, h, _, _ => h
  | d + 1, st, .v i, x, h, hl, hm => by
    simp only [asmB]
    split
    · rename_i s hs
      have s1 : ∃ st', (bif x then asmLe st (.i 1) (.v i) 0 else asmLe st (.v i) (.i 0) 0) = st' ∧ AS.ok st' η ∧ (∀ y, mA st'.sl η y = mA st.sl η y) ∧ st'.sl.length = st.sl.length := by
        refine ⟨_, rfl, ?_⟩
        cases x with
        | true => exact asmLe_ok h (a := .i 1) trivial (here_of h hl) (by rw [hm]; exact Int.le_refl _)
        | false => exact asmLe_ok h (b := .i 0) (here_of h hl) trivial (by rw [hm]; exact Int.le_refl _)
      obtain ⟨st', e1, o1, m1, l1⟩ := s1
      rw [e1]
      have k := (h.slot i s _ hs hl).df
      split
      · rename_i op a b hd
        rw [hd] at k
        obtain ⟨p, q, r, k1, k2, k3, k4⟩ := k
        cases k4
        exact fol_ok (fol_ok (asmCmp_ok o1 (here_of o1 k1) (here_of o1 k2) (mA_int o1 k1) (mA_int o1 k2) k3) _) _
      · exact o1
      · rename_i a hd
        rw [hd] at k
        obtain ⟨r, k1, k2⟩ := k
        cases k2
        refine asmB_ok d a _ o1 (by rw [k1]; simp) ?_
        have : mA st'.sl η a = bif r then 1 else 0 := by
          cases a with
          | i n => cases k1
          | b n => cases k1; rfl
          | nil => cases k1
          | v j =>
            have hj := v_lt o1 k1
            obtain ⟨p', g1, g2, g3⟩ := o1.at (List.getElem?_eq_getElem hj)
            simp only [look] at k1
            rw [k1] at g1
            cases g1
            show ms st'.sl η j = _
            rw [g3]
            have := g2.t
            cases ht : (st'.sl[j]).t with
            | int => rw [ht] at this; exact this.elim
            | bool => rfl
            | ints w lo hi => rw [ht] at this; exact this.elim
            | str => rw [ht] at this; exact this.elim
        simpa using this
      · exact o1
    · exact h
end
end Gm

/- Totality: a state that follows from another one, and what a call leaves behind. -/
namespace Gm
open Go

def tyOk (st : AS) (a : Atom) : AT → Bool
  | .int => isInt st a
  | .bool => isBool st a
  | .ints w lo hi => match isInts st a w with
    | some (l, h) => decide (h < l) || (decide (lo ≤ l) && decide (h ≤ hi))
    | none => false
  | .str => match tyA st a with
    | some .str => true
    | _ => false

def loOk (st : AS) (a : Atom) : Option Int → Bool
  | none => true
  | some n => leA st (.i n) a 0

def hiOk (st : AS) (a : Atom) : Option Int → Bool
  | none => true
  | some n => leA st a (.i n) 0

def Def.isNone : Def → Bool
  | .none => true
  | _ => false

def entS (st : AS) : List Atom → List Slot → Bool
  | [], [] => true
  | a :: as, s :: sl => (tyOk st a s.t && (loOk st a s.lo && hiOk st a s.hi)) && (s.df.isNone && entS st as sl)
  | _, _ => false

def entF (st : AS) (as : List Atom) : List (Nat × Nat × Int) → Bool
  | [] => true
  | f :: fs => (match as[f.1]?, as[f.2.1]? with
    | some a, some b => leA st a b f.2.2
    | _, _ => false) && entF st as fs

/-- do values stand to each other so? -/
def ent (st : AS) (as : List Atom) (A : AS) : Bool := entS st as A.sl && entF st as A.fs

section
variable {st : AS} {η : List PV}

structure Fit1 (st : AS) (η : List PV) (a : Atom) (s : Slot) (p : PV) : Prop where
  look : look η a = some p
  t : s.t.ok p
  lo : ∀ n, s.lo = some n → n ≤ meas s.t p
  hi : ∀ n, s.hi = some n → meas s.t p ≤ n
  df : s.df = .none
  m : mA st.sl η a = meas s.t p

theorem tyOk_ok (h : AS.ok st η) {a : Atom} {t : AT} (e : tyOk st a t = true) : ∃ p, look η a = some p ∧ t.ok p ∧ mA st.sl η a = meas t p := by
  cases t with
  | int => obtain ⟨x, h1, h2⟩ := isInt_ok h e; exact ⟨_, h1, trivial, h2⟩
  | bool => obtain ⟨x, h1, h2⟩ := isBool_ok h e; exact ⟨_, h1, trivial, h2⟩
  | ints w lo hi =>
    simp only [tyOk] at e
    split at e
    · rename_i l hh q
      obtain ⟨l1, a1, a2, a3, a4, a5⟩ := isInts_ok h q
      refine ⟨_, a1, ⟨a3, a4, fun x hx => ?_⟩, a2⟩
      have := a5 x hx
      simp only [Bool.or_eq_true, Bool.and_eq_true, decide_eq_true_eq] at e
      omega
    · cases e
  | str =>
    simp only [tyOk] at e
    split at e
    · rename_i q; exact tyA_ok h q
    · cases e

theorem ent1_ok (h : AS.ok st η) {a : Atom} {s : Slot} (e : (tyOk st a s.t && (loOk st a s.lo && hiOk st a s.hi)) = true) (ed : s.df.isNone = true) : ∃ p, Fit1 st η a s p := by
  simp only [Bool.and_eq_true] at e
  obtain ⟨p, h1, h2, h3⟩ := tyOk_ok h e.1
  refine ⟨p, h1, h2, fun n hn => ?_, fun n hn => ?_, ?_, h3⟩
  · have e1 := e.2.1
    rw [hn] at e1
    have : n ≤ _ := leA_ok h (a := .i n) e1
    omega
  · have e1 := e.2.2
    rw [hn] at e1
    have : _ ≤ n + 0 := leA_ok h (b := .i n) e1
    omega
  · cases hd : s.df with
    | none => rfl
    | cmp op a b => rw [hd] at ed; cases ed
    | not a => rw [hd] at ed; cases ed
    | mul a b => rw [hd] at ed; cases ed

theorem entS_ok (h : AS.ok st η) : ∀ {as : List Atom} {sl : List Slot}, entS st as sl = true → ∃ v, looks η as = some v ∧ v.length = sl.length ∧ as.length = sl.length ∧
    ∀ (k : Nat) (a : Atom) (s : Slot) (p : PV), as[k]? = some a → sl[k]? = some s → v[k]? = some p → Fit1 st η a s p
  | [], [], _ => ⟨[], rfl, rfl, rfl, fun k a s p h1 => (by simp at h1)⟩
  | [], _ :: _, e => by cases e
  | _ :: _, [], e => by cases e
  | a :: as, s :: sl, e => by
    simp only [entS] at e
    rw [Bool.and_eq_true] at e
    have e2 := e.2
    rw [Bool.and_eq_true] at e2
    obtain ⟨p, hp⟩ := ent1_ok h e.1 e2.1
    obtain ⟨v, h1, h2, h3, h4⟩ := entS_ok h e2.2
    refine ⟨p :: v, by simp [looks, hp.look, h1], by simp [h2], by simp [h3], fun k a' s' p' g1 g2 g3 => ?_⟩
    cases k with
    | zero => simp at g1 g2 g3; subst g1; subst g2; subst g3; exact hp
    | succ k => exact h4 k a' s' p' (by simpa using g1) (by simpa using g2) (by simpa using g3)

theorem entF_ok : ∀ {as : List Atom} {fs : List (Nat × Nat × Int)}, entF st as fs = true → ∀ x y c, (x, y, c) ∈ fs → ∃ a b, as[x]? = some a ∧ as[y]? = some b ∧ leA st a b c = true
  | as, [], _, x, y, c, hm => by cases hm
  | as, f :: fs, e, x, y, c, hm => by
    simp only [entF] at e
    rw [Bool.and_eq_true] at e
    rcases List.mem_cons.1 hm with q | hm
    · cases q
      have e1 := e.1
      split at e1
      · rename_i a b h1 h2
        exact ⟨a, b, h1, h2, e1⟩
      · cases e1
    · exact entF_ok e.2 x y c hm

theorem ent_ok (h : AS.ok st η) {as : List Atom} {A : AS} (e : ent st as A = true) : ∃ v, looks η as = some v ∧ AS.ok A v := by
  simp only [ent] at e
  rw [Bool.and_eq_true] at e
  obtain ⟨v, h1, h2, h3, h4⟩ := entS_ok h e.1
  refine ⟨v, h1, h2, fun k s p g1 g2 => ?_, fun x y c hm => ?_⟩
  · have hk := (List.getElem?_eq_some_iff.1 g1).1
    have f := h4 k _ s p (List.getElem?_eq_getElem (by rw [h3]; exact hk)) g1 g2
    exact ⟨f.t, f.lo, f.hi, by rw [f.df]; trivial⟩
  · obtain ⟨a, b, g1, g2, g3⟩ := entF_ok e.2 x y c hm
    have key : ∀ {k : Nat} {a : Atom}, as[k]? = some a → k < A.sl.length ∧ ms A.sl v k = mA st.sl η a := by
      intro k a g
      have hk := (List.getElem?_eq_some_iff.1 g).1
      have q1 := List.getElem?_eq_getElem (l := A.sl) (i := k) (by omega)
      have q2 := List.getElem?_eq_getElem (l := v) (i := k) (by omega)
      have f := h4 k a _ _ g q1 q2
      exact ⟨by omega, by unfold ms; rw [q1, q2]; exact f.m.symm⟩
    obtain ⟨k1, k2⟩ := key g1
    obtain ⟨k3, k4⟩ := key g2
    exact ⟨k1, k3, by rw [k2, k4]; exact leA_ok h g3⟩
end

def sameT (st : AS) (a : Atom) : AT → Bool
  | .int => isInt st a
  | .bool => isBool st a
  | .ints w _ _ => match isInts st a w with
    | some _ => true
    | none => false
  | .str => match tyA st a with
    | some .str => true
    | _ => false

def sameS (st : AS) : List Atom → List Slot → Bool
  | [], _ => true
  | a :: as, s :: sl => sameT st a s.t && sameS st as sl
  | _, [] => false

def asmS (st : AS) : List Atom → List Slot → AS
  | a :: as, s :: sl =>
    let st := match s.lo with
      | some n => asmLe st (.i n) a 0
      | none => st
    let st := match s.hi with
      | some n => asmLe st a (.i n) 0
      | none => st
    asmS st as sl
  | _, _ => st

def asmF (st : AS) (ats : List Atom) : List (Nat × Nat × Int) → AS
  | [] => st
  | f :: fs => match ats[f.1]?, ats[f.2.1]? with
    | some a, some b => asmF (asmLe st a b f.2.2) ats fs
    | _, _ => asmF st ats fs

def Slot.clr (s : Slot) : Slot := { s with df := .none }

def vsFrom : Nat → Nat → List Atom
  | _, 0 => []
  | i, n + 1 => .v i :: vsFrom (i + 1) n

/-- a state behind a call: the results are pushed, and what is known of arguments and results is assumed -/
def inst (st : AS) (as : List Atom) (n : Nat) (A : AS) : Option AS :=
  bif Nat.beq A.sl.length (as.length + n) && sameS st as A.sl then
    some (asmF (asmS ⟨st.sl ++ (A.sl.drop as.length).map Slot.clr, st.fs⟩ as A.sl) (as ++ vsFrom st.sl.length n) A.fs)
  else none

theorem vsFrom_get : ∀ {i n k : Nat} {a : Atom}, (vsFrom i n)[k]? = some a → k < n ∧ a = .v (i + k)
  | i, 0, k, a, h => by simp [vsFrom] at h
  | i, n + 1, 0, a, h => by simp [vsFrom] at h; exact ⟨by omega, by rw [← h]; rfl⟩
  | i, n + 1, k + 1, a, h => by
    simp [vsFrom] at h
    obtain ⟨h1, h2⟩ := vsFrom_get h
    exact ⟨by omega, by rw [h2]; congr 1; omega⟩

section
variable {st : AS} {η : List PV}

theorem sameT_ok (h : AS.ok st η) {a : Atom} {t : AT} {p : PV} (e : sameT st a t = true) (hl : look η a = some p) : mA st.sl η a = meas t p := by
  cases t with
  | int => obtain ⟨x, h1, h2⟩ := isInt_ok h e; rw [hl] at h1; cases h1; exact h2
  | bool => obtain ⟨x, h1, h2⟩ := isBool_ok h e; rw [hl] at h1; cases h1; exact h2
  | ints w lo hi =>
    simp only [sameT] at e
    split at e
    · rename_i b q
      obtain ⟨l1, a1, a2, _⟩ := isInts_ok (lo := b.1) (hi := b.2) h q
      rw [hl] at a1; cases a1
      exact a2
    · cases e
  | str =>
    simp only [sameT] at e
    split at e
    · rename_i q
      obtain ⟨p', h1, h2, h3⟩ := tyA_ok h q
      rw [hl] at h1; cases h1
      exact h3
    · cases e

theorem sameS_ok (h : AS.ok st η) : ∀ {as : List Atom} {sl : List Slot} {vs : List PV}, sameS st as sl = true → looks η as = some vs →
    ∀ (k : Nat) (a : Atom), as[k]? = some a → ∃ s p, sl[k]? = some s ∧ vs[k]? = some p ∧ here st a ∧ mA st.sl η a = meas s.t p
  | [], sl, vs, _, _, k, a, hk => by simp at hk
  | a :: as, [], vs, e, _, k, a', hk => by cases e
  | a :: as, s :: sl, vs, e, hl, k, a', hk => by
    simp only [sameS] at e
    rw [Bool.and_eq_true] at e
    simp only [looks] at hl
    cases hx : look η a with
    | none => simp [hx] at hl
    | some p =>
      cases hy : looks η as with
      | none => simp [hx, hy] at hl
      | some ps =>
        simp [hx, hy] at hl
        subst hl
        cases k with
        | zero => simp at hk; subst hk; exact ⟨s, p, rfl, rfl, here_of h hx, sameT_ok h e.1 hx⟩
        | succ k =>
          obtain ⟨s', p', h1, h2, h3⟩ := sameS_ok h e.2 hy k a' (by simpa using hk)
          exact ⟨s', p', by simpa using h1, by simpa using h2, h3⟩

theorem asmS_ok : ∀ {as : List Atom} {sl : List Slot} {st : AS}, AS.ok st η →
    (∀ (k : Nat) (a : Atom) (s : Slot), as[k]? = some a → sl[k]? = some s → here st a ∧ (∀ n, s.lo = some n → n ≤ mA st.sl η a) ∧ (∀ n, s.hi = some n → mA st.sl η a ≤ n)) →
    AS.ok (asmS st as sl) η ∧ (∀ x, mA (asmS st as sl).sl η x = mA st.sl η x) ∧ (asmS st as sl).sl.length = st.sl.length
  | [], sl, st, h, _ => by cases sl <;> exact ⟨h, fun _ => rfl, rfl⟩
  | a :: as, [], st, h, _ => ⟨h, fun _ => rfl, rfl⟩
  | a :: as, s :: sl, st, h, hk => by
    obtain ⟨k1, k2, k3⟩ := hk 0 a s rfl rfl
    have s1 : ∃ st1, (match s.lo with | some n => asmLe st (.i n) a 0 | none => st) = st1 ∧ AS.ok st1 η ∧ (∀ x, mA st1.sl η x = mA st.sl η x) ∧ st1.sl.length = st.sl.length := by
      refine ⟨_, rfl, ?_⟩
      split
      · rename_i n hn
        exact asmLe_ok h (a := .i n) trivial k1 (by have := k2 n hn; show n ≤ _; omega)
      · exact ⟨h, fun _ => rfl, rfl⟩
    obtain ⟨st1, e1, o1, m1, l1⟩ := s1
    have s2 : ∃ st2, (match s.hi with | some n => asmLe st1 a (.i n) 0 | none => st1) = st2 ∧ AS.ok st2 η ∧ (∀ x, mA st2.sl η x = mA st.sl η x) ∧ st2.sl.length = st.sl.length := by
      refine ⟨_, rfl, ?_⟩
      split
      · rename_i n hn
        obtain ⟨q1, q2, q3⟩ := asmLe_ok o1 (b := .i n) (c := 0) (here_len l1 k1) trivial (by rw [m1]; have := k3 n hn; show _ ≤ n + 0; omega)
        exact ⟨q1, fun x => by rw [q2, m1], by rw [q3, l1]⟩
      · exact ⟨o1, m1, l1⟩
    obtain ⟨st2, e2, o2, m2, l2⟩ := s2
    have e3 : asmS st (a :: as) (s :: sl) = asmS st2 as sl := by
      simp only [asmS, e1, e2]
    rw [e3]
    obtain ⟨q1, q2, q3⟩ := asmS_ok (as := as) (sl := sl) o2 (fun k a' s' g1 g2 => by
      obtain ⟨z1, z2, z3⟩ := hk (k + 1) a' s' (by simpa using g1) (by simpa using g2)
      exact ⟨here_len l2 z1, fun n e => by rw [m2]; exact z2 n e, fun n e => by rw [m2]; exact z3 n e⟩)
    exact ⟨q1, fun x => by rw [q2, m2], by rw [q3, l2]⟩

theorem asmF_ok {ats : List Atom} {g : Nat → Int} : ∀ {fs : List (Nat × Nat × Int)} {st : AS}, AS.ok st η → (∀ (k : Nat) (a : Atom), ats[k]? = some a → here st a ∧ mA st.sl η a = g k) →
    (∀ x y c, (x, y, c) ∈ fs → g x ≤ g y + c) → AS.ok (asmF st ats fs) η
  | [], st, h, _, _ => h
  | f :: fs, st, h, hk, hf => by
    simp only [asmF]
    split
    · rename_i a b h1 h2
      obtain ⟨a1, a2⟩ := hk _ _ h1
      obtain ⟨b1, b2⟩ := hk _ _ h2
      have hc := hf f.1 f.2.1 f.2.2 (by simp)
      obtain ⟨q1, q2, q3⟩ := asmLe_ok h (c := f.2.2) a1 b1 (by rw [a2, b2]; exact hc)
      exact asmF_ok q1 (fun k a' e => by obtain ⟨z1, z2⟩ := hk k a' e; exact ⟨here_len q3 z1, by rw [q2]; exact z2⟩) (fun x y c hm => hf x y c (List.mem_cons_of_mem _ hm))
    · exact asmF_ok h hk (fun x y c hm => hf x y c (List.mem_cons_of_mem _ hm))

theorem looks_some_len {η : List PV} {as : List Atom} {ps : List PV} (h : looks η as = some ps) : ps.length = as.length := looks_len h

theorem inst_ok (h : AS.ok st η) {as : List Atom} {n : Nat} {A st' : AS} {vs rs : List PV} (hl : looks η as = some vs) (hA : AS.ok A (vs ++ rs)) (e : inst st as n A = some st') : AS.ok st' (η ++ rs) ∧ rs.length = n := by
  unfold inst at e
  obtain ⟨hc, rfl⟩ := cond_some e
  rw [Bool.and_eq_true] at hc
  have hlen := Nat.eq_of_beq_eq_true hc.1
  have hvl := looks_len hl
  have hAl := hA.len
  rw [List.length_append] at hAl
  have hrn : rs.length = n := by omega
  refine ⟨?_, hrn⟩
  have hsame := sameS_ok h hc.2 hl
  -- the slots of the results
  have hget : ∀ (i : Nat) (s : Slot), (A.sl.drop as.length)[i]? = some s → A.sl[as.length + i]? = some s := fun i s q => by rw [List.getElem?_drop] at q; exact q
  have o1 : AS.ok ⟨st.sl ++ (A.sl.drop as.length).map Slot.clr, st.fs⟩ (η ++ rs) := by
    refine ⟨by simp [h.len]; omega, fun i s p g1 g2 => ?_, fun a b c hm => ?_⟩
    · rcases Nat.lt_or_ge i st.sl.length with q | q
      · rw [List.getElem?_append_left q] at g1
        rw [List.getElem?_append_left (by rw [h.len]; exact q)] at g2
        have k := h.slot i s p g1 g2
        exact ⟨k.t, k.lo, k.hi, Def.ok_pre (Pre.app _ _) k.df⟩
      · rw [List.getElem?_append_right q] at g1
        rw [List.getElem?_append_right (by rw [h.len]; exact q), h.len] at g2
        rw [List.getElem?_map] at g1
        cases hs : (A.sl.drop as.length)[i - st.sl.length]? with
        | none => rw [hs] at g1; cases g1
        | some s0 =>
          rw [hs] at g1
          cases g1
          have k := hA.slot (as.length + (i - st.sl.length)) s0 p (hget _ _ hs) (by rw [List.getElem?_append_right (by omega)]; rw [hvl]; rw [show as.length + (i - st.sl.length) - as.length = i - st.sl.length by omega]; exact g2)
          exact ⟨k.t, k.lo, k.hi, trivial⟩
    · obtain ⟨q1, q2, q3⟩ := h.fact a b c hm
      exact ⟨by simp; omega, by simp; omega, by rw [ms_app q1 h.len, ms_app q2 h.len]; exact q3⟩
  -- what they measure
  have m1 : ∀ (k : Nat) (a : Atom), as[k]? = some a → here ⟨st.sl ++ (A.sl.drop as.length).map Slot.clr, st.fs⟩ a ∧ mA (st.sl ++ (A.sl.drop as.length).map Slot.clr) (η ++ rs) a = ms A.sl (vs ++ rs) k := by
    intro k a hk
    obtain ⟨s, p, g1, g2, g3, g4⟩ := hsame k a hk
    have hr : ms A.sl (vs ++ rs) k = meas s.t p := by
      unfold ms
      rw [g1, List.getElem?_append_left (List.getElem?_eq_some_iff.1 g2).1, g2]
    rw [hr, ← g4]
    cases a with
    | v i =>
      have hi : i < st.sl.length := g3
      refine ⟨?_, ms_app hi h.len⟩
      show i < (st.sl ++ _).length
      rw [List.length_append]; omega
    | i m => exact ⟨trivial, rfl⟩
    | b m => exact ⟨trivial, rfl⟩
    | nil => exact ⟨trivial, rfl⟩
  have s1 := asmS_ok (as := as) (sl := A.sl) o1 (fun k a s g1 g2 => by
    obtain ⟨z1, z2⟩ := m1 k a g1
    refine ⟨z1, ?_⟩
    simp only
    rw [z2]
    obtain ⟨p, f1, f2, f3⟩ := hA.at g2
    rw [f3]
    exact ⟨f2.lo, f2.hi⟩)
  obtain ⟨o2, m2, l2⟩ := s1
  refine asmF_ok (g := ms A.sl (vs ++ rs)) o2 (fun k a hk => ?_) (fun x y c hm => (hA.fact x y c hm).2.2)
  rw [m2]
  rcases Nat.lt_or_ge k as.length with q | q
  · rw [List.getElem?_append_left q] at hk
    obtain ⟨z1, z2⟩ := m1 k a hk
    exact ⟨here_len l2 z1, z2⟩
  · rw [List.getElem?_append_right q] at hk
    obtain ⟨z1, rfl⟩ := vsFrom_get hk
    have hlt : st.sl.length + (k - as.length) < (st.sl ++ (A.sl.drop as.length).map Slot.clr).length := by simp; omega
    refine ⟨here_len l2 (show _ < _ from hlt), ?_⟩
    show ms _ _ _ = _
    unfold ms
    rw [List.getElem?_append_right (by omega), List.getElem?_append_right (by rw [h.len]; omega), h.len, List.getElem?_map, List.getElem?_drop, List.getElem?_append_right (by omega), hvl]
    rw [show st.sl.length + (k - as.length) - st.sl.length = k - as.length by omega, show as.length + (k - as.length) = k by omega]
    cases A.sl[k]? with
    | none => rfl
    | some s => cases rs[k - as.length]? <;> rfl
end
end Gm

/- Totality: a term, with a certificate, ends, and what it yields is as it is told. -/
namespace Gm
open Go

/-- a leaf: which alternative; some bools may be told apart before -/
inductive Lf where
  | at (n : Nat)
  | split (i : Nat) (a b : Lf)
  | no (i j : Nat) (c : Int)
  deriving Inhabited

inductive Cert where
  | leaf (l : Lf)
  | op (w : Nat) (ks : List Cert)
  | ite (a b : Cert)
  | seq (mids : List AS) (a : Cert) (bs : List Cert)
  | loop (inv : AS) (r : Nat) (up : Bool) (d : Nat) (body : Cert)
  | unr (es : List AS) (cs : List Cert)
  | loops (invs : List AS) (r : Nat) (up : Bool) (cs : List Cert)
  | lex (invs : List AS) (r q : Nat) (cs : List Cert)
  | absurd (i j : Nat) (c : Int)
  deriving Inhabited

/-- of each function: what it may be handed, and what it yields then -/
abbrev Sums := List (List (AS × List AS))

def SumOk (F : PF) (x : AS × List AS) : Prop := ∀ args, AS.ok x.1 args → ∃ rs, F args some = some rs ∧ ∃ A ∈ x.2, AS.ok A (args ++ rs)

def SumsOk (tb : List PF) (S : Sums) : Prop := ∀ (i : Nat) (l : List (AS × List AS)), S[i]? = some l → l = [] ∨ ∃ F, tb[i]? = some F ∧ ∀ x ∈ l, SumOk F x

def sh (g : Nat) : Atom → Atom
  | .v i => .v (i + g)
  | a => a

def gh (g : Nat) : List Atom := vsFrom 0 g

def bump (g i : Nat) : Nat := bif Nat.blt i g then i else i + 1

/-- a state of a loop, with what a slot was worth before as one more ghost -/
def inAS (inv : AS) (g r : Nat) (more : List (Nat × Nat × Int)) : AS :=
  ⟨inv.sl.take g ++ ⟨.int, loS inv.sl (g + r), hiS inv.sl (g + r), .none⟩ :: inv.sl.drop g, more ++ inv.fs.map fun f => (bump g f.1, bump g f.2.1, f.2.2)⟩

def allAlts (f : AS → Cert → Bool) : List AS → List Cert → Bool
  | [], _ => true
  | A :: As, [c] => f A c && allAlts f As [c]
  | A :: As, c :: cs => f A c && allAlts f As cs
  | _, _ => false

/-- a loop's rounds, one by one -/
def allUnr (f : AS → Cert → List AS → Bool) : List AS → List Cert → Bool
  | [e], c :: _ => f e c []
  | e :: e' :: es, c :: cs => f e c [e'] && allUnr f (e' :: es) cs
  | _, _ => false

def rankOk (inv : AS) (i : Nat) : Bool := match inv.sl[i]? with
  | some s => match s.t, s.lo, s.hi with
    | .int, some l, some h => Nat.blt (h - l).toNat 18446744073709551616
    | _, _, _ => false
  | none => false

/-- the counter's slot: its bound is what the rank allows -/
def cntOk (inv : AS) (g i d : Nat) : Bool := match inv.sl[g]?, inv.sl[i]? with
  | some s, some r => match s.t, s.lo, s.hi, r.lo, r.hi with
    | .int, some z, some m, some l, some h => decide (z ≤ 0) && decide ((d : Int) * (h - l) ≤ m)
    | _, _, _, _, _ => false
  | _, _ => false

def dropHi (A : AS) (g : Nat) : AS := ⟨A.sl.modify g fun s => { s with hi := none }, A.fs⟩

/-- facts on the counter as it was a round ago -/
def shG (inv : AS) (g d : Nat) : AS :=
  ⟨inv.sl, inv.fs.map fun f => (f.1, f.2.1, bif Nat.beq f.2.1 g then f.2.2 + (d : Int) else bif Nat.beq f.1 g then f.2.2 - (d : Int) else f.2.2)⟩

def plusNw (g d : Nat) : Nw := { t := .int, lo := some (d : Int), up := [(g, (d : Int))], dn := [(g, -(d : Int))] }

def stepFact (g r : Nat) (up : Bool) : Nat × Nat × Int := bif up then (g, g + 1 + r, -1) else (g + 1 + r, g, -1)

def no (st : AS) (i j : Nat) (d : Int) : Bool := le st far i j d && le st far j i (-1 - d)

def bad (c : Cert) (st : AS) : Bool := match c with
  | .absurd i j d => no st i j d
  | _ => false

def leafOk (alts : List AS) (ats : List Atom) : Lf → AS → Bool
  | .at n, st => match alts[n]? with
    | some A => ent st ats A
    | none => false
  | .split i a b, st => isBool st (.v i) && (leafOk alts ats a (asmB st 3 (.v i) true) && leafOk alts ats b (asmB st 3 (.v i) false))
  | .no i j c, st => no st i j c

def rankAt (I : AS) (i : Nat) (lo hi : Int) : Bool := match I.sl[i]? with
  | some s => match s.t, s.lo, s.hi with
    | .int, some l, some h => decide (lo ≤ l) && decide (h ≤ hi)
    | _, _, _ => false
  | none => false

/-- one of a loop's states -/
def invOk (I : AS) (g r : Nat) (up : Bool) (n : Nat) (lo hi : Int) : Bool :=
  (Nat.beq I.sl.length (g + n) && rankAt I (g + r) lo hi) && (ent I (gh g ++ (.v (g + r) :: vsFrom g n)) (inAS I g r [(g, g + 1 + r, 0), (g + 1 + r, g, 0)]) &&
    ent (inAS I g r [stepFact g r up]) (gh g ++ vsFrom (g + 1) n) I)

/-- a state of a loop, with what two slots were worth before -/
def inL (I : AS) (g r q : Nat) (m1 m2 : List (Nat × Nat × Int)) : AS := inAS (inAS I g r m1) (g + 1) q m2

/-- the one falls, or the other one grows -/
def lexA (I : AS) (g r q : Nat) : AS := inL I g r q [(g + 1 + r, g, -1)] [(g + 1, g + 1 + 1 + q, 0)]
def lexB (I : AS) (g r q : Nat) : AS := inL I g r q [(g + 1 + r, g, 0)] [(g + 1, g + 1 + 1 + q, -1)]
def lexE (I : AS) (g r q : Nat) : AS := inL I g r q [(g, g + 1 + r, 0), (g + 1 + r, g, 0)] [(g + 1, g + 1 + 1 + q, 0), (g + 1 + 1 + q, g + 1, 0)]

def lexOk (I : AS) (g r q n : Nat) (lo hi lo' hi' : Int) : Bool :=
  ((Nat.beq I.sl.length (g + n) && rankAt I (g + r) lo hi) && rankAt I (g + q) lo' hi') && (ent I (gh g ++ (.v (g + r) :: .v (g + q) :: vsFrom g n)) (lexE I g r q) &&
    (ent (lexA I g r q) (gh g ++ vsFrom (g + 1 + 1) n) I && ent (lexB I g r q) (gh g ++ vsFrom (g + 1 + 1) n) I))

def chk (S : Sums) (g0 : Nat) (post : List AS) : T → Cert → Nat → AS → List (Nat × List AS) → Bool
  | .fail, c, _, st, _ => bad c st
  | .ret as, c, g, st, _ => match c with
    | .leaf l => leafOk post (gh g0 ++ as.map (sh g)) l st
    | c => bad c st
  | .jump l as, c, g, st, js => match c with
    | .leaf f => match js[l]? with
      | some x => leafOk x.2 (gh x.1 ++ as.map (sh g)) f st
      | none => false
    | c => bad c st
  | .op p as n k, c, g, st, js => match c with
    | .op w ks => match p with
      | .call i => match S[i]? with
        | some vs => match vs[w]? with
          | some x => ent st (as.map (sh g)) x.1 && allAlts (fun A c' => match inst st (as.map (sh g)) n A with
            | some st' => chk S g0 post k c' g st' js
            | none => false) x.2 ks
          | none => false
        | none => false
      | p => match ks, tr st w p (as.map (sh g)) with
        | [c'], some none => Nat.beq n 0 && chk S g0 post k c' g st js
        | [c'], some (some nw) => Nat.beq n 1 && chk S g0 post k c' g (push st nw) js
        | [c1, c2], some (some nw) => (Nat.beq n 1 && (Nat.blt (w / 65536) (st.sl.length + 1) && Nat.blt (w % 65536) (st.sl.length + 1))) &&
          (chk S g0 post k c1 g (asmLe (push st nw) (.v (w / 65536)) (.v (w % 65536)) 0) js && chk S g0 post k c2 g (asmLe (push st nw) (.v (w % 65536)) (.v (w / 65536)) (-1)) js)
        | _, _ => false
    | c => bad c st
  | .ite c0 a b, c, g, st, js => match c with
    | .ite ca cb => isBool st (sh g c0) && (chk S g0 post a ca g (asmB st 3 (sh g c0) true) js && chk S g0 post b cb g (asmB st 3 (sh g c0) false) js)
    | c => bad c st
  | .seq a b, c, g, st, js => match c with
    | .seq mids ca cbs => chk S g0 post a ca g st ((g, mids) :: js) && allAlts (fun A c' => chk S g0 post b c' g A js) mids cbs
    | c => bad c st
  | .loop init body, c, g, st, js => match c with
    | .loop inv r up d cb => (((ent st (gh g ++ (.i 0 :: init.map (sh g))) inv && Nat.beq inv.sl.length (g + 1 + init.length)) && (rankOk inv (g + 1 + r) && cntOk inv g (g + 1 + r) d)) &&
        (ent inv (gh (g + 1) ++ (.v (g + 1 + r) :: vsFrom (g + 1) init.length)) (inAS inv (g + 1) r [(g + 1, g + 1 + 1 + r, 0), (g + 1 + 1 + r, g + 1, 0)]) &&
          ent (push (inAS (shG inv g d) (g + 1) r [stepFact (g + 1) r up]) (plusNw g d)) (gh g ++ (.v (g + 1 + 1 + init.length) :: vsFrom (g + 1 + 1) init.length)) (dropHi inv g))) &&
        chk S g0 post body cb (g + 1 + 1) (inAS inv (g + 1) r [(g + 1, g + 1 + 1 + r, 0), (g + 1 + 1 + r, g + 1, 0)]) ((g + 1 + 1, [inAS (shG inv g d) (g + 1) r [stepFact (g + 1) r up]]) :: js)
    | .loops invs r up cs => match invs with
      | I0 :: _ => match loS I0.sl (g + r), hiS I0.sl (g + r) with
        | some lo, some hi => ((ent st (gh g ++ init.map (sh g)) I0 && Nat.blt (hi - lo).toNat 18446744073709551616) && invs.all (fun I => invOk I g r up init.length lo hi)) &&
            allAlts (fun I c' => chk S g0 post body c' (g + 1) (inAS I g r [(g, g + 1 + r, 0), (g + 1 + r, g, 0)]) ((g + 1, invs.map fun I => inAS I g r [stepFact g r up]) :: js)) invs cs
        | _, _ => false
      | [] => false
    | .lex invs r q cs => match invs with
      | I0 :: _ => match loS I0.sl (g + r), hiS I0.sl (g + r), loS I0.sl (g + q), hiS I0.sl (g + q) with
        | some lo, some hi, some lo', some hi' => ((ent st (gh g ++ init.map (sh g)) I0 && Nat.blt (hi - lo + (hi' - lo')).toNat 18446744073709551616) && invs.all (fun I => lexOk I g r q init.length lo hi lo' hi')) &&
            allAlts (fun I c' => chk S g0 post body c' (g + 1 + 1) (lexE I g r q) ((g + 1 + 1, invs.flatMap fun I => [lexA I g r q, lexB I g r q]) :: js)) invs cs
        | _, _, _, _ => false
      | [] => false
    | .unr es cs => match es with
      | e0 :: _ => (ent st (gh g ++ init.map (sh g)) e0 && Nat.ble es.length 1000) && allUnr (fun e c' nxt => chk S g0 post body c' g e ((g, nxt) :: js)) es cs
      | [] => false
    | c => bad c st

def Good (g0 : Nat) (post : List AS) (γ : List PV) (js : List (Nat × List AS)) : Out → Prop
  | .ret v => ∃ A ∈ post, AS.ok A (γ.take g0 ++ v)
  | .jump l v => ∃ x, js[l]? = some x ∧ ∃ A ∈ x.2, AS.ok A (γ.take x.1 ++ v)

theorem no_no {st : AS} {η : List PV} (h : AS.ok st η) {i j : Nat} {d : Int} : no st i j d = false := by
  cases hb : no st i j d with
  | false => rfl
  | true =>
    exfalso
    unfold no at hb
    rw [Bool.and_eq_true] at hb
    have h1 := le_ok h _ _ _ hb.1
    have h2 := le_ok h _ _ _ hb.2
    omega

theorem leafOk_ok {alts : List AS} {ats : List Atom} {η : List PV} : ∀ {l : Lf} {st : AS}, AS.ok st η → leafOk alts ats l st = true → ∃ v, looks η ats = some v ∧ ∃ A ∈ alts, AS.ok A v
  | .at n, st, h, e => by
    simp only [leafOk] at e
    split at e
    · rename_i A hA
      obtain ⟨v, h1, h2⟩ := ent_ok h e
      exact ⟨v, h1, A, List.mem_of_getElem? hA, h2⟩
    · cases e
  | .split i a b, st, h, e => by
    simp only [leafOk] at e
    rw [Bool.and_eq_true, Bool.and_eq_true] at e
    obtain ⟨x, h1, h2⟩ := isBool_ok h e.1
    have h3 := asmB_ok 3 _ x h h1 h2
    cases x with
    | true => exact leafOk_ok h3 e.2.1
    | false => exact leafOk_ok h3 e.2.2
  | .no i j d, st, h, e => by
    simp only [leafOk] at e
    rw [no_no h] at e
    cases e

theorem bad_no {st : AS} {η : List PV} (h : AS.ok st η) {c : Cert} : bad c st = false := by
  unfold bad
  split
  · exact no_no h
  · rfl

theorem allAlts_ok {f : AS → Cert → Bool} : ∀ {As : List AS} {cs : List Cert}, allAlts f As cs = true → ∀ A ∈ As, ∃ c, f A c = true
  | [], cs, _, A, h => by cases h
  | B :: As, [], e, A, h => by cases e
  | B :: As, [c], e, A, h => by
    simp only [allAlts] at e
    rw [Bool.and_eq_true] at e
    rcases List.mem_cons.1 h with rfl | h
    · exact ⟨c, e.1⟩
    · exact allAlts_ok e.2 A h
  | B :: As, c :: c2 :: cs, e, A, h => by
    simp only [allAlts] at e
    rw [Bool.and_eq_true] at e
    rcases List.mem_cons.1 h with rfl | h
    · exact ⟨c, e.1⟩
    · exact allAlts_ok e.2 A h

theorem look_sh {γ η : List PV} (a : Atom) : look (γ ++ η) (sh γ.length a) = look η a := by
  cases a with
  | v i =>
    simp only [sh, look]
    rw [List.getElem?_append_right (by omega), Nat.add_sub_cancel]
  | _ => rfl

theorem looks_sh {γ η : List PV} : ∀ (as : List Atom), looks (γ ++ η) (as.map (sh γ.length)) = looks η as
  | [] => rfl
  | a :: as => by simp only [List.map_cons, looks, look_sh, looks_sh as]

theorem looks_append {η : List PV} : ∀ {as bs : List Atom} {v : List PV}, looks η (as ++ bs) = some v ↔ ∃ u w, looks η as = some u ∧ looks η bs = some w ∧ v = u ++ w
  | [], bs, v => by simp [looks]
  | a :: as, bs, v => by
    simp only [List.cons_append, looks]
    cases look η a with
    | none => simp
    | some p =>
      simp only
      constructor
      · intro h
        cases hx : looks η (as ++ bs) with
        | none => rw [hx] at h; cases h
        | some q =>
          rw [hx] at h
          obtain ⟨u, w, h1, h2, h3⟩ := looks_append.1 hx
          cases h
          exact ⟨p :: u, w, by rw [h1], h2, by rw [h3]; rfl⟩
      · rintro ⟨u, w, h1, h2, h3⟩
        cases hy : looks η as with
        | none => rw [hy] at h1; cases h1
        | some q =>
          rw [hy] at h1
          cases h1
          rw [looks_append.2 ⟨q, w, hy, h2, rfl⟩, h3]
          rfl

theorem looks_vs : ∀ (b a c : List PV), looks (a ++ (b ++ c)) (vsFrom a.length b.length) = some b
  | [], a, c => rfl
  | p :: b, a, c => by
    simp only [vsFrom, List.length_cons, looks, look]
    rw [List.getElem?_append_right (Nat.le_refl _)]
    simp only [Nat.sub_self, List.cons_append, List.getElem?_cons_zero]
    have h := looks_vs b (a ++ [p]) c
    rw [List.length_append, List.append_assoc] at h
    simp only [List.length_singleton, List.singleton_append] at h
    rw [h]

theorem looks_gh {γ η : List PV} {g : Nat} (h : g ≤ γ.length) : looks (γ ++ η) (gh g) = some (γ.take g) := by
  have k := looks_vs (γ.take g) [] (γ.drop g ++ η)
  rw [List.nil_append, ← List.append_assoc, List.take_append_drop, List.length_take, Nat.min_eq_left h] at k
  exact k

theorem step_ev2 {tb : List PF} {p : Prim} (h : ∀ i, p ≠ .call i) (vs : List PV) : step tb p vs = ev p vs := by
  cases p <;> first | rfl | exact absurd rfl (h _)

theorem chk_prim {S : Sums} {g0 : Nat} {post : List AS} {p : Prim} {as : List Atom} {n : Nat} {k : T} {w : Nat} {ks : List Cert} {g : Nat} {st : AS} {js : List (Nat × List AS)} (h : ∀ i, p ≠ .call i) :
    chk S g0 post (.op p as n k) (.op w ks) g st js = match ks, tr st w p (as.map (sh g)) with
        | [c'], some none => Nat.beq n 0 && chk S g0 post k c' g st js
        | [c'], some (some nw) => Nat.beq n 1 && chk S g0 post k c' g (push st nw) js
        | [c1, c2], some (some nw) => (Nat.beq n 1 && (Nat.blt (w / 65536) (st.sl.length + 1) && Nat.blt (w % 65536) (st.sl.length + 1))) &&
          (chk S g0 post k c1 g (asmLe (push st nw) (.v (w / 65536)) (.v (w % 65536)) 0) js && chk S g0 post k c2 g (asmLe (push st nw) (.v (w % 65536)) (.v (w / 65536)) (-1)) js)
        | _, _ => false := by
  cases p <;> first | rfl | exact absurd rfl (h _)

end Gm

/- Totality: the check is sound. -/
namespace Gm
open Go

theorem iter_rank {f : List PV → Option Out} {P : List PV → Prop} {G : Out → Prop} (m : List PV → Nat)
    (hstep : ∀ v, P v → ∃ o, f v = some o ∧ match o with
      | .jump 0 v' => P v' ∧ m v' < m v
      | .jump (l + 1) v' => G (.jump l v')
      | .ret v' => G (.ret v')) : ∀ (n : Nat) v, P v → m v < n → ∃ o, iterO f n v = some o ∧ G o
  | 0, v, _, h => absurd h (Nat.not_lt_zero _)
  | n + 1, v, hp, h => by
    obtain ⟨o, h1, h2⟩ := hstep v hp
    simp only [iterO, h1]
    cases o with
    | ret v' => exact ⟨_, rfl, h2⟩
    | jump l v' =>
      cases l with
      | zero => exact iter_rank m hstep n v' h2.1 (by have := h2.2; omega)
      | succ l => exact ⟨_, rfl, h2⟩

theorem inAS_get {inv : AS} {g r i : Nat} {more : List (Nat × Nat × Int)} (hg : g ≤ inv.sl.length) (hi : g ≤ i) : (inAS inv g r more).sl[i + 1]? = inv.sl[i]? := by
  have hl : (inv.sl.take g).length = g := by rw [List.length_take]; omega
  unfold inAS
  rw [List.getElem?_append_right (by omega), hl, show i + 1 - g = (i - g) + 1 by omega, List.getElem?_cons_succ, List.getElem?_drop, show g + (i - g) = i by omega]

theorem inAS_get0 {inv : AS} {g r : Nat} {more : List (Nat × Nat × Int)} (hg : g ≤ inv.sl.length) : (inAS inv g r more).sl[g]? = some ⟨.int, loS inv.sl (g + r), hiS inv.sl (g + r), .none⟩ := by
  have hl : (inv.sl.take g).length = g := by rw [List.length_take]; omega
  unfold inAS
  rw [List.getElem?_append_right (by omega), hl, Nat.sub_self, List.getElem?_cons_zero]

theorem rankOk_ok {inv : AS} {η : List PV} (h : AS.ok inv η) {i : Nat} (e : rankOk inv i = true) :
    ∃ s x l u, inv.sl[i]? = some s ∧ s.t = .int ∧ η[i]? = some (.int x) ∧ s.lo = some l ∧ s.hi = some u ∧ l ≤ x ∧ x ≤ u ∧ (u - l).toNat < 18446744073709551616 ∧ ms inv.sl η i = x := by
  unfold rankOk at e
  split at e
  · rename_i s hs
    split at e
    · rename_i l u h1 h2 h3
      obtain ⟨p, g1, g2, g3⟩ := h.at hs
      have ht := g2.t
      rw [h1] at ht
      cases p with
      | int x =>
        have k1 := g2.lo l h2
        have k2 := g2.hi u h3
        rw [h1] at k1 k2 g3
        simp only [meas] at k1 k2 g3
        exact ⟨s, x, l, u, hs, h1, g1, h2, h3, k1, k2, blt_lt e, g3⟩
      | bool b => exact ht.elim
      | ints b => exact ht.elim
      | str b => exact ht.elim
    · cases e
  · cases e

theorem take_take' {γ : List PV} {a : Nat} {x : List PV} (h : a ≤ γ.length) : (γ ++ x).take a = γ.take a := by rw [List.take_append_of_le_length h]

/-- a number in a list of values -/
def xAt (v : List PV) (r : Nat) : Int := match v[r]? with
  | some (.int x) => x
  | _ => 0

theorem xAt_of {γ v : List PV} {r : Nat} {x : Int} {a : PV} (h : (γ ++ (a :: v))[γ.length + 1 + r]? = some (.int x)) : xAt v r = x := by
  rw [List.getElem?_append_right (by omega), show γ.length + 1 + r - γ.length = r + 1 by omega, List.getElem?_cons_succ] at h
  unfold xAt
  rw [h]

structure Cnt (inv : AS) (g i d : Nat) (lo hi : Int) : Prop where
  ex : ∃ s m, inv.sl[g]? = some s ∧ s.t = .int ∧ s.hi = some m ∧ (d : Int) * (hi - lo) ≤ m
  rx : ∃ s, inv.sl[i]? = some s ∧ s.lo = some lo ∧ s.hi = some hi

theorem inAS_lt {inv : AS} {g r i : Nat} {more : List (Nat × Nat × Int)} (hg : g ≤ inv.sl.length) (hi : i < g) : (inAS inv g r more).sl[i]? = inv.sl[i]? := by
  unfold inAS
  rw [List.getElem?_append_left (by rw [List.length_take]; omega), List.getElem?_take, if_pos hi]

theorem cntOk_ok {inv : AS} {g i d : Nat} (e : cntOk inv g i d = true) : ∃ lo hi, Cnt inv g i d lo hi := by
  unfold cntOk at e
  split at e
  · rename_i s r h1 h2
    split at e
    · rename_i z m l h t1 t2 t3 t4 t5
      simp only [Bool.and_eq_true, decide_eq_true_eq] at e
      exact ⟨l, h, ⟨s, m, h1, t1, t3, e.2⟩, r, h2, t4, t5⟩
    · cases e
  · cases e

theorem dropped {inv : AS} {g : Nat} {η : List PV} (h : AS.ok inv η) : AS.ok (dropHi inv g) η :=
  h.modify (f := fun s => { s with hi := none }) (fun _ => rfl) (fun _ _ _ _ k _ => ⟨k.t, k.lo, fun n e => (by cases e), k.df⟩)

theorem drop_get {inv : AS} {g i : Nat} {s : Slot} (h : inv.sl[i]? = some s) (hi : i ≠ g) : (dropHi inv g).sl[i]? = some s := by
  unfold dropHi
  rw [List.getElem?_modify, h]
  have : ¬ g = i := fun q => hi q.symm
  simp [this]

theorem undrop {inv : AS} {g i d : Nat} {lo hi G : Int} {γ v : List PV} (c : Cnt inv g i d lo hi) (h : AS.ok (dropHi inv g) (γ ++ (.int G :: v))) (hg : γ.length = g) (hG : (d : Int) * (hi - lo) ≥ G) : AS.ok inv (γ ++ (.int G :: v)) := by
  refine ⟨by have := h.len; simpa [dropHi] using this, fun j s p h1 h2 => ?_, fun a b e hm => ?_⟩
  · by_cases hj : j = g
    · subst hj
      obtain ⟨s', m, c1, c2, c3, c4⟩ := c.ex
      rw [c1] at h1; cases h1
      have h3 : (dropHi inv j).sl[j]? = some { s with hi := none } := by
        unfold dropHi
        rw [List.getElem?_modify, c1]
        simp
      have k := h.slot j _ p h3 h2
      rw [List.getElem?_append_right (by omega), hg, Nat.sub_self, List.getElem?_cons_zero] at h2
      cases h2
      refine ⟨k.t, k.lo, fun n e => ?_, k.df⟩
      rw [c3] at e; cases e
      rw [c2]
      show G ≤ m
      omega
    · exact h.slot j s p (drop_get h1 hj) h2
  · obtain ⟨a1, a2, a3⟩ := h.fact a b e hm
    have hf : ∀ s : Slot, ({ s with hi := none } : Slot).t = s.t := fun _ => rfl
    simp only [dropHi] at a1 a2 a3
    rw [ms_modify hf, ms_modify hf] at a3
    exact ⟨by simpa using a1, by simpa using a2, a3⟩

theorem rank_val {inv : AS} {g r d : Nat} {lo hi : Int} {γ v : List PV} {a : PV} (c : Cnt inv g (g + 1 + r) d lo hi) (e : rankOk inv (g + 1 + r) = true) (h : AS.ok (dropHi inv g) (γ ++ (a :: v))) (_hh : g < g + 1 + r) (_hg : γ.length = g) :
    ∃ x, (γ ++ (a :: v))[g + 1 + r]? = some (.int x) ∧ lo ≤ x ∧ x ≤ hi ∧ (hi - lo).toNat < 18446744073709551616 := by
  obtain ⟨s, c1, c2, c3⟩ := c.rx
  have h1 := drop_get (g := g) c1 (by omega)
  obtain ⟨p, g1, g2, _⟩ := h.at h1
  unfold rankOk at e
  rw [c1] at e
  simp only at e
  rw [c2, c3] at e
  have ht : s.t = .int ∧ (hi - lo).toNat < 18446744073709551616 := by
    cases hs : s.t with
    | int => rw [hs] at e; exact ⟨rfl, blt_lt e⟩
    | bool => rw [hs] at e; cases e
    | ints a b d => rw [hs] at e; cases e
    | str => rw [hs] at e; cases e
  have k := g2.t
  rw [ht.1] at k
  obtain ⟨x, rfl⟩ : ∃ x, p = .int x := by
    cases p with
    | int n => exact ⟨n, rfl⟩
    | bool b => exact k.elim
    | ints l => exact k.elim
    | str b => exact k.elim
  have k1 := g2.lo lo c2
  have k2 := g2.hi hi c3
  rw [ht.1] at k1 k2
  exact ⟨x, g1, k1, k2, ht.2⟩

theorem Cnt.r2 {inv : AS} {g i d : Nat} {lo hi : Int} (c : Cnt inv g i d lo hi) (e : rankOk inv i = true) : ∃ s, inv.sl[i]? = some s ∧ s.t = .int := by
  obtain ⟨s, c1, c2, c3⟩ := c.rx
  refine ⟨s, c1, ?_⟩
  unfold rankOk at e
  rw [c1] at e
  simp only at e
  rw [c2, c3] at e
  cases hs : s.t with
  | int => rfl
  | bool => rw [hs] at e; cases e
  | ints a b d => rw [hs] at e; cases e
  | str => rw [hs] at e; cases e

theorem unr_ok {f : AS → Cert → List AS → Bool} {F : List PV → Option Out} {g0 g : Nat} {post : List AS} {γ : List PV} {js : List (Nat × List AS)} (hg : γ.length = g)
    (hb : ∀ (e : AS) (c : Cert) (nxt : List AS) (v : List PV), f e c nxt = true → AS.ok e (γ ++ v) → ∃ o, F v = some o ∧ Good g0 post γ ((g, nxt) :: js) o) :
    ∀ (es : List AS) (cs : List Cert) (e0 : AS) (tl : List AS) (v : List PV) (n : Nat), es = e0 :: tl → allUnr f es cs = true → AS.ok e0 (γ ++ v) → es.length ≤ n → ∃ o, iterO F n v = some o ∧ Good g0 post γ js o
  | [], cs, e0, tl, v, n, he, _, _, _ => by cases he
  | [e], [], e0, tl, v, n, he, h, _, _ => by cases h
  | e :: e' :: es, [], e0, tl, v, n, he, h, _, _ => by cases h
  | [e], c :: cs, e0, tl, v, n, he, h, hv, hn => by
    cases he
    simp only [allUnr] at h
    obtain ⟨o, h1, h2⟩ := hb _ _ _ _ h hv
    obtain ⟨n, rfl⟩ : ∃ m, n = m + 1 := ⟨n - 1, by simp at hn; omega⟩
    simp only [iterO, h1]
    cases o with
    | ret v' => exact ⟨_, rfl, h2⟩
    | jump l v' =>
      obtain ⟨x, z1, A, z2, z3⟩ := h2
      cases l with
      | zero =>
        simp only [List.getElem?_cons_zero, Option.some.injEq] at z1
        subst z1
        cases z2
      | succ l =>
        rw [List.getElem?_cons_succ] at z1
        exact ⟨_, rfl, x, z1, A, z2, z3⟩
  | e :: e' :: es, c :: cs, e0, tl, v, n, he, h, hv, hn => by
    cases he
    simp only [allUnr] at h
    rw [Bool.and_eq_true] at h
    obtain ⟨o, h1, h2⟩ := hb _ _ _ _ h.1 hv
    obtain ⟨n, rfl⟩ : ∃ m, n = m + 1 := ⟨n - 1, by simp at hn; omega⟩
    simp only [iterO, h1]
    cases o with
    | ret v' => exact ⟨_, rfl, h2⟩
    | jump l v' =>
      obtain ⟨x, z1, A, z2, z3⟩ := h2
      cases l with
      | zero =>
        simp only [List.getElem?_cons_zero, Option.some.injEq] at z1
        subst z1
        rw [List.mem_singleton] at z2
        subst z2
        simp only [← hg, List.take_length] at z3
        exact unr_ok hg hb (A :: es) cs A es v' n rfl h.2 z3 (by simp at hn ⊢; omega)
      | succ l =>
        rw [List.getElem?_cons_succ] at z1
        exact ⟨_, rfl, x, z1, A, z2, z3⟩

theorem rankAt_ok {I : AS} {η : List PV} (h : AS.ok I η) {i : Nat} {lo hi : Int} (e : rankAt I i lo hi = true) : ∃ s x, I.sl[i]? = some s ∧ s.t = .int ∧ η[i]? = some (.int x) ∧ lo ≤ x ∧ x ≤ hi ∧ ms I.sl η i = x := by
  unfold rankAt at e
  split at e
  · rename_i s hs
    split at e
    · rename_i l u h1 h2 h3
      simp only [Bool.and_eq_true, decide_eq_true_eq] at e
      obtain ⟨p, g1, g2, g3⟩ := h.at hs
      have ht := g2.t
      rw [h1] at ht
      obtain ⟨x, rfl⟩ : ∃ x, p = .int x := by
        cases p with
        | int n => exact ⟨n, rfl⟩
        | bool b => exact ht.elim
        | ints l => exact ht.elim
        | str b => exact ht.elim
      have k1 := g2.lo l h2
      have k2 := g2.hi u h3
      rw [h1] at k1 k2 g3
      simp only [meas] at k1 k2 g3
      exact ⟨s, x, hs, h1, g1, by omega, by omega, g3⟩
    · cases e
  · cases e

theorem xAt_of2 {γ v : List PV} {r : Nat} {x : Int} (h : (γ ++ v)[γ.length + r]? = some (.int x)) : xAt v r = x := by
  rw [List.getElem?_append_right (by omega), Nat.add_sub_cancel_left] at h
  unfold xAt
  rw [h]

theorem loops_step {F : List PV → Option Out} {g0 g r n : Nat} {post : List AS} {γ : List PV} {js : List (Nat × List AS)} {invs : List AS} {up : Bool} {lo hi : Int} (hg : γ.length = g) (h0 : g0 ≤ g) (hj : ∀ x ∈ js, x.1 ≤ g)
    (hi' : ∀ I ∈ invs, invOk I g r up n lo hi = true)
    (hb : ∀ I ∈ invs, ∀ (x : Int) (v : List PV), AS.ok (inAS I g r [(g, g + 1 + r, 0), (g + 1 + r, g, 0)]) ((γ ++ [.int x]) ++ v) → ∃ o, F v = some o ∧ Good g0 post (γ ++ [.int x]) ((g + 1, invs.map fun I => inAS I g r [stepFact g r up]) :: js) o)
    (v : List PV) (hP : ∃ I ∈ invs, AS.ok I (γ ++ v)) : ∃ o, F v = some o ∧ match o with
      | .jump 0 v' => (∃ I ∈ invs, AS.ok I (γ ++ v')) ∧ (bif up then (hi - xAt v' r).toNat else (xAt v' r - lo).toNat) < (bif up then (hi - xAt v r).toNat else (xAt v r - lo).toNat)
      | .jump (l + 1) v' => Good g0 post γ js (.jump l v')
      | .ret v' => Good g0 post γ js (.ret v') := by
  obtain ⟨I, hI, hv⟩ := hP
  have e := hi' I hI
  simp only [invOk, Bool.and_eq_true] at e
  obtain ⟨⟨e0, e2⟩, e3, e4⟩ := e
  have hil : I.sl.length = g + n := Nat.eq_of_beq_eq_true e0
  have hvl : v.length = n := by have := hv.len; rw [List.length_append, hg, hil] at this; omega
  obtain ⟨s, x, t1, t2, t3, t6, t7, t9⟩ := rankAt_ok hv e2
  have hxr : xAt v r = x := xAt_of2 (by rw [hg]; exact t3)
  obtain ⟨u', p1, p2⟩ := ent_ok hv e3
  obtain ⟨u1, w1, p3, p4, p5⟩ := looks_append.1 p1
  rw [looks_gh (by omega), ← hg, List.take_length] at p3
  cases p3
  have p6 : look (γ ++ v) (.v (γ.length + r)) = some (.int x) := by rw [hg]; exact t3
  have p7 : looks (γ ++ v) (vsFrom γ.length n) = some v := by
    have := looks_vs v γ []
    rw [List.append_nil, hvl] at this
    exact this
  rw [← hg] at p4
  simp only [looks, p6, p7] at p4
  cases p4
  subst p5
  have p2' : AS.ok (inAS I g r [(g, g + 1 + r, 0), (g + 1 + r, g, 0)]) ((γ ++ [.int x]) ++ v) := by rw [List.append_assoc]; exact p2
  obtain ⟨o, h9, h10⟩ := hb I hI x v p2'
  refine ⟨o, h9, ?_⟩
  cases o with
  | ret v' =>
    obtain ⟨A, z1, z2⟩ := h10
    exact ⟨A, z1, by rw [take_take' (by omega)] at z2; exact z2⟩
  | jump l v' =>
    cases l with
    | succ l =>
      obtain ⟨y, z1, A, z2, z3⟩ := h10
      rw [List.getElem?_cons_succ] at z1
      exact ⟨y, z1, A, z2, by rw [take_take' (by rw [hg]; exact hj y (List.mem_of_getElem? z1))] at z3; exact z3⟩
    | zero =>
      obtain ⟨y, z1, A, z2, z3⟩ := h10
      simp only [List.getElem?_cons_zero, Option.some.injEq] at z1
      subst z1
      obtain ⟨I', hI', rfl⟩ := List.mem_map.1 z2
      have e' := hi' I' hI'
      simp only [invOk, Bool.and_eq_true] at e'
      obtain ⟨⟨e0', e2'⟩, e3', e4'⟩ := e'
      have hil' : I'.sl.length = g + n := Nat.eq_of_beq_eq_true e0'
      have z4 : (γ ++ [PV.int x]).take (g + 1) = γ ++ [.int x] := List.take_of_length_le (by simp [hg])
      simp only [z4] at z3
      have hv'l : v'.length = n := by
        have := z3.len
        have hl2 : (inAS I' g r [stepFact g r up]).sl.length = I'.sl.length + 1 := by unfold inAS; simp; omega
        rw [hl2, List.length_append, List.length_append, hg, hil'] at this
        simp at this; omega
      obtain ⟨u', p1, p2⟩ := ent_ok z3 e4'
      obtain ⟨u1, w1, p3, p4, p5⟩ := looks_append.1 p1
      rw [List.append_assoc, looks_gh (by omega), ← hg, List.take_length] at p3
      cases p3
      have p7 : looks (γ ++ [PV.int x] ++ v') (vsFrom (γ.length + 1) n) = some v' := by
        have := looks_vs v' (γ ++ [PV.int x]) []
        rw [List.append_nil, hv'l, List.length_append, List.length_singleton] at this
        exact this
      rw [← hg, p7] at p4
      cases p4
      subst p5
      refine ⟨⟨I', hI', p2⟩, ?_⟩
      obtain ⟨s', x', y1, y2, y3, y6, y7, y9⟩ := rankAt_ok p2 e2'
      have hxr' : xAt v' r = x' := xAt_of2 (by rw [hg]; exact y3)
      have m1 : ms (inAS I' g r [stepFact g r up]).sl (γ ++ [PV.int x] ++ v') g = x := by
        unfold ms
        rw [inAS_get0 (by omega), List.append_assoc, List.getElem?_append_right (by omega), hg, Nat.sub_self]
        rfl
      have m2 : ms (inAS I' g r [stepFact g r up]).sl (γ ++ [PV.int x] ++ v') (g + 1 + r) = ms I'.sl (γ ++ v') (g + r) := by
        unfold ms
        rw [show g + 1 + r = g + r + 1 by omega, inAS_get (by omega) (by omega), List.getElem?_append_right (by simp; omega), List.getElem?_append_right (show γ.length ≤ g + r by omega)]
        rw [List.length_append, List.length_singleton, hg, show g + r + 1 - (g + 1) = g + r - g by omega]
      rw [hxr, hxr']
      cases up with
      | true =>
        have f := (z3.fact g (g + 1 + r) (-1) (by unfold inAS; simp [stepFact])).2.2
        rw [m1, m2, y9] at f
        simp only [cond_true]
        omega
      | false =>
        have f := (z3.fact (g + 1 + r) g (-1) (by unfold inAS; simp [stepFact])).2.2
        rw [m1, m2, y9] at f
        simp only [cond_false]
        omega

/-- what slots measure, a slot more in their midst -/
theorem ms_in {I : AS} {g r i : Nat} {more : List (Nat × Nat × Int)} {γ v : List PV} {p : PV} (hg : γ.length = g) (hl : g ≤ I.sl.length) (hi : g ≤ i) : ms (inAS I g r more).sl (γ ++ (p :: v)) (i + 1) = ms I.sl (γ ++ v) i := by
  unfold ms
  rw [inAS_get hl hi, List.getElem?_append_right (by omega), List.getElem?_append_right (by omega), hg, show i + 1 - g = (i - g) + 1 by omega, List.getElem?_cons_succ]

theorem ms_in0 {I : AS} {g r : Nat} {more : List (Nat × Nat × Int)} {γ v : List PV} {x : Int} (hg : γ.length = g) (hl : g ≤ I.sl.length) : ms (inAS I g r more).sl (γ ++ (.int x :: v)) g = x := by
  unfold ms
  rw [inAS_get0 hl, List.getElem?_append_right (by omega), hg, Nat.sub_self]
  rfl

theorem ms_in1 {I : AS} {g r i : Nat} {more : List (Nat × Nat × Int)} {γ v : List PV} {p : PV} (hg : γ.length = g) (hl : g ≤ I.sl.length) (hi : i < g) : ms (inAS I g r more).sl (γ ++ (p :: v)) i = ms I.sl (γ ++ v) i := by
  unfold ms
  rw [inAS_lt hl hi, List.getElem?_append_left (by omega), List.getElem?_append_left (by omega)]

theorem inAS_len {I : AS} {g r : Nat} {more : List (Nat × Nat × Int)} (hl : g ≤ I.sl.length) : (inAS I g r more).sl.length = I.sl.length + 1 := by
  unfold inAS
  simp
  omega

theorem inL_len {I : AS} {g r q : Nat} {m1 m2 : List (Nat × Nat × Int)} (hl : g ≤ I.sl.length) : (inL I g r q m1 m2).sl.length = I.sl.length + 1 + 1 := by
  unfold inL
  rw [inAS_len (by rw [inAS_len hl]; omega), inAS_len hl]

theorem inL_fact {I : AS} {g r q : Nat} {m1 m2 : List (Nat × Nat × Int)} {a b : Nat} {c : Int} {η : List PV} (h : AS.ok (inL I g r q m1 m2) η) (hm : (a, b, c) ∈ m1) : ms (inL I g r q m1 m2).sl η (bump (g + 1) a) ≤ ms (inL I g r q m1 m2).sl η (bump (g + 1) b) + c := by
  refine (h.fact _ _ _ ?_).2.2
  unfold inL
  simp only [inAS, List.mem_append, List.mem_map, List.map_append]
  exact Or.inr (Or.inl ⟨(a, b, c), hm, rfl⟩)

theorem inL_fact2 {I : AS} {g r q : Nat} {m1 m2 : List (Nat × Nat × Int)} {a b : Nat} {c : Int} {η : List PV} (h : AS.ok (inL I g r q m1 m2) η) (hm : (a, b, c) ∈ m2) : ms (inL I g r q m1 m2).sl η a ≤ ms (inL I g r q m1 m2).sl η b + c := by
  refine (h.fact _ _ _ ?_).2.2
  unfold inL
  simp only [inAS, List.mem_append]
  exact Or.inl hm

theorem lex_step {F : List PV → Option Out} {g0 g r q n : Nat} {post : List AS} {γ : List PV} {js : List (Nat × List AS)} {invs : List AS} {lo hi lo' hi' : Int} (hg : γ.length = g) (h0 : g0 ≤ g) (hj : ∀ x ∈ js, x.1 ≤ g)
    (hok : ∀ I ∈ invs, lexOk I g r q n lo hi lo' hi' = true)
    (hb : ∀ I ∈ invs, ∀ (x y : Int) (v : List PV), AS.ok (lexE I g r q) ((γ ++ [.int x, .int y]) ++ v) → ∃ o, F v = some o ∧ Good g0 post (γ ++ [.int x, .int y]) ((g + 1 + 1, invs.flatMap fun I => [lexA I g r q, lexB I g r q]) :: js) o)
    (v : List PV) (hP : ∃ I ∈ invs, AS.ok I (γ ++ v)) : ∃ o, F v = some o ∧ match o with
      | .jump 0 v' => (∃ I ∈ invs, AS.ok I (γ ++ v')) ∧ ((xAt v' r - lo) + (hi' - xAt v' q)).toNat < ((xAt v r - lo) + (hi' - xAt v q)).toNat
      | .jump (l + 1) v' => Good g0 post γ js (.jump l v')
      | .ret v' => Good g0 post γ js (.ret v') := by
  obtain ⟨I, hI, hv⟩ := hP
  have e := hok I hI
  simp only [lexOk, Bool.and_eq_true] at e
  obtain ⟨⟨⟨e0, e2⟩, e2q⟩, e3, e4, e5⟩ := e
  have hil : I.sl.length = g + n := Nat.eq_of_beq_eq_true e0
  have hvl : v.length = n := by have := hv.len; rw [List.length_append, hg, hil] at this; omega
  obtain ⟨s, x, t1, t2, t3, t6, t7, t9⟩ := rankAt_ok hv e2
  obtain ⟨sq, y, u1, u2, u3, u6, u7, u9⟩ := rankAt_ok hv e2q
  have hxr : xAt v r = x := xAt_of2 (by rw [hg]; exact t3)
  have hyr : xAt v q = y := xAt_of2 (by rw [hg]; exact u3)
  obtain ⟨u', p1, p2⟩ := ent_ok hv e3
  obtain ⟨u1', w1, p3, p4, p5⟩ := looks_append.1 p1
  rw [looks_gh (by omega), ← hg, List.take_length] at p3
  cases p3
  have p6 : look (γ ++ v) (.v (γ.length + r)) = some (.int x) := by rw [hg]; exact t3
  have p6' : look (γ ++ v) (.v (γ.length + q)) = some (.int y) := by rw [hg]; exact u3
  have p7 : looks (γ ++ v) (vsFrom γ.length n) = some v := by
    have := looks_vs v γ []
    rw [List.append_nil, hvl] at this
    exact this
  rw [← hg] at p4
  simp only [looks, p6, p6', p7] at p4
  cases p4
  subst p5
  have p2' : AS.ok (lexE I g r q) ((γ ++ [.int x, .int y]) ++ v) := by rw [List.append_assoc]; exact p2
  obtain ⟨o, h9, h10⟩ := hb I hI x y v p2'
  refine ⟨o, h9, ?_⟩
  cases o with
  | ret v' =>
    obtain ⟨A, z1, z2⟩ := h10
    exact ⟨A, z1, by rw [take_take' (by omega)] at z2; exact z2⟩
  | jump l v' =>
    cases l with
    | succ l =>
      obtain ⟨z, z1, A, z2, z3⟩ := h10
      rw [List.getElem?_cons_succ] at z1
      exact ⟨z, z1, A, z2, by rw [take_take' (by rw [hg]; exact hj z (List.mem_of_getElem? z1))] at z3; exact z3⟩
    | zero =>
      obtain ⟨z, z1, A, z2, z3⟩ := h10
      simp only [List.getElem?_cons_zero, Option.some.injEq] at z1
      subst z1
      obtain ⟨I', hI', z2'⟩ := List.mem_flatMap.1 z2
      have e' := hok I' hI'
      simp only [lexOk, Bool.and_eq_true] at e'
      obtain ⟨⟨⟨e0', e2'⟩, e2q'⟩, e3', e4', e5'⟩ := e'
      have hil' : I'.sl.length = g + n := Nat.eq_of_beq_eq_true e0'
      have z4 : (γ ++ [PV.int x, PV.int y]).take (g + 1 + 1) = γ ++ [.int x, .int y] := List.take_of_length_le (by simp [hg])
      simp only [z4] at z3
      have hv'l : v'.length = n := by
        have := z3.len
        have hl2 : A.sl.length = I'.sl.length + 1 + 1 := by
          simp only [List.mem_cons, List.not_mem_nil, or_false] at z2'
          rcases z2' with rfl | rfl
          · exact inL_len (by omega)
          · exact inL_len (by omega)
        rw [hl2, List.length_append, List.length_append, hg, hil'] at this
        simp at this; omega
      have key : ent A (gh g ++ vsFrom (g + 1 + 1) n) I' = true := by
        simp only [List.mem_cons, List.not_mem_nil, or_false] at z2'
        rcases z2' with rfl | rfl
        · exact e4'
        · exact e5'
      obtain ⟨u', p1, p2⟩ := ent_ok z3 key
      obtain ⟨u1, w1, p3, p4, p5⟩ := looks_append.1 p1
      rw [List.append_assoc, looks_gh (by omega), ← hg, List.take_length] at p3
      cases p3
      have p7 : looks (γ ++ [PV.int x, PV.int y] ++ v') (vsFrom (γ.length + 1 + 1) n) = some v' := by
        have := looks_vs v' (γ ++ [PV.int x, PV.int y]) []
        rw [List.append_nil, hv'l, List.length_append] at this
        exact this
      rw [← hg, p7] at p4
      cases p4
      subst p5
      refine ⟨⟨I', hI', p2⟩, ?_⟩
      obtain ⟨s', x', y1, y2, y3, y6, y7, y9⟩ := rankAt_ok p2 e2'
      obtain ⟨sq', y', b1, b2, b3, b6, b7, b9⟩ := rankAt_ok p2 e2q'
      have hxr' : xAt v' r = x' := xAt_of2 (by rw [hg]; exact y3)
      have hyr' : xAt v' q = y' := xAt_of2 (by rw [hg]; exact b3)
      have hg1 : (γ ++ [PV.int x]).length = g + 1 := by simp [hg]
      have hz : γ ++ [PV.int x, PV.int y] ++ v' = (γ ++ [PV.int x]) ++ (.int y :: v') := by simp
      have hz' : γ ++ [PV.int x] ++ v' = γ ++ (.int x :: v') := by simp
      -- what the slots measure
      have M : ∀ m1 m2, ms (inL I' g r q m1 m2).sl (γ ++ [PV.int x, PV.int y] ++ v') g = x ∧ ms (inL I' g r q m1 m2).sl (γ ++ [PV.int x, PV.int y] ++ v') (g + 1) = y ∧
          ms (inL I' g r q m1 m2).sl (γ ++ [PV.int x, PV.int y] ++ v') (g + 1 + r + 1) = x' ∧ ms (inL I' g r q m1 m2).sl (γ ++ [PV.int x, PV.int y] ++ v') (g + 1 + 1 + q) = y' := by
        intro m1 m2
        have hl1 : g + 1 ≤ (inAS I' g r m1).sl.length := by rw [inAS_len (by omega)]; omega
        unfold inL
        rw [hz]
        refine ⟨?_, ms_in0 hg1 hl1, ?_, ?_⟩
        · rw [ms_in1 hg1 hl1 (by omega), hz', ms_in0 hg (by omega)]
        · rw [ms_in hg1 hl1 (by omega), hz', show g + 1 + r = g + r + 1 by omega, ms_in hg (by omega) (by omega), y9]
        · rw [show g + 1 + 1 + q = g + 1 + q + 1 by omega, ms_in hg1 hl1 (by omega), hz', show g + 1 + q = g + q + 1 by omega, ms_in hg (by omega) (by omega), b9]
      have bg : bump (g + 1) g = g := by
        unfold bump
        rw [show Nat.blt g (g + 1) = true by rw [Nat.blt_eq]; omega]; rfl
      have br : bump (g + 1) (g + 1 + r) = g + 1 + r + 1 := by
        unfold bump
        cases hb' : Nat.blt (g + 1 + r) (g + 1) with
        | true => rw [Nat.blt_eq] at hb'; omega
        | false => rfl
      rw [hxr, hxr', hyr, hyr']
      simp only [List.mem_cons, List.not_mem_nil, or_false] at z2'
      rcases z2' with rfl | rfl
      · obtain ⟨M1, M2, M3, M4⟩ := M [(g + 1 + r, g, -1)] [(g + 1, g + 1 + 1 + q, 0)]
        have f1 := inL_fact (a := g + 1 + r) (b := g) (c := -1) z3 (by simp)
        have f2 := inL_fact2 (a := g + 1) (b := g + 1 + 1 + q) (c := 0) z3 (by simp)
        rw [bg, br, M1, M3] at f1
        rw [M2, M4] at f2
        omega
      · obtain ⟨M1, M2, M3, M4⟩ := M [(g + 1 + r, g, 0)] [(g + 1, g + 1 + 1 + q, -1)]
        have f1 := inL_fact (a := g + 1 + r) (b := g) (c := 0) z3 (by simp)
        have f2 := inL_fact2 (a := g + 1) (b := g + 1 + 1 + q) (c := -1) z3 (by simp)
        rw [bg, br, M1, M3] at f1
        rw [M2, M4] at f2
        omega

theorem chk_ok {tb : List PF} {S : Sums} (hS : SumsOk tb S) {g0 : Nat} {post : List AS} : ∀ (t : T) (c : Cert) (g : Nat) (st : AS) (js : List (Nat × List AS)) (γ η : List PV),
    γ.length = g → g0 ≤ g → (∀ x ∈ js, x.1 ≤ g) → chk S g0 post t c g st js = true → AS.ok st (γ ++ η) → ∃ o, eval tb t η = some o ∧ Good g0 post γ js o
  | .fail, c, g, st, js, γ, η, hg, h0, hj, e, h => by
    simp only [chk] at e
    rw [bad_no h] at e
    cases e
  | .ret as, c, g, st, js, γ, η, hg, h0, hj, e, h => by
    simp only [chk] at e
    split at e
    · obtain ⟨v, h1, A, hA, h2⟩ := leafOk_ok h e
      obtain ⟨u, w, k1, k2, k3⟩ := looks_append.1 h1
      rw [← hg, looks_sh] at k2
      rw [looks_gh (by omega)] at k1
      cases k1
      refine ⟨.ret w, by simp only [eval, k2], A, hA, ?_⟩
      rw [← k3]; exact h2
    · rw [bad_no h] at e; cases e
  | .jump l as, c, g, st, js, γ, η, hg, h0, hj, e, h => by
    simp only [chk] at e
    split at e
    · split at e
      · rename_i x hx
        obtain ⟨v, h1, A, hA, h2⟩ := leafOk_ok h e
        obtain ⟨u, w, k1, k2, k3⟩ := looks_append.1 h1
        rw [← hg, looks_sh] at k2
        rw [looks_gh (by rw [hg]; exact hj x (List.mem_of_getElem? hx))] at k1
        cases k1
        refine ⟨.jump l w, by simp only [eval, k2], x, hx, A, hA, ?_⟩
        rw [← k3]; exact h2
      · cases e
    · rw [bad_no h] at e; cases e
  | .op p as n k, c, g, st, js, γ, η, hg, h0, hj, e, h => by
    by_cases hc : ∃ w ks, c = .op w ks
    · obtain ⟨w, ks, rfl⟩ := hc
      by_cases hp : ∃ i, p = .call i
      · obtain ⟨i, rfl⟩ := hp
        simp only [chk] at e
        split at e
        · rename_i vs hvs
          split at e
          · rename_i x hx
            rw [Bool.and_eq_true] at e
            obtain ⟨v, h1, h2⟩ := ent_ok h e.1
            have h1' := h1
            rw [← hg, looks_sh] at h1'
            rcases hS i vs hvs with rfl | ⟨F, hF, hF2⟩
            · simp at hx
            · obtain ⟨rs, h3, A, h4, h5⟩ := hF2 x (List.mem_of_getElem? hx) v h2
              obtain ⟨c', h6⟩ := allAlts_ok e.2 A h4
              split at h6
              · rename_i st' hst
                obtain ⟨h7, h8⟩ := inst_ok h h1 h5 hst
                rw [List.append_assoc] at h7
                obtain ⟨o, h9, h10⟩ := chk_ok hS k c' g st' js γ (η ++ rs) hg h0 hj h6 h7
                refine ⟨o, ?_, h10⟩
                simp only [eval, h1', step, hF, h3]
                rw [if_pos h8]
                exact h9
              · cases h6
          · cases e
        · cases e
      · have hp' : ∀ i, p ≠ .call i := fun i q => hp ⟨i, q⟩
        rw [chk_prim hp'] at e
        have hj' := hj
        split at e
        · rename_i c' htr
          rw [Bool.and_eq_true] at e
          obtain ⟨vs, rs, h1, h2, h3⟩ := tr_ok h htr
          rw [← hg, looks_sh] at h1
          have h3' : rs = [] := h3
          subst h3'
          obtain ⟨o, h9, h10⟩ := chk_ok hS k c' g st js γ η hg h0 hj e.2 h
          refine ⟨o, ?_, h10⟩
          simp only [eval, h1, step_ev2 hp', h2]
          rw [if_pos (by have := Nat.eq_of_beq_eq_true e.1; subst this; rfl), List.append_nil]
          exact h9
        · rename_i c' nw htr
          rw [Bool.and_eq_true] at e
          obtain ⟨vs, rs, h1, h2, h3⟩ := tr_ok h htr
          rw [← hg, looks_sh] at h1
          obtain ⟨q, rfl, h4⟩ : ∃ q, rs = [q] ∧ nw.ok st (γ ++ η) q := h3
          have h5 := AS.push h h4
          rw [List.append_assoc] at h5
          obtain ⟨o, h9, h10⟩ := chk_ok hS k c' g _ js γ (η ++ [q]) hg h0 hj e.2 h5
          refine ⟨o, ?_, h10⟩
          simp only [eval, h1, step_ev2 hp', h2]
          rw [if_pos (by have := Nat.eq_of_beq_eq_true e.1; subst this; rfl)]
          exact h9
        · rename_i c1 c2 nw htr
          simp only [Bool.and_eq_true] at e
          obtain ⟨⟨e1, e2, e3⟩, e4, e5⟩ := e
          obtain ⟨vs, rs, h1, h2, h3⟩ := tr_ok h htr
          rw [← hg, looks_sh] at h1
          obtain ⟨q, rfl, h4⟩ : ∃ q, rs = [q] ∧ nw.ok st (γ ++ η) q := h3
          have h5 := AS.push h h4
          have hlen : (push st nw).sl.length = st.sl.length + 1 := by simp [push]
          have hi : here (push st nw) (.v (w / 65536)) := by show _ < _; rw [hlen]; exact blt_lt e2
          have hj : here (push st nw) (.v (w % 65536)) := by show _ < _; rw [hlen]; exact blt_lt e3
          have fin : ∃ o, eval tb k (η ++ [q]) = some o ∧ Good g0 post γ js o := by
            rcases (show mA (push st nw).sl (γ ++ η ++ [q]) (.v (w / 65536)) ≤ mA (push st nw).sl (γ ++ η ++ [q]) (.v (w % 65536)) + 0 ∨ mA (push st nw).sl (γ ++ η ++ [q]) (.v (w % 65536)) ≤ mA (push st nw).sl (γ ++ η ++ [q]) (.v (w / 65536)) + (-1) by omega) with hc | hc
            · have h6 := (asmLe_ok h5 hi hj hc).1
              rw [List.append_assoc] at h6
              exact chk_ok hS k c1 g _ js γ (η ++ [q]) hg h0 hj' e4 h6
            · have h6 := (asmLe_ok h5 hj hi hc).1
              rw [List.append_assoc] at h6
              exact chk_ok hS k c2 g _ js γ (η ++ [q]) hg h0 hj' e5 h6
          obtain ⟨o, h9, h10⟩ := fin
          refine ⟨o, ?_, h10⟩
          simp only [eval, h1, step_ev2 hp', h2]
          rw [if_pos (by have := Nat.eq_of_beq_eq_true e1; subst this; rfl)]
          exact h9
        · cases e
    · exfalso
      have : chk S g0 post (.op p as n k) c g st js = bad c st := by
        cases c with
        | op w ks => exact absurd ⟨w, ks, rfl⟩ hc
        | _ => rfl
      rw [this, bad_no h] at e
      cases e
  | .ite c0 a b, c, g, st, js, γ, η, hg, h0, hj, e, h => by
    simp only [chk] at e
    split at e
    · rename_i ca cb
      rw [Bool.and_eq_true, Bool.and_eq_true] at e
      obtain ⟨x, h1, h2⟩ := isBool_ok h e.1
      have h1' := h1
      rw [← hg, look_sh] at h1'
      have h3 := asmB_ok 3 _ x h h1 h2
      cases x with
      | true =>
        obtain ⟨o, h9, h10⟩ := chk_ok hS a ca g _ js γ η hg h0 hj e.2.1 h3
        exact ⟨o, by simp only [eval, h1', cond_true]; exact h9, h10⟩
      | false =>
        obtain ⟨o, h9, h10⟩ := chk_ok hS b cb g _ js γ η hg h0 hj e.2.2 h3
        exact ⟨o, by simp only [eval, h1', cond_false]; exact h9, h10⟩
    · rw [bad_no h] at e; cases e
  | .seq a b, c, g, st, js, γ, η, hg, h0, hj, e, h => by
    simp only [chk] at e
    split at e
    · rename_i mids ca cbs
      rw [Bool.and_eq_true] at e
      obtain ⟨o, h1, h2⟩ := chk_ok hS a ca g st ((g, mids) :: js) γ η hg h0 (fun x hx => by
        rcases List.mem_cons.1 hx with rfl | hx
        · exact Nat.le_refl _
        · exact hj x hx) e.1 h
      cases o with
      | ret v => exact ⟨.ret v, by simp only [eval, h1], h2⟩
      | jump l v =>
        cases l with
        | zero =>
          obtain ⟨x, k1, A, k2, k3⟩ := h2
          simp only [List.getElem?_cons_zero, Option.some.injEq] at k1
          subst k1
          obtain ⟨c', h6⟩ := allAlts_ok e.2 A k2
          simp only [← hg, List.take_length] at k3
          obtain ⟨o, h9, h10⟩ := chk_ok hS b c' g A js γ v hg h0 hj h6 k3
          exact ⟨o, by simp only [eval, h1]; exact h9, h10⟩
        | succ l =>
          obtain ⟨x, k1, A, k2, k3⟩ := h2
          rw [List.getElem?_cons_succ] at k1
          exact ⟨.jump l v, by simp only [eval, h1], x, k1, A, k2, k3⟩
    · rw [bad_no h] at e; cases e
  | .loop init body, c, g, st, js, γ, η, hg, h0, hj, e, h => by
    simp only [chk] at e
    split at e
    · rename_i inv r up d cb
      simp only [Bool.and_eq_true] at e
      obtain ⟨⟨⟨⟨e1, e0⟩, e2, e6⟩, e3, e4⟩, e5⟩ := e
      have hil : inv.sl.length = g + 1 + init.length := Nat.eq_of_beq_eq_true e0
      obtain ⟨v0, q1, q2⟩ := ent_ok h e1
      obtain ⟨u, w', k1, k2', k3⟩ := looks_append.1 q1
      rw [looks_gh (by omega), ← hg, List.take_length] at k1
      cases k1
      subst k3
      have k2'' := k2'
      simp only [looks, look, ← hg, looks_sh] at k2''
      obtain ⟨w, k2, rfl⟩ : ∃ w, looks η init = some w ∧ w' = .int 0 :: w := by
        cases hw : looks η init with
        | none => rw [hw] at k2''; cases k2''
        | some w => rw [hw] at k2''; cases k2''; exact ⟨w, rfl, rfl⟩
      have hwl : w.length = init.length := looks_len k2
      obtain ⟨lo, hi, hcnt⟩ := cntOk_ok e6
      have q2' : AS.ok inv (γ ++ (.int 0 :: w)) := q2
      have hrun := iter_rank (f := eval tb body) (P := fun v => ∃ G : Int, AS.ok (dropHi inv g) (γ ++ (.int G :: v)) ∧ 0 ≤ G ∧ G + (d : Int) * (bif up then hi - xAt v r else xAt v r - lo) ≤ (d : Int) * (hi - lo)) (G := Good g0 post γ js)
        (fun v => bif up then (hi - xAt v r).toNat else (xAt v r - lo).toNat) (fun v hP => by
          obtain ⟨G, hv0, hG0, hG1⟩ := hP
          have hvl : v.length = init.length := by
            have := hv0.len
            simp only [dropHi, List.length_modify, List.length_append, List.length_cons, hg, hil] at this
            omega
          obtain ⟨x, t3, t6, t7, t8⟩ := rank_val hcnt e2 hv0 (by omega) hg
          have hxr : xAt v r = x := xAt_of (by rw [← hg] at t3; exact t3)
          have hGM : (d : Int) * (hi - lo) ≥ G := by
            rw [hxr] at hG1
            have : 0 ≤ (d : Int) * (bif up then hi - x else x - lo) := Int.mul_nonneg (by omega) (by cases up <;> simp only [cond_true, cond_false] <;> omega)
            omega
          have hv : AS.ok inv (γ ++ (.int G :: v)) := undrop hcnt hv0 hg hGM
          have hv' : AS.ok inv ((γ ++ [.int G]) ++ v) := by rw [List.append_assoc]; exact hv
          have hg1 : (γ ++ [PV.int G]).length = g + 1 := by simp [hg]
          obtain ⟨u', p1, p2⟩ := ent_ok hv' e3
          obtain ⟨u1, w1, p3, p4, p5⟩ := looks_append.1 p1
          rw [looks_gh (by omega), ← hg1, List.take_length] at p3
          cases p3
          have t3' : ((γ ++ [PV.int G]) ++ v)[g + 1 + r]? = some (.int x) := by rw [List.append_assoc]; exact t3
          have p6 : look ((γ ++ [PV.int G]) ++ v) (.v ((γ ++ [PV.int G]).length + r)) = some (.int x) := by rw [hg1]; exact t3'
          have p7 : looks ((γ ++ [PV.int G]) ++ v) (vsFrom (γ ++ [PV.int G]).length init.length) = some v := by
            have := looks_vs v (γ ++ [PV.int G]) []
            rw [List.append_nil, hvl] at this
            exact this
          rw [← hg1] at p4
          simp only [looks, p6, p7] at p4
          cases p4
          subst p5
          have p2' : AS.ok (inAS inv (g + 1) r [(g + 1, g + 1 + 1 + r, 0), (g + 1 + 1 + r, g + 1, 0)]) (((γ ++ [PV.int G]) ++ [.int x]) ++ v) := by rw [List.append_assoc (γ ++ [PV.int G])]; exact p2
          obtain ⟨o, h9, h10⟩ := chk_ok hS body cb (g + 1 + 1) _ _ ((γ ++ [PV.int G]) ++ [.int x]) v (by simp [hg]) (by omega) (fun y hy => by
            rcases List.mem_cons.1 hy with rfl | hy
            · exact Nat.le_refl _
            · have := hj y hy; omega) e5 p2'
          refine ⟨o, h9, ?_⟩
          cases o with
          | ret v' =>
            obtain ⟨A, z1, z2⟩ := h10
            exact ⟨A, z1, by rw [List.append_assoc γ, take_take' (by omega)] at z2; exact z2⟩
          | jump l v' =>
            cases l with
            | succ l =>
              obtain ⟨y, z1, A, z2, z3⟩ := h10
              rw [List.getElem?_cons_succ] at z1
              exact ⟨y, z1, A, z2, by rw [List.append_assoc γ, take_take' (by rw [hg]; exact hj y (List.mem_of_getElem? z1))] at z3; exact z3⟩
            | zero =>
              obtain ⟨y, z1, A, z2, z3⟩ := h10
              simp only [List.getElem?_cons_zero, Option.some.injEq] at z1
              subst z1
              simp only [List.mem_singleton] at z2
              subst z2
              have z4 : ((γ ++ [PV.int G]) ++ [PV.int x]).take (g + 1 + 1) = (γ ++ [PV.int G]) ++ [.int x] := List.take_of_length_le (by simp [hg])
              simp only [z4] at z3
              have hsl : (inAS (shG inv g d) (g + 1) r [stepFact (g + 1) r up]).sl.length = inv.sl.length + 1 := by unfold inAS shG; simp; omega
              have hv'l : v'.length = init.length := by
                have := z3.len
                rw [hsl, hil] at this
                simp [hg] at this; omega
              -- the counter's next value
              have hgget : ((γ ++ [PV.int G]) ++ [PV.int x] ++ v')[g]? = some (.int G) := by
                rw [List.append_assoc, List.append_assoc, List.getElem?_append_right (by omega), hg, Nat.sub_self]; rfl
              have hms : ms (inAS (shG inv g d) (g + 1) r [stepFact (g + 1) r up]).sl ((γ ++ [PV.int G]) ++ [PV.int x] ++ v') g = G := by
                unfold ms
                obtain ⟨s, m, c1, c2, _, _⟩ := hcnt.ex
                rw [hgget, inAS_lt (inv := shG inv g d) (by show _ ≤ inv.sl.length; omega) (by omega), show (shG inv g d).sl[g]? = some s from c1]
                simp only [c2]
                rfl
              have z5 := AS.push (n := plusNw g d) (p := .int (G + d)) z3 ⟨trivial, fun m e => by cases e; show (d : Int) ≤ G + d; omega, fun m e => (by cases e), fun j c hm => by
                simp only [plusNw, List.mem_singleton] at hm; cases hm; exact ⟨by rw [hsl]; omega, by rw [hms]; exact Int.le_refl _⟩, fun j c hm => by
                simp only [plusNw, List.mem_singleton] at hm; cases hm; exact ⟨by rw [hsl]; omega, by rw [hms]; show G ≤ (G + d) + -(d : Int); omega⟩, trivial⟩
              obtain ⟨u', p1, p2⟩ := ent_ok z5 e4
              obtain ⟨u1, w1, p3, p4, p5⟩ := looks_append.1 p1
              rw [List.append_assoc, List.append_assoc, List.append_assoc, looks_gh (by omega), ← hg, List.take_length] at p3
              cases p3
              have p7 : looks ((γ ++ [PV.int G]) ++ [PV.int x] ++ v' ++ [PV.int (G + d)]) (vsFrom (g + 1 + 1) init.length) = some v' := by
                have := looks_vs v' ((γ ++ [PV.int G]) ++ [PV.int x]) [PV.int (G + d)]
                rw [← List.append_assoc, hv'l] at this
                simpa [hg] using this
              have p8 : look ((γ ++ [PV.int G]) ++ [PV.int x] ++ v' ++ [PV.int (G + d)]) (.v (g + 1 + 1 + init.length)) = some (.int (G + d)) := by
                simp only [look]
                rw [List.getElem?_append_right (by simp [hg]; omega), show g + 1 + 1 + init.length - ((γ ++ [PV.int G]) ++ [PV.int x] ++ v').length = 0 by simp [hg]; omega]
                rfl
              simp only [looks, p8, p7] at p4
              cases p4
              subst p5
              -- the rank
              obtain ⟨x', y3, y6, y7, y8⟩ := rank_val hcnt e2 p2 (by omega) hg
              have hxr' : xAt v' r = x' := xAt_of (by rw [← hg] at y3; exact y3)
              have m1 : ms (inAS (shG inv g d) (g + 1) r [stepFact (g + 1) r up]).sl ((γ ++ [PV.int G]) ++ [PV.int x] ++ v') (g + 1) = x := by
                unfold ms
                rw [inAS_get0 (inv := shG inv g d) (by show _ ≤ inv.sl.length; omega), List.append_assoc, List.getElem?_append_right (by omega), hg1, Nat.sub_self]
                rfl
              have m2 : ms (inAS (shG inv g d) (g + 1) r [stepFact (g + 1) r up]).sl ((γ ++ [PV.int G]) ++ [PV.int x] ++ v') (g + 1 + 1 + r) = x' := by
                unfold ms
                have y3' : v'[r]? = some (.int x') := by
                  rw [List.getElem?_append_right (by omega), hg, show g + 1 + r - g = r + 1 by omega] at y3
                  exact y3
                obtain ⟨s, c1, c2⟩ := hcnt.r2 e2
                rw [show g + 1 + 1 + r = g + 1 + r + 1 by omega, inAS_get (inv := shG inv g d) (by show _ ≤ inv.sl.length; omega) (by omega), show (shG inv g d).sl[g + 1 + r]? = some s from c1, List.getElem?_append_right (by simp [hg] <;> omega)]
                simp only [List.length_append, List.length_singleton, hg]
                rw [show g + 1 + r + 1 - (g + 1 + 1) = r by omega, y3']
                simp only [c2]
                rfl
              cases up with
              | true =>
                have f := (z3.fact (g + 1) (g + 1 + 1 + r) (-1) (by unfold inAS; simp [stepFact])).2.2
                rw [m1, m2] at f
                simp only [cond_true] at hG1 ⊢
                rw [hxr] at hG1
                refine ⟨⟨G + d, p2, by omega, ?_⟩, by rw [hxr, hxr']; omega⟩
                rw [hxr']
                have h5 : (d : Int) * (hi - x' + 1) ≤ (d : Int) * (hi - x) := Int.mul_le_mul_of_nonneg_left (by omega) (by omega)
                have h6 : (d : Int) * (hi - x' + 1) = (d : Int) * (hi - x') + d := by rw [Int.mul_add, Int.mul_one]
                omega
              | false =>
                have f := (z3.fact (g + 1 + 1 + r) (g + 1) (-1) (by unfold inAS; simp [stepFact])).2.2
                rw [m1, m2] at f
                simp only [cond_false] at hG1 ⊢
                rw [hxr] at hG1
                refine ⟨⟨G + d, p2, by omega, ?_⟩, by rw [hxr, hxr']; omega⟩
                rw [hxr']
                have h5 : (d : Int) * (x' - lo + 1) ≤ (d : Int) * (x - lo) := Int.mul_le_mul_of_nonneg_left (by omega) (by omega)
                have h6 : (d : Int) * (x' - lo + 1) = (d : Int) * (x' - lo) + d := by rw [Int.mul_add, Int.mul_one]
                omega) big w (by
          have hd : AS.ok (dropHi inv g) (γ ++ (.int 0 :: w)) := dropped q2'
          obtain ⟨x, t3, t6, t7, t8⟩ := rank_val hcnt e2 hd (by omega) hg
          have hxr : xAt w r = x := xAt_of (by rw [← hg] at t3; exact t3)
          refine ⟨0, hd, Int.le_refl _, ?_⟩
          rw [hxr]
          have : (d : Int) * (bif up then hi - x else x - lo) ≤ (d : Int) * (hi - lo) := Int.mul_le_mul_of_nonneg_left (by cases up <;> simp only [cond_true, cond_false] <;> omega) (by omega)
          omega) (by
          have hd : AS.ok (dropHi inv g) (γ ++ (.int 0 :: w)) := dropped q2'
          obtain ⟨x, t3, t6, t7, t8⟩ := rank_val hcnt e2 hd (by omega) hg
          have hxr : xAt w r = x := xAt_of (by rw [← hg] at t3; exact t3)
          rw [hxr]
          unfold big
          cases up <;> simp only [cond_true, cond_false] <;> omega)
      obtain ⟨o, r1, r2⟩ := hrun
      exact ⟨o, by simp only [eval, k2]; exact r1, r2⟩
    · rename_i invs r up cs
      split at e
      · rename_i I0 tl
        split at e
        · rename_i lo hi e6 e7
          simp only [Bool.and_eq_true, List.all_eq_true] at e
          obtain ⟨⟨⟨e1, e2⟩, e3⟩, e4⟩ := e
          obtain ⟨v0, q1, q2⟩ := ent_ok h e1
          obtain ⟨u, w, k1, k2, k3⟩ := looks_append.1 q1
          rw [looks_gh (by omega), ← hg, List.take_length] at k1
          cases k1
          subst k3
          rw [← hg, looks_sh] at k2
          have hrun := iter_rank (f := eval tb body) (P := fun v => ∃ I ∈ I0 :: tl, AS.ok I (γ ++ v)) (G := Good g0 post γ js) (fun v => bif up then (hi - xAt v r).toNat else (xAt v r - lo).toNat)
            (loops_step hg h0 hj e3 (fun I hI x v hv => by
              obtain ⟨c', h6⟩ := allAlts_ok e4 I hI
              exact chk_ok hS body c' (g + 1) _ _ (γ ++ [.int x]) v (by simp [hg]) (by omega) (fun y hy => by
                rcases List.mem_cons.1 hy with rfl | hy
                · exact Nat.le_refl _
                · have := hj y hy; omega) h6 hv)) big w ⟨I0, by simp, q2⟩ (by
              have e8 := e3 I0 (by simp)
              simp only [invOk, Bool.and_eq_true] at e8
              obtain ⟨s, x, t1, t2, t3, t6, t7, t9⟩ := rankAt_ok q2 e8.1.2
              have hxr : xAt w r = x := xAt_of2 (by rw [hg]; exact t3)
              have := blt_lt e2
              rw [hxr]
              unfold big
              cases up <;> simp only [cond_true, cond_false] <;> omega)
          obtain ⟨o, r1, r2⟩ := hrun
          exact ⟨o, by simp only [eval, k2]; exact r1, r2⟩
        · cases e
      · cases e
    · rename_i invs r q cs
      split at e
      · rename_i I0 tl
        split at e
        · rename_i lo hi lo' hi' e6 e7 e6' e7'
          simp only [Bool.and_eq_true, List.all_eq_true] at e
          obtain ⟨⟨⟨e1, e2⟩, e3⟩, e4⟩ := e
          obtain ⟨v0, q1, q2⟩ := ent_ok h e1
          obtain ⟨u, w, k1, k2, k3⟩ := looks_append.1 q1
          rw [looks_gh (by omega), ← hg, List.take_length] at k1
          cases k1
          subst k3
          rw [← hg, looks_sh] at k2
          have hrun := iter_rank (f := eval tb body) (P := fun v => ∃ I ∈ I0 :: tl, AS.ok I (γ ++ v)) (G := Good g0 post γ js) (fun v => ((xAt v r - lo) + (hi' - xAt v q)).toNat)
            (lex_step hg h0 hj e3 (fun I hI x y v hv => by
              obtain ⟨c', h6⟩ := allAlts_ok e4 I hI
              exact chk_ok hS body c' (g + 1 + 1) _ _ (γ ++ [.int x, .int y]) v (by simp [hg]) (by omega) (fun y hy => by
                rcases List.mem_cons.1 hy with rfl | hy
                · exact Nat.le_refl _
                · have := hj y hy; omega) h6 hv)) big w ⟨I0, by simp, q2⟩ (by
              have e8 := e3 I0 (by simp)
              simp only [lexOk, Bool.and_eq_true] at e8
              obtain ⟨s, x, t1, t2, t3, t6, t7, t9⟩ := rankAt_ok q2 e8.1.1.2
              obtain ⟨s', y, b1, b2, b3, b6, b7, b9⟩ := rankAt_ok q2 e8.1.2
              have hxr : xAt w r = x := xAt_of2 (by rw [hg]; exact t3)
              have hyr : xAt w q = y := xAt_of2 (by rw [hg]; exact b3)
              have := blt_lt e2
              rw [hxr, hyr]
              unfold big
              omega)
          obtain ⟨o, r1, r2⟩ := hrun
          exact ⟨o, by simp only [eval, k2]; exact r1, r2⟩
        · cases e
      · cases e
    · split at e
      · rename_i e0 tl
        simp only [Bool.and_eq_true] at e
        obtain ⟨⟨e1, e2⟩, e3⟩ := e
        obtain ⟨v0, q1, q2⟩ := ent_ok h e1
        obtain ⟨u, w, k1, k2, k3⟩ := looks_append.1 q1
        rw [looks_gh (by omega), ← hg, List.take_length] at k1
        cases k1
        subst k3
        rw [← hg, looks_sh] at k2
        obtain ⟨o, r1, r2⟩ := unr_ok (F := eval tb body) hg (fun e c nxt v he hv => chk_ok hS body c g e ((g, nxt) :: js) γ v hg h0 (fun x hx => by
          rcases List.mem_cons.1 hx with rfl | hx
          · exact Nat.le_refl _
          · exact hj x hx) he hv) (e0 :: tl) _ e0 tl w big rfl e3 q2 (by have := Nat.le_of_ble_eq_true e2; unfold big; omega)
        exact ⟨o, by simp only [eval, k2]; exact r1, r2⟩
      · cases e
    · rw [bad_no h] at e; cases e

/-- the state at a function's begin: what it is handed stands there twice -/
def dbl (A : AS) : AS :=
  let n := A.sl.length
  ⟨A.sl ++ A.sl, A.fs ++ (A.fs.map (fun f => (f.1 + n, f.2.1 + n, f.2.2)) ++ ((List.range n).map (fun i => (i, i + n, (0 : Int))) ++ (List.range n).map (fun i => (i + n, i, (0 : Int)))))⟩

/-- does a term, handed what it may be handed, yield what is told? -/
def total (S : Sums) (pre : AS) (post : List AS) (t : T) (c : Cert) : Bool :=
  ent pre (gh pre.sl.length ++ gh pre.sl.length) (dbl pre) && chk S pre.sl.length post t c pre.sl.length (dbl pre) []

theorem total_ok {tb : List PF} (hl : ∀ F ∈ tb, Lawful F) {S : Sums} (hS : SumsOk tb S) {pre : AS} {post : List AS} {t : T} {c : Cert} (e : total S pre post t c = true) : SumOk (t.fn tb) (pre, post) := by
  intro args h
  have hn : args.length = pre.sl.length := h.len
  unfold total at e
  rw [Bool.and_eq_true] at e
  obtain ⟨v, h1, h2⟩ := ent_ok h e.1
  obtain ⟨u, w, k1, k2, k3⟩ := looks_append.1 h1
  have k4 : looks args (gh pre.sl.length) = some args := by
    have := looks_gh (γ := args) (η := []) (g := pre.sl.length) (by omega)
    rw [List.append_nil, ← hn, List.take_length] at this
    rw [← hn]; exact this
  rw [k4] at k1 k2
  cases k1; cases k2
  subst k3
  obtain ⟨o, h3, h4⟩ := chk_ok hS t c pre.sl.length (dbl pre) [] args args hn (Nat.le_refl _) (fun x hx => by cases hx) e.2 h2
  cases o with
  | jump l v =>
    obtain ⟨x, q, _⟩ := h4
    simp at q
  | ret rs =>
    obtain ⟨A, q1, q2⟩ := h4
    refine ⟨rs, ?_, A, q1, ?_⟩
    · unfold T.fn
      rw [evalK_eq hl, h3]
      rfl
    · rw [← hn, List.take_length] at q2
      exact q2
end Gm

/- What a function yields, told by each value of one of its numbers. -/
namespace Gm
open Go

def atC (A : AS) (i : Nat) (c : Int) : AS := ⟨A.sl.modify i fun s => { s with lo := some c, hi := some c }, A.fs⟩

def altS (A : AS) (i : Nat) : List AS := match A.sl[i]? with
  | some s => match s.t, s.lo, s.hi with
    | .int, some l, some h => (List.range (h - l + 1).toNat).map fun (c : Nat) => atC A i (l + (c : Int))
    | _, _, _ => [A]
  | none => [A]

theorem atC_ok {A : AS} {η : List PV} {i : Nat} (h : AS.ok A η) : AS.ok (atC A i (ms A.sl η i)) η := by
  unfold atC
  refine h.modify (f := fun s => { s with lo := some (ms A.sl η i), hi := some (ms A.sl η i) }) (fun _ => rfl) (fun s p h1 h2 k hm => ⟨k.t, fun n e => ?_, fun n e => ?_, k.df⟩)
  · cases e; rw [hm]; exact Int.le_refl _
  · cases e; rw [hm]; exact Int.le_refl _

theorem altS_ok {A : AS} {η : List PV} (i : Nat) (h : AS.ok A η) : ∃ B ∈ altS A i, AS.ok B η := by
  unfold altS
  split
  · rename_i s hs
    split
    · rename_i l u h1 h2 h3
      obtain ⟨p, g1, g2, g3⟩ := h.at hs
      have k1 := g2.lo l h2
      have k2 := g2.hi u h3
      rw [← g3] at k1 k2
      refine ⟨_, List.mem_map.2 ⟨(ms A.sl η i - l).toNat, ?_, rfl⟩, ?_⟩
      · rw [List.mem_range]; omega
      · have : l + (((ms A.sl η i - l).toNat : Nat) : Int) = ms A.sl η i := by omega
        rw [this]
        exact atC_ok h
    · exact ⟨A, List.mem_singleton.2 rfl, h⟩
  · exact ⟨A, List.mem_singleton.2 rfl, h⟩

theorem alt_ok {F : PF} {pre A : AS} (i : Nat) (h : SumOk F (pre, [A])) : SumOk F (pre, altS A i) := by
  intro args ha
  obtain ⟨rs, h1, B, h2, h3⟩ := h args ha
  rw [List.mem_singleton] at h2
  subst h2
  exact ⟨rs, h1, altS_ok i h3⟩

end Gm

/- Totality: a term's first part, by a check; what lies behind it may be shown by hand. -/
namespace Gm
open Go

/-- a term laid where another one fails -/
def fill (u : T) : T → T
  | .fail => u
  | .op p as n k => .op p as n (fill u k)
  | .ite c a b => .ite c (fill u a) (fill u b)
  | .seq a b => .seq a (fill u b)
  | t => t

/-- an outcome, or the values there where the term fails -/
def evalH (tb : List PF) : T → List PV → Option (Out ⊕ List PV)
  | .fail => fun η => some (.inr η)
  | .op p as n k => fun η => match looks η as with
    | some vs => match step tb p vs with
      | some rs => if rs.length = n then evalH tb k (η ++ rs) else none
      | none => none
    | none => none
  | .ite c a b => fun η => match look η c with
    | some (.bool x) => bif x then evalH tb a η else evalH tb b η
    | _ => none
  | .seq a b => fun η => match eval tb a η with
    | some (.jump 0 v) => evalH tb b v
    | some (.jump (l + 1) v) => some (.inl (.jump l v))
    | some (.ret v) => some (.inl (.ret v))
    | none => none
  | t => fun η => (eval tb t η).map .inl

def endH (tb : List PF) (u : T) : Out ⊕ List PV → Option Out
  | .inl o => some o
  | .inr η => eval tb u η

theorem map_endH {tb : List PF} {u : T} {x : Option Out} : x = (x.map Sum.inl).bind (endH tb u) := by cases x <;> rfl

theorem fill_eval {tb : List PF} (u : T) : ∀ (t : T) (η : List PV), eval tb (fill u t) η = (evalH tb t η).bind (endH tb u)
  | .fail, η => rfl
  | .ret as, η => map_endH
  | .jump l as, η => map_endH
  | .loop i b, η => map_endH
  | .op p as n k, η => by
    simp only [fill, eval, evalH]
    cases looks η as with
    | none => rfl
    | some vs =>
      simp only
      cases step tb p vs with
      | none => rfl
      | some rs =>
        simp only
        split
        · exact fill_eval u k _
        · rfl
  | .ite c a b, η => by
    simp only [fill, eval, evalH]
    cases look η c with
    | none => rfl
    | some p =>
      cases p with
      | bool x => cases x <;> simp only [cond_true, cond_false] <;> exact fill_eval u _ _
      | _ => rfl
  | .seq a b, η => by
    simp only [fill, eval, evalH]
    cases eval tb a η with
    | none => rfl
    | some o =>
      cases o with
      | ret v => rfl
      | jump l v =>
        cases l with
        | zero => exact fill_eval u b v
        | succ l => rfl

/-- how many values a jump carries -/
def jall (P : Nat → Bool) : Nat → T → Bool
  | d, .jump l as => bif Nat.beq l d then P as.length else true
  | d, .op _ _ _ k => jall P d k
  | d, .ite _ a b => jall P d a && jall P d b
  | d, .seq a b => jall P (d + 1) a && jall P d b
  | d, .loop _ b => jall P (d + 1) b
  | _, _ => true

def jfst : Nat → T → Option Nat
  | d, .jump l as => bif Nat.beq l d then some as.length else none
  | d, .op _ _ _ k => jfst d k
  | d, .ite _ a b => match jfst d a with
    | some x => some x
    | none => jfst d b
  | d, .seq a b => match jfst (d + 1) a with
    | some x => some x
    | none => jfst d b
  | d, .loop _ b => jfst (d + 1) b
  | _, _ => none

theorem iter_jump {f : List PV → Option Out} {d : Nat} {Q : List PV → Prop} (h : ∀ v w, f v = some (.jump (d + 1) w) → Q w) : ∀ (n : Nat) (v w : List PV), iterO f n v = some (.jump d w) → Q w
  | 0, v, w, e => by cases e
  | n + 1, v, w, e => by
    simp only [iterO] at e
    split at e
    · exact iter_jump h n _ w e
    · rename_i l v' hv
      cases e
      exact h v w hv
    · rename_i hn1 hn2
      exact absurd e (by
        intro e
        cases d with
        | zero => exact hn1 w e
        | succ d => exact hn2 d w e)

theorem jall_ok {tb : List PF} {P : Nat → Bool} : ∀ (t : T) (d : Nat) (η v : List PV), jall P d t = true → eval tb t η = some (.jump d v) → P v.length = true
  | .fail, d, η, v, h, e => by cases e
  | .ret as, d, η, v, h, e => by
    simp only [eval] at e
    split at e
    · cases e
    · cases e
  | .jump l as, d, η, v, h, e => by
    simp only [eval] at e
    split at e
    · rename_i w hw
      cases e
      simp only [jall, Nat.beq_refl, cond_true] at h
      rw [looks_len hw]; exact h
    · cases e
  | .op p as n k, d, η, v, h, e => by
    simp only [eval] at e
    split at e
    · split at e
      · split at e
        · exact jall_ok k d _ v h e
        · cases e
      · cases e
    · cases e
  | .ite c a b, d, η, v, h, e => by
    simp only [jall, Bool.and_eq_true] at h
    simp only [eval] at e
    split at e
    · rename_i x _
      cases x with
      | true => exact jall_ok a d η v h.1 e
      | false => exact jall_ok b d η v h.2 e
    · cases e
  | .seq a b, d, η, v, h, e => by
    simp only [jall, Bool.and_eq_true] at h
    simp only [eval] at e
    split at e
    · exact jall_ok b d _ v h.2 e
    · rename_i l w hw
      cases e
      exact jall_ok a (d + 1) η v h.1 hw
    · rename_i hn1 hn2
      exact absurd e (by
        intro e
        cases d with
        | zero => exact hn1 _ e
        | succ d => exact hn2 _ _ e)
  | .loop i b, d, η, v, h, e => by
    simp only [eval] at e
    split at e
    · exact iter_jump (Q := fun w => P w.length = true) (fun v w he => jall_ok b (d + 1) v w h he) _ _ _ e
    · cases e

/-- how many values there are, there where a term fails -/
def hlen : T → Nat → Nat → Bool
  | .fail, m, n => Nat.beq m n
  | .op _ _ r k, m, n => hlen k (m + r) n
  | .ite _ a b, m, n => hlen a m n && hlen b m n
  | .seq a b, _, n => match jfst 0 a with
    | some k => jall (Nat.beq k) 0 a && hlen b k n
    | none => jall (fun _ => false) 0 a
  | _, _, _ => true

theorem hlen_ok {tb : List PF} : ∀ (t : T) (m n : Nat) (η η' : List PV), hlen t m n = true → η.length = m → evalH tb t η = some (.inr η') → η'.length = n
  | .fail, m, n, η, η', h, hm, e => by
    cases e
    have := Nat.eq_of_beq_eq_true h
    omega
  | .ret as, m, n, η, η', h, hm, e => by
    simp only [evalH] at e
    cases he : eval tb (.ret as) η <;> rw [he] at e <;> cases e
  | .jump l as, m, n, η, η', h, hm, e => by
    simp only [evalH] at e
    cases he : eval tb (.jump l as) η <;> rw [he] at e <;> cases e
  | .loop i b, m, n, η, η', h, hm, e => by
    simp only [evalH] at e
    cases he : eval tb (.loop i b) η <;> rw [he] at e <;> cases e
  | .op p as r k, m, n, η, η', h, hm, e => by
    simp only [evalH] at e
    split at e
    · split at e
      · split at e
        · rename_i hr
          exact hlen_ok k (m + r) n _ η' h (by rw [List.length_append, hm, hr]) e
        · cases e
      · cases e
    · cases e
  | .ite c a b, m, n, η, η', h, hm, e => by
    simp only [hlen, Bool.and_eq_true] at h
    simp only [evalH] at e
    split at e
    · rename_i x _
      cases x with
      | true => exact hlen_ok a m n η η' h.1 hm e
      | false => exact hlen_ok b m n η η' h.2 hm e
    · cases e
  | .seq a b, m, n, η, η', h, hm, e => by
    simp only [evalH] at e
    simp only [hlen] at h
    split at e
    · rename_i v hv
      split at h
      · rename_i k hk
        simp only [Bool.and_eq_true] at h
        have := Nat.eq_of_beq_eq_true (jall_ok a 0 η v h.1 hv)
        exact hlen_ok b k n v η' h.2 this.symm e
      · have := jall_ok a 0 η v h hv
        cases this
    · cases e
    · cases e
    · cases e

def chkHole (S : Sums) (pre : AS) (post Hs : List AS) (t : T) (n : Nat) (c : Cert) : Bool :=
  (ent pre (gh pre.sl.length ++ gh pre.sl.length) (dbl pre) && (hlen t pre.sl.length n && jall (fun _ => false) 0 (fill .fail t))) &&
    chk S pre.sl.length post (fill (.jump 0 (gh n)) t) c pre.sl.length (dbl pre) [(pre.sl.length, Hs)]

theorem hole_ok {tb : List PF} (hl : ∀ F ∈ tb, Lawful F) {S : Sums} (hS : SumsOk tb S) {pre : AS} {post Hs : List AS} {t : T} {n : Nat} {c : Cert} (e : chkHole S pre post Hs t n c = true) (u : T) {args : List PV} (h : AS.ok pre args) :
    (∃ rs, (fill u t).fn tb args some = some rs ∧ ∃ A ∈ post, AS.ok A (args ++ rs)) ∨
    (∃ η, (fill u t).fn tb args some = evalK tb u η some [] ∧ ∃ A ∈ Hs, AS.ok A (args ++ η)) := by
  have hn : args.length = pre.sl.length := h.len
  unfold chkHole at e
  simp only [Bool.and_eq_true] at e
  obtain ⟨⟨e1, e2, e3⟩, e4⟩ := e
  obtain ⟨v, h1, h2⟩ := ent_ok h e1
  obtain ⟨x, w, k1, k2, k3⟩ := looks_append.1 h1
  have k4 : looks args (gh pre.sl.length) = some args := by
    have := looks_gh (γ := args) (η := []) (g := pre.sl.length) (by omega)
    rw [List.append_nil, ← hn, List.take_length] at this
    rw [← hn]; exact this
  rw [k4] at k1 k2
  cases k1; cases k2
  subst k3
  obtain ⟨o, h3, h4⟩ := chk_ok hS _ c pre.sl.length (dbl pre) [(pre.sl.length, Hs)] args args hn (Nat.le_refl _) (fun x hx => by
    rw [List.mem_singleton] at hx; subst hx; exact Nat.le_refl _) e4 h2
  have hfn : ∀ u, (fill u t).fn tb args some = (eval tb (fill u t) args).bind (outK some []) := fun u => by unfold T.fn; rw [evalK_eq hl]
  rw [fill_eval] at h3
  rw [hfn, fill_eval]
  cases hH : evalH tb t args with
  | none => rw [hH] at h3; cases h3
  | some z =>
    rw [hH] at h3
    cases z with
    | inl o' =>
      cases h3
      cases o with
      | ret v =>
        obtain ⟨A, q1, q2⟩ := h4
        rw [← hn, List.take_length] at q2
        exact Or.inl ⟨v, rfl, A, q1, q2⟩
      | jump l v =>
        obtain ⟨y, q1, _⟩ := h4
        cases l with
        | succ l => simp at q1
        | zero =>
          have h5 : eval tb (fill .fail t) args = some (.jump 0 v) := by rw [fill_eval, hH]; rfl
          have := jall_ok _ 0 args v e3 h5
          cases this
    | inr η =>
      have hlen := hlen_ok t _ n args η e2 hn hH
      simp only [Option.bind_some, endH, eval] at h3
      have h6 : looks η (gh n) = some η := by
        have := looks_gh (γ := η) (η := []) (g := n) (by omega)
        rw [List.append_nil, ← hlen, List.take_length] at this
        rw [← hlen]; exact this
      rw [h6] at h3
      cases h3
      obtain ⟨y, q1, A, q2, q3⟩ := h4
      simp only [List.getElem?_cons_zero, Option.some.injEq] at q1
      subst q1
      simp only at q2 q3
      rw [← hn, List.take_length] at q3
      refine Or.inr ⟨η, ?_, A, q2, q3⟩
      rw [evalK_eq hl]
      rfl

/-- a function of nothing, whose answer is known -/
theorem head_ok {F : PF} (h : F [] some = some [.bool true]) : SumOk F (⟨[], []⟩, [⟨[{ t := .bool, lo := some 1, hi := some 1 }], []⟩]) := by
  intro args ha
  have hn : args = [] := List.length_eq_zero_iff.1 ha.len
  subst hn
  refine ⟨_, h, _, List.mem_singleton.2 rfl, rfl, fun i s p h1 h2 => ?_, fun a b c hm => (by cases hm)⟩
  cases i with
  | zero =>
    cases h1
    cases h2
    exact ⟨trivial, fun n e => (by cases e; exact Int.le_refl _), fun n e => (by cases e; exact Int.le_refl _), trivial⟩
  | succ i => cases h1

end Gm

/- Totality: a balance undone: a place is asked for three times; that it is the same each time. -/
namespace Gm
open Go

def bkA : T := .op (.chk 1) [.v 7, .v 2] 0 (.op (.get 1 0) [.v 7, .v 2] 1 (.op (.cmp .lss) [.v 15, .i 0] 1 (.ite (.v 16) (.jump 0 [.v 0, .v 1, .v 2, .v 13, .v 14, .v 5, .v 6, .b true, .v 7, .v 8, .v 9, .v 10, .v 11, .v 12]) (.op (.chk 1) [.v 7, .v 2] 0 (.op (.get 1 0) [.v 7, .v 2] 1 (.op (.len 1) [.v 9] 1 (.op (.cmp .geq) [.v 17, .v 18] 1 (.jump 0 [.v 0, .v 1, .v 2, .v 13, .v 14, .v 5, .v 6, .v 19, .v 7, .v 8, .v 9, .v 10, .v 11, .v 12]))))))))
def bkB : T := .ite (.v 7) (.ret [.nil, .i 0, .i 1]) (.op (.chk 1) [.v 8, .v 2] 0 (.op (.get 1 0) [.v 8, .v 2] 1 (.op (.bin .or .u8) [.v 1, .v 4] 1 (.op (.chk 1) [.v 13, .v 14] 0 (.op (.set 1 0) [.v 13, .v 14, .v 3] 1 (.jump 0 [.v 0, .v 15, .v 5, .v 6, .v 8, .v 9, .v 10, .v 11, .v 12, .v 16]))))))
def bkB' : T := .ite (.v 7) (.ret [.nil, .i 0, .i 1]) (.op (.chk 1) [.v 8, .v 2] 0 (.op (.get 1 0) [.v 8, .v 2] 1 (.op (.bin .or .u8) [.v 1, .v 4] 1 (.op (.cmp .lss) [.v 14, .i 0] 1 (.ite (.v 16) (.ret [.nil, .i 0, .i 1]) (.op (.len 1) [.v 10] 1 (.op (.cmp .geq) [.v 14, .v 17] 1 (.ite (.v 18) (.ret [.nil, .i 0, .i 1]) (.op (.chk 1) [.v 13, .v 14] 0 (.op (.set 1 0) [.v 13, .v 14, .v 3] 1 (.jump 0 [.v 0, .v 15, .v 5, .v 6, .v 8, .v 9, .v 10, .v 11, .v 12, .v 19])))))))))))
def bkD : T := .ite (.v 0) (.op (.neg .i64) [.v 14] 1 (.jump 0 [.b true, .v 1, .v 3, .v 11, .v 15, .v 2, .v 3, .v 4, .v 5, .v 6, .v 7, .v 8, .v 9])) (.jump 0 [.b false, .v 1, .v 3, .v 11, .v 14, .v 2, .v 3, .v 4, .v 5, .v 6, .v 7, .v 8, .v 9])
def bkIn (n : Nat) (b : T) : T := .seq bkD (.op (.call n) [.v 3, .v 4] 2 (.seq bkA b))
def bkC (x : T) : T := .seq (.op (.len 1) [.v 4] 1 (.op (.len 1) [.v 0] 1 (.op (.cmp .neq) [.v 6, .v 7] 1 (.ite (.v 8) (.jump 0 [.v 5, .b true, .v 0, .v 1, .v 4, .v 2, .v 3]) (.op (.len 1) [.v 4] 1 (.op (.len 1) [.v 1] 1 (.op (.cmp .neq) [.v 9, .v 10] 1 (.jump 0 [.v 5, .v 11, .v 0, .v 1, .v 4, .v 2, .v 3])))))))) (.ite (.v 1) (.ret [.nil, .i 0, .i 4]) (.op (.len 1) [.v 4] 1 (.op (.mk 1) [.v 7, .v 7] 1 (.op (.len 1) [.v 4] 1 (.seq (.loop [.v 0, .i 0, .v 9, .i 0, .v 2, .v 3, .v 4, .v 5, .v 6, .v 8] (.op (.cmp .lss) [.v 3, .v 2] 1 (.ite (.v 10) (.seq (.op (.chk 1) [.v 6, .v 3] 0 (.op (.get 1 0) [.v 6, .v 3] 1 (.op (.chk 1) [.v 5, .v 3] 0 (.op (.get 1 0) [.v 5, .v 3] 1 (.op .mn [.v 12, .i 20000] 1 (.op .mx [.i (-20000), .v 13] 1 x)))))) (.op (.bin .add .i64) [.v 3, .i 1] 1 (.jump 0 [.v 0, .v 1, .v 2, .v 10, .v 4, .v 5, .v 6, .v 7, .v 8, .v 9]))) (.jump 1 [.v 1, .v 9])))) (.ret [.v 1, .v 0, .i 0]))))))
def tBack (n : Nat) : T := bkC (bkIn n bkB)
def tBack' (n : Nat) : T := bkC (bkIn n bkB')

section
variable {tb : List PF}

theorem eval_op_c {p : Prim} {as : List Atom} {n : Nat} {k k' : T} (h : eval tb k = eval tb k') : eval tb (.op p as n k) = eval tb (.op p as n k') := by
  funext η; simp only [eval, h]
theorem eval_ite_c {c : Atom} {a a' b b' : T} (h : eval tb a = eval tb a') (h' : eval tb b = eval tb b') : eval tb (.ite c a b) = eval tb (.ite c a' b') := by
  funext η; simp only [eval, h, h']
theorem eval_seq_c {a a' b b' : T} (h : eval tb a = eval tb a') (h' : eval tb b = eval tb b') : eval tb (.seq a b) = eval tb (.seq a' b') := by
  funext η; simp only [eval, h, h']
theorem eval_loop_c {i : List Atom} {b b' : T} (h : eval tb b = eval tb b') : eval tb (.loop i b) = eval tb (.loop i b') := by
  funext η; simp only [eval, h]

theorem geq_len (x : Int) (n : Nat) : cmpInt .geq x (n : Int) = some (decide (x ≥ (n : Int))) := rfl

theorem bk_local (v : List PV) (hv : v.length = 15) : eval tb (.seq bkA bkB) v = eval tb (.seq bkA bkB') v := by
  match v, hv with
  | [a0, a1, a2, a3, a4, a5, a6, a7, a8, a9, a10, a11, a12, a13, a14], _ =>
    simp only [eval]
    have key : eval tb bkA [a0, a1, a2, a3, a4, a5, a6, a7, a8, a9, a10, a11, a12, a13, a14] = none ∨
        eval tb bkA [a0, a1, a2, a3, a4, a5, a6, a7, a8, a9, a10, a11, a12, a13, a14] = some (.jump 0 [a0, a1, a2, a13, a14, a5, a6, .bool true, a7, a8, a9, a10, a11, a12]) ∨
        ∃ l i x m, a7 = .ints l ∧ a2 = .int i ∧ a9 = .ints m ∧ (0 ≤ i ∧ i < (l.length / 1 : Nat)) ∧ l[i.toNat * 1 + 0]? = some x ∧ ¬ x < 0 ∧ ¬ x ≥ ((m.length / 1 : Nat) : Int) ∧
          eval tb bkA [a0, a1, a2, a3, a4, a5, a6, a7, a8, a9, a10, a11, a12, a13, a14] = some (.jump 0 [a0, a1, a2, a13, a14, a5, a6, .bool false, a7, a8, a9, a10, a11, a12]) := by
      unfold bkA
      cases a7 with
      | int _ => left; simp [eval, looks, look, step, ev]
      | bool _ => left; simp [eval, looks, look, step, ev]
      | str _ => left; simp [eval, looks, look, step, ev]
      | ints l =>
        cases a2 with
        | bool _ => left; simp [eval, looks, look, step, ev]
        | ints _ => left; simp [eval, looks, look, step, ev]
        | str _ => left; simp [eval, looks, look, step, ev]
        | int i =>
          by_cases hc : 0 ≤ i ∧ i < (l.length / 1 : Nat)
          · obtain ⟨x, hx⟩ : ∃ x, l[i.toNat * 1 + 0]? = some x := ⟨_, List.getElem?_eq_getElem (by rw [Nat.div_one] at hc; omega)⟩
            have e1 : ev (.chk 1) [.ints l, .int i] = some [] := by simp only [ev]; rw [if_pos hc]
            have e2 : ev (.get 1 0) [.ints l, .int i] = some [.int x] := by simp only [ev]; rw [if_pos hc.1, hx]
            by_cases h0 : x < 0
            · right; left
              have e3 : ev (.cmp .lss) [.int x, .int 0] = some [.bool true] := by simp [ev, cmpInt, h0]
              simp [eval, looks, look, step, e1, e2, e3]
            · have e3 : ev (.cmp .lss) [.int x, .int 0] = some [.bool false] := by simp [ev, cmpInt, h0]
              cases a9 with
              | int n =>
                left
                have e4 : ev (.len 1) [.int n] = none := rfl
                simp [eval, looks, look, step, e1, e2, e3, e4]
              | bool n =>
                left
                have e4 : ev (.len 1) [.bool n] = none := rfl
                simp [eval, looks, look, step, e1, e2, e3, e4]
              | str n =>
                left
                have e4 : ev (.len 1) [.str n] = none := rfl
                simp [eval, looks, look, step, e1, e2, e3, e4]
              | ints m =>
                obtain ⟨z, hz, e4⟩ : ∃ z : Int, z = ((m.length / 1 : Nat) : Int) ∧ ev (.len 1) [.ints m] = some [.int z] := ⟨_, rfl, rfl⟩
                by_cases h1 : x ≥ z
                · right; left
                  have e5 : ev (.cmp .geq) [.int x, .int z] = some [.bool true] := by simp [ev, cmpInt, h1]
                  simp [eval, looks, look, step, e1, e2, e3, e4, e5]
                · right; right
                  have e5 : ev (.cmp .geq) [.int x, .int z] = some [.bool false] := by simp [ev, cmpInt]; omega
                  exact ⟨l, i, x, m, rfl, rfl, rfl, hc, hx, h0, by rw [← hz]; exact h1, by simp [eval, looks, look, step, e1, e2, e3, e4, e5]⟩
          · left
            have e1 : ev (.chk 1) [.ints l, .int i] = none := by simp only [ev]; rw [if_neg hc]
            simp [eval, looks, look, step, e1]
    rcases key with h | h | ⟨l, i, x, m, rfl, rfl, rfl, hc, hx, h0, h1, h⟩
    · rw [h]
    · rw [h]
      unfold bkB bkB'
      simp [eval, looks, look]
    · rw [h]
      have e1 : ev (.chk 1) [.ints l, .int i] = some [] := by simp only [ev]; rw [if_pos hc]
      have e2 : ev (.get 1 0) [.ints l, .int i] = some [.int x] := by simp only [ev]; rw [if_pos hc.1, hx]
      have e3 : ev (.cmp .lss) [.int x, .int 0] = some [.bool false] := by simp [ev, cmpInt, h0]
      have e4 : ev (.len 1) [.ints m] = some [.int ((m.length / 1 : Nat) : Int)] := rfl
      have e5 : ev (.cmp .geq) [.int x, .int ((m.length / 1 : Nat) : Int)] = some [.bool false] := by simp only [ev, geq_len, decide_eq_false h1]
      unfold bkB bkB'
      simp only [eval, looks, look, step, List.getElem?_cons_zero, List.getElem?_cons_succ, cond_false, e1, e2, List.append_nil, List.cons_append, List.nil_append, List.length_nil, List.length_cons, Nat.reduceAdd, if_true]
      cases ev (.bin .or .u8) [a1, a14] with
      | none => rfl
      | some rs =>
        match rs with
        | [] => simp
        | _ :: _ :: _ => simp
        | [y] =>
          simp only [List.length_cons, List.length_nil, Nat.reduceAdd, if_true, List.cons_append, List.nil_append, List.getElem?_cons_zero, List.getElem?_cons_succ, e3, e4, e5, cond_false]

theorem bk_in (n : Nat) : eval tb (bkIn n bkB) = eval tb (bkIn n bkB') := by
  funext η
  unfold bkIn
  simp only [eval]
  cases hd : eval tb bkD η with
  | none => rfl
  | some o =>
    cases o with
    | ret v => rfl
    | jump l v =>
      cases l with
      | succ l => rfl
      | zero =>
        have hv := Nat.eq_of_beq_eq_true (jall_ok (P := Nat.beq 13) bkD 0 η v rfl hd)
        simp only
        cases looks v [.v 3, .v 4] with
        | none => rfl
        | some vs =>
          simp only
          cases step tb (.call n) vs with
          | none => rfl
          | some rs =>
            simp only
            split
            · rename_i hr
              have := bk_local (tb := tb) (v ++ rs) (by rw [List.length_append, hr, ← hv])
              simpa only [eval] using this
            · rfl

theorem bk_eq (n : Nat) : eval tb (tBack n) = eval tb (tBack' n) := by
  unfold tBack tBack' bkC
  refine eval_seq_c rfl (eval_ite_c rfl (eval_op_c (eval_op_c (eval_op_c (eval_seq_c (eval_loop_c (eval_op_c (eval_ite_c (eval_seq_c (eval_op_c (eval_op_c (eval_op_c (eval_op_c (eval_op_c (eval_op_c (bk_in n))))))) rfl) rfl))) rfl)))))

theorem back_same (hl : ∀ F ∈ tb, Lawful F) {n : Nat} {x : AS × List AS} (h : SumOk ((tBack' n).fn tb) x) : SumOk ((tBack n).fn tb) x := by
  have e : (tBack n).fn tb = (tBack' n).fn tb := by
    funext vs k
    unfold T.fn
    rw [evalK_eq hl, evalK_eq hl, bk_eq]
  rw [e]
  exact h
end
end Gm

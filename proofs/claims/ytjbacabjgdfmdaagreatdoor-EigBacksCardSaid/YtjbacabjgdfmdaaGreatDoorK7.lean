/- Totality: what is known of the values in the environment: kinds, bounds, differences. -/
import Derived.Test.YtjbacabjgdfmdaaGreatDoorK0
namespace Gm
open Go

/-- the kind of a value; of a list: how many numbers make an element, and the bounds of all its numbers -/
inductive AT where
  | int | bool | ints (w : Nat) (lo hi : Int) | str
  deriving DecidableEq, Inhabited, Repr

def AT.ok : AT → PV → Prop
  | .int, .int _ => True
  | .bool, .bool _ => True
  | .ints w lo hi, .ints l => 0 < w ∧ l.length % w = 0 ∧ ∀ x ∈ l, lo ≤ x ∧ x ≤ hi
  | .str, .str _ => True
  | _, _ => False

/-- what a slot measures: a number, whether, or how many elements -/
def meas : AT → PV → Int
  | .int, .int n => n
  | .bool, .bool b => bif b then 1 else 0
  | .ints w _ _, .ints l => ((l.length / w : Nat) : Int)
  | _, _ => 0

/-- what a bool stands for -/
inductive Def where
  | none
  | cmp (op : BinOp) (a b : Atom)
  | not (a : Atom)
  | mul (a b : Atom)
  deriving DecidableEq, Inhabited, Repr

/-- a slot: its kind, its bounds, what it stands for -/
structure Slot where
  t : AT
  lo : Option Int := none
  hi : Option Int := none
  df : Def := .none
  deriving DecidableEq, Inhabited, Repr

/-- a state: slots, and pairs of them: the one is at most the other and so much more -/
structure AS where
  sl : List Slot
  fs : List (Nat × Nat × Int) := []
  deriving Inhabited, Repr

/-- what a slot of a state measures -/
def ms (sl : List Slot) (η : List PV) (i : Nat) : Int :=
  match sl[i]?, η[i]? with
  | some s, some p => meas s.t p
  | _, _ => 0

def Def.ok (η : List PV) (p : PV) : Def → Prop
  | .none => True
  | .cmp op a b => ∃ x y r, look η a = some (.int x) ∧ look η b = some (.int y) ∧ cmpInt op x y = some r ∧ p = .bool r
  | .not a => ∃ r, look η a = some (.bool r) ∧ p = .bool (!r)
  | .mul a b => ∃ x y r, look η a = some (.int x) ∧ look η b = some (.int y) ∧ p = .int r ∧ (x = 0 ∨ y = 0 → r = 0)

structure Slot.ok (η : List PV) (s : Slot) (p : PV) : Prop where
  t : s.t.ok p
  lo : ∀ n, s.lo = some n → n ≤ meas s.t p
  hi : ∀ n, s.hi = some n → meas s.t p ≤ n
  df : s.df.ok η p

structure AS.ok (st : AS) (η : List PV) : Prop where
  len : η.length = st.sl.length
  slot : ∀ (i : Nat) (s : Slot) (p : PV), st.sl[i]? = some s → η[i]? = some p → s.ok η p
  fact : ∀ a b c, (a, b, c) ∈ st.fs → a < st.sl.length ∧ b < st.sl.length ∧ ms st.sl η a ≤ ms st.sl η b + c

theorem ms_app {sl sl' : List Slot} {η η' : List PV} {j : Nat} (h : j < sl.length) (hl : η.length = sl.length) : ms (sl ++ sl') (η ++ η') j = ms sl η j := by
  unfold ms
  rw [List.getElem?_append_left h, List.getElem?_append_left (by omega)]

theorem Def.ok_pre {η η' : List PV} (hp : Pre η η') {p : PV} {d : Def} (h : d.ok η p) : d.ok η' p := by
  cases d with
  | none => trivial
  | cmp op a b => obtain ⟨x, y, r, h1, h2, h3⟩ := h; exact ⟨x, y, r, look_pre hp h1, look_pre hp h2, h3⟩
  | not a => obtain ⟨r, h1, h2⟩ := h; exact ⟨r, look_pre hp h1, h2⟩
  | mul a b => obtain ⟨x, y, r, h1, h2, h3⟩ := h; exact ⟨x, y, r, look_pre hp h1, look_pre hp h2, h3⟩

/-- what is known of an answer -/
structure Nw where
  t : AT
  lo : Option Int := none
  hi : Option Int := none
  up : List (Nat × Int) := []
  dn : List (Nat × Int) := []
  df : Def := .none
  deriving Inhabited, Repr

structure Nw.ok (st : AS) (η : List PV) (n : Nw) (p : PV) : Prop where
  t : n.t.ok p
  lo : ∀ m, n.lo = some m → m ≤ meas n.t p
  hi : ∀ m, n.hi = some m → meas n.t p ≤ m
  up : ∀ j c, (j, c) ∈ n.up → j < st.sl.length ∧ meas n.t p ≤ ms st.sl η j + c
  dn : ∀ j c, (j, c) ∈ n.dn → j < st.sl.length ∧ ms st.sl η j ≤ meas n.t p + c
  df : n.df.ok η p

def push (st : AS) (n : Nw) : AS :=
  ⟨st.sl ++ [⟨n.t, n.lo, n.hi, n.df⟩], n.up.map (fun x => (st.sl.length, x.1, x.2)) ++ (n.dn.map (fun x => (x.1, st.sl.length, x.2)) ++ st.fs)⟩

theorem slots_app {sl : List Slot} {η : List PV} {s : Slot} {p : PV} (hl : η.length = sl.length) (h : ∀ (i : Nat) (s : Slot) (p : PV), sl[i]? = some s → η[i]? = some p → s.ok η p) (hs : s.ok (η ++ [p]) p) :
    ∀ (i : Nat) (s' : Slot) (p' : PV), (sl ++ [s])[i]? = some s' → (η ++ [p])[i]? = some p' → s'.ok (η ++ [p]) p' := by
  intro i s' p' h1 h2
  rcases Nat.lt_or_ge i sl.length with q | q
  · rw [List.getElem?_append_left q] at h1
    rw [List.getElem?_append_left (by rw [hl]; exact q)] at h2
    have k := h i s' p' h1 h2
    exact ⟨k.t, k.lo, k.hi, Def.ok_pre (Pre.app _ _) k.df⟩
  · have hi' : i = sl.length := by
      have := (List.getElem?_eq_some_iff.1 h1).1
      simp at this; omega
    subst hi'
    rw [List.getElem?_append_right (Nat.le_refl _)] at h1
    rw [List.getElem?_append_right (by rw [hl]; exact Nat.le_refl _), hl] at h2
    simp at h1 h2
    subst h1; subst h2
    exact hs

/-- a slot more -/
theorem AS.push {st : AS} {η : List PV} {n : Nw} {p : PV} (h : AS.ok st η) (k : n.ok st η p) : AS.ok (push st n) (η ++ [p]) := by
  refine ⟨by simp [Gm.push, h.len], ?_, ?_⟩
  · exact slots_app h.len h.slot ⟨k.t, k.lo, k.hi, Def.ok_pre (Pre.app _ _) k.df⟩
  · have hms : ms (st.sl ++ [⟨n.t, n.lo, n.hi, n.df⟩]) (η ++ [p]) st.sl.length = meas n.t p := by
      unfold ms
      rw [List.getElem?_append_right (Nat.le_refl _), List.getElem?_append_right (by rw [h.len]; exact Nat.le_refl _), h.len]
      simp
    intro a b c hm
    simp only [Gm.push, List.mem_append, List.mem_map] at hm
    simp only [Gm.push, List.length_append, List.length_singleton]
    rcases hm with ⟨⟨j, c'⟩, h1, h2⟩ | ⟨⟨j, c'⟩, h1, h2⟩ | hm
    · cases h2
      obtain ⟨q1, q2⟩ := k.up j c' h1
      exact ⟨by omega, by omega, by rw [hms, ms_app q1 h.len]; exact q2⟩
    · cases h2
      obtain ⟨q1, q2⟩ := k.dn j c' h1
      exact ⟨by omega, by omega, by rw [hms, ms_app q1 h.len]; exact q2⟩
    · obtain ⟨q1, q2, q3⟩ := h.fact a b c hm
      exact ⟨by omega, by omega, by rw [ms_app q1 h.len, ms_app q2 h.len]; exact q3⟩

end Gm

/- Totality: questions to a state. -/
namespace Gm
open Go

def loS (sl : List Slot) (i : Nat) : Option Int := match sl[i]? with
  | some s => s.lo
  | none => none
def hiS (sl : List Slot) (i : Nat) : Option Int := match sl[i]? with
  | some s => s.hi
  | none => none

def leB : Option Int → Option Int → Int → Bool
  | some a, some b, c => decide (a ≤ b + c)
  | _, _, _ => false

/-- is a slot at most another one, and so much more? -/
def le (st : AS) : Nat → Nat → Nat → Int → Bool
  | 0, i, j, c => (Nat.beq i j && decide (0 ≤ c)) || leB (hiS st.sl i) (loS st.sl j) c
  | d + 1, i, j, c => (Nat.beq i j && decide (0 ≤ c)) || (leB (hiS st.sl i) (loS st.sl j) c ||
    st.fs.any fun f => Nat.beq f.1 i && le st d f.2.1 j (c - f.2.2))

/-- how far it is looked -/
def far : Nat := 5

def loA (st : AS) : Atom → Option Int
  | .i n => some n
  | .b x => some (bif x then 1 else 0)
  | .nil => some 0
  | .v i => loS st.sl i

def hiA (st : AS) : Atom → Option Int
  | .i n => some n
  | .b x => some (bif x then 1 else 0)
  | .nil => some 0
  | .v i => hiS st.sl i

def leI : Option Int → Int → Bool
  | some a, n => decide (a ≤ n)
  | none, _ => false

def geI : Option Int → Int → Bool
  | some a, n => decide (n ≤ a)
  | none, _ => false

/-- is a slot at most a number? -/
def leHi (st : AS) : Nat → Nat → Int → Bool
  | 0, i, n => leI (hiS st.sl i) n
  | d + 1, i, n => leI (hiS st.sl i) n || st.fs.any fun f => Nat.beq f.1 i && leHi st d f.2.1 (n - f.2.2)

/-- is a slot at least a number? -/
def leLo (st : AS) : Nat → Nat → Int → Bool
  | 0, j, n => geI (loS st.sl j) n
  | d + 1, j, n => geI (loS st.sl j) n || st.fs.any fun f => Nat.beq f.2.1 j && leLo st d f.1 (n + f.2.2)

/-- by way of a bound -/
def leVia (st : AS) (i j : Nat) (c : Int) : Bool :=
  (match hiS st.sl i with
  | some h => leLo st 3 j (h - c)
  | none => false) || (match loS st.sl j with
  | some l => leHi st 3 i (l + c)
  | none => false)

def leA (st : AS) (a b : Atom) (c : Int) : Bool :=
  match a, b with
  | .v i, .v j => le st far i j c || leVia st i j c
  | .v i, .i n => leHi st far i (n + c)
  | .i n, .v j => leLo st far j (n - c)
  | a, b => leB (hiA st a) (loA st b) c

def mA (sl : List Slot) (η : List PV) : Atom → Int
  | .i n => n
  | .b x => bif x then 1 else 0
  | .nil => 0
  | .v i => ms sl η i

section
variable {st : AS} {η : List PV}

theorem AS.ok.at (h : AS.ok st η) {i : Nat} {s : Slot} (e : st.sl[i]? = some s) : ∃ p, η[i]? = some p ∧ s.ok η p ∧ ms st.sl η i = meas s.t p := by
  have hlt := (List.getElem?_eq_some_iff.1 e).1
  have hl2 : i < η.length := by rw [h.len]; exact hlt
  have h2 : η[i]? = some η[i] := List.getElem?_eq_getElem hl2
  exact ⟨_, h2, h.slot i s _ e h2, by unfold ms; rw [e, h2]⟩

theorem loS_ok (h : AS.ok st η) {i : Nat} {n : Int} (e : loS st.sl i = some n) : n ≤ ms st.sl η i := by
  unfold loS at e
  split at e
  · rename_i s hs
    obtain ⟨p, _, k, m⟩ := h.at hs
    rw [m]; exact k.lo n e
  · cases e

theorem hiS_ok (h : AS.ok st η) {i : Nat} {n : Int} (e : hiS st.sl i = some n) : ms st.sl η i ≤ n := by
  unfold hiS at e
  split at e
  · rename_i s hs
    obtain ⟨p, _, k, m⟩ := h.at hs
    rw [m]; exact k.hi n e
  · cases e

theorem leB_ok {a b : Option Int} {x y c : Int} (ha : ∀ n, a = some n → x ≤ n) (hb : ∀ n, b = some n → n ≤ y) (e : leB a b c = true) : x ≤ y + c := by
  unfold leB at e
  split at e
  · have h1 := ha _ rfl
    have h2 := hb _ rfl
    simp at e
    omega
  · cases e

theorem le_ok (h : AS.ok st η) : ∀ (d i j : Nat) {c : Int}, le st d i j c = true → ms st.sl η i ≤ ms st.sl η j + c
  | 0, i, j, c, e => by
    simp only [le, Bool.or_eq_true, Bool.and_eq_true, decide_eq_true_eq] at e
    rcases e with ⟨q, r⟩ | e
    · have := Nat.eq_of_beq_eq_true q; subst this; omega
    · exact leB_ok (fun n q => hiS_ok h q) (fun n q => loS_ok h q) e
  | d + 1, i, j, c, e => by
    simp only [le, Bool.or_eq_true, Bool.and_eq_true, decide_eq_true_eq, List.any_eq_true] at e
    rcases e with ⟨q, r⟩ | e | ⟨⟨a, b, c'⟩, hm, q, r⟩
    · have := Nat.eq_of_beq_eq_true q; subst this; omega
    · exact leB_ok (fun n q => hiS_ok h q) (fun n q => loS_ok h q) e
    · have := Nat.eq_of_beq_eq_true q
      simp only at this r
      subst this
      have h1 := (h.fact _ _ _ hm).2.2
      have h2 := le_ok h d b j r
      omega

theorem leHi_ok (h : AS.ok st η) : ∀ (d i : Nat) {n : Int}, leHi st d i n = true → ms st.sl η i ≤ n
  | 0, i, n, e => by
    simp only [leHi] at e
    unfold leI at e
    split at e
    · rename_i q; have := hiS_ok h q; simp at e; omega
    · cases e
  | d + 1, i, n, e => by
    simp only [leHi, Bool.or_eq_true, Bool.and_eq_true, List.any_eq_true] at e
    rcases e with e | ⟨⟨a, b, c'⟩, hm, q, r⟩
    · unfold leI at e
      split at e
      · rename_i q; have := hiS_ok h q; simp at e; omega
      · cases e
    · have := Nat.eq_of_beq_eq_true q
      simp only at this r
      subst this
      have h1 := (h.fact _ _ _ hm).2.2
      have h2 := leHi_ok h d b r
      omega

theorem leLo_ok (h : AS.ok st η) : ∀ (d j : Nat) {n : Int}, leLo st d j n = true → n ≤ ms st.sl η j
  | 0, i, n, e => by
    simp only [leLo] at e
    unfold geI at e
    split at e
    · rename_i q; have := loS_ok h q; simp at e; omega
    · cases e
  | d + 1, i, n, e => by
    simp only [leLo, Bool.or_eq_true, Bool.and_eq_true, List.any_eq_true] at e
    rcases e with e | ⟨⟨a, b, c'⟩, hm, q, r⟩
    · unfold geI at e
      split at e
      · rename_i q; have := loS_ok h q; simp at e; omega
      · cases e
    · have := Nat.eq_of_beq_eq_true q
      simp only at this r
      subst this
      have h1 := (h.fact _ _ _ hm).2.2
      have h2 := leLo_ok h d a r
      omega

theorem loA_ok (h : AS.ok st η) {a : Atom} {n : Int} (e : loA st a = some n) : n ≤ mA st.sl η a := by
  cases a with
  | v i => exact loS_ok h e
  | i m => simp only [loA, Option.some.injEq] at e; subst e; exact Int.le_refl _
  | b x => simp only [loA, Option.some.injEq] at e; subst e; exact Int.le_refl _
  | nil => simp only [loA, Option.some.injEq] at e; subst e; exact Int.le_refl _

theorem hiA_ok (h : AS.ok st η) {a : Atom} {n : Int} (e : hiA st a = some n) : mA st.sl η a ≤ n := by
  cases a with
  | v i => exact hiS_ok h e
  | i m => simp only [hiA, Option.some.injEq] at e; subst e; exact Int.le_refl _
  | b x => simp only [hiA, Option.some.injEq] at e; subst e; exact Int.le_refl _
  | nil => simp only [hiA, Option.some.injEq] at e; subst e; exact Int.le_refl _

theorem leVia_ok (h : AS.ok st η) {i j : Nat} {c : Int} (e : leVia st i j c = true) : ms st.sl η i ≤ ms st.sl η j + c := by
  unfold leVia at e
  rw [Bool.or_eq_true] at e
  rcases e with e | e
  · split at e
    · rename_i n hn
      have h1 := hiS_ok h hn
      have h2 := leLo_ok h _ _ e
      omega
    · cases e
  · split at e
    · rename_i n hn
      have h1 := loS_ok h hn
      have h2 := leHi_ok h _ _ e
      omega
    · cases e

theorem leA_ok (h : AS.ok st η) {a b : Atom} {c : Int} (e : leA st a b c = true) : mA st.sl η a ≤ mA st.sl η b + c := by
  unfold leA at e
  split at e
  · rw [Bool.or_eq_true] at e
    exact e.elim (le_ok h _ _ _) (leVia_ok h)
  · exact leHi_ok h _ _ e
  · have := leLo_ok h _ _ e
    simp only [mA]
    omega
  · exact leB_ok (fun n q => hiA_ok h q) (fun n q => loA_ok h q) e
end

/-- the kind of an atom -/
def tyA (st : AS) : Atom → Option AT
  | .i _ => some .int
  | .b _ => some .bool
  | .nil => none
  | .v i => match st.sl[i]? with
    | some s => some s.t
    | none => none

def isInt (st : AS) (a : Atom) : Bool := match tyA st a with
  | some .int => true
  | _ => false

def isBool (st : AS) (a : Atom) : Bool := match tyA st a with
  | some .bool => true
  | _ => false

/-- an atom is a list of a width: the bounds of its numbers -/
def isInts (st : AS) (a : Atom) (w : Nat) : Option (Int × Int) := match a with
  | .nil => if 0 < w then some (1, 0) else none
  | a => match tyA st a with
    | some (.ints w' lo hi) => if w' = w then some (lo, hi) else none
    | _ => none

section
variable {st : AS} {η : List PV}

theorem tyA_ok (h : AS.ok st η) {a : Atom} {t : AT} (e : tyA st a = some t) : ∃ p, look η a = some p ∧ t.ok p ∧ mA st.sl η a = meas t p := by
  cases a with
  | i n => simp only [tyA, Option.some.injEq] at e; subst e; exact ⟨_, rfl, trivial, rfl⟩
  | b x => simp only [tyA, Option.some.injEq] at e; subst e; exact ⟨_, rfl, trivial, rfl⟩
  | nil => cases e
  | v i =>
    simp only [tyA] at e
    split at e
    · rename_i s hs
      cases e
      obtain ⟨p, h1, k, m⟩ := h.at hs
      exact ⟨p, h1, k.t, m⟩
    · cases e

theorem isInt_ok (h : AS.ok st η) {a : Atom} (e : isInt st a = true) : ∃ x, look η a = some (.int x) ∧ mA st.sl η a = x := by
  unfold isInt at e
  split at e
  · rename_i q
    obtain ⟨p, h1, h2, h3⟩ := tyA_ok h q
    cases p with
    | int n => exact ⟨n, h1, h3⟩
    | bool b => exact h2.elim
    | ints l => exact h2.elim
    | str b => exact h2.elim
  · cases e

theorem isBool_ok (h : AS.ok st η) {a : Atom} (e : isBool st a = true) : ∃ x, look η a = some (.bool x) ∧ mA st.sl η a = bif x then 1 else 0 := by
  unfold isBool at e
  split at e
  · rename_i q
    obtain ⟨p, h1, h2, h3⟩ := tyA_ok h q
    cases p with
    | int n => exact h2.elim
    | bool b => exact ⟨b, h1, h3⟩
    | ints l => exact h2.elim
    | str b => exact h2.elim
  · cases e

theorem isInts_ok (h : AS.ok st η) {a : Atom} {w : Nat} {lo hi : Int} (e : isInts st a w = some (lo, hi)) : ∃ l, look η a = some (.ints l) ∧ mA st.sl η a = ((l.length / w : Nat) : Int) ∧ 0 < w ∧ l.length % w = 0 ∧ ∀ x ∈ l, lo ≤ x ∧ x ≤ hi := by
  unfold isInts at e
  split at e
  · split at e
    · rename_i hw
      cases e
      exact ⟨[], rfl, by simp [mA], hw, by simp, by simp⟩
    · cases e
  · split at e
    · rename_i q
      split at e
      · rename_i q2
        subst q2
        cases e
        obtain ⟨p, h1, h2, h3⟩ := tyA_ok h q
        cases p with
        | int n => exact h2.elim
        | bool b => exact h2.elim
        | ints l => exact ⟨l, h1, h3, h2⟩
        | str b => exact h2.elim
      · cases e
    · cases e

theorem v_lt {i : Nat} {p : PV} (h : AS.ok st η) (e : look η (.v i) = some p) : i < st.sl.length := by
  rw [← h.len]; exact (List.getElem?_eq_some_iff.1 e).1
end
end Gm

/- Totality: sums, products, quotients. -/
namespace Gm
open Go

theorem wrap_bounds (k : IntKind) (n : Int) : k.min ≤ k.wrap n ∧ k.wrap n ≤ k.max := by
  cases k <;> simp only [IntKind.min, IntKind.max, IntKind.wrap, IntKind.bits, IntKind.signed] <;> simp <;> (try split) <;> omega

theorem wrap_in {k : IntKind} {n : Int} (h1 : k.min ≤ n) (h2 : n ≤ k.max) : k.wrap n = n := by
  cases k <;> simp only [IntKind.min, IntKind.max, IntKind.wrap, IntKind.bits, IntKind.signed] at * <;> simp at * <;> (try split) <;> omega

def minO : Option Int → Option Int → Option Int
  | none, b => b
  | some a, none => some a
  | some a, some b => some (if a ≤ b then a else b)

theorem minO_ok {P : Int → Prop} {a b : Option Int} (ha : ∀ n, a = some n → P n) (hb : ∀ n, b = some n → P n) : ∀ n, minO a b = some n → P n := by
  intro n h
  cases a with
  | none => exact hb n h
  | some x => cases b with
    | none => exact ha n h
    | some y =>
      simp only [minO, Option.some.injEq] at h
      split at h
      · exact ha n (by rw [h])
      · exact hb n (by rw [h])

def maxO : Option Int → Option Int → Option Int
  | none, b => b
  | some a, none => some a
  | some a, some b => some (if a ≤ b then b else a)

theorem maxO_ok {P : Int → Prop} {a b : Option Int} (ha : ∀ n, a = some n → P n) (hb : ∀ n, b = some n → P n) : ∀ n, maxO a b = some n → P n := by
  intro n h
  cases a with
  | none => exact hb n h
  | some x => cases b with
    | none => exact ha n h
    | some y =>
      simp only [maxO, Option.some.injEq] at h
      split at h
      · exact hb n (by rw [h])
      · exact ha n (by rw [h])

def addO : Option Int → Option Int → Option Int
  | some a, some b => some (a + b)
  | _, _ => none
def subO : Option Int → Option Int → Option Int
  | some a, some b => some (a - b)
  | _, _ => none
def negO : Option Int → Option Int
  | some a => some (-a)
  | none => none

/-- a fact about a slot, where it is not too far -/
def fv (o : Option Int) : Atom → List (Nat × Int)
  | .v i => match o with
    | some c => bif Nat.ble c.natAbs 9007199254740992 then [(i, c)] else []
    | none => []
  | _ => []

theorem fv_mem {o : Option Int} {a : Atom} {j : Nat} {c : Int} (h : (j, c) ∈ fv o a) : a = .v j ∧ o = some c := by
  unfold fv at h
  split at h
  · split at h
    · rename_i d
      cases hb : Nat.ble d.natAbs 9007199254740992 with
      | true => rw [hb] at h; simp at h; exact ⟨by rw [h.1], by rw [h.2]⟩
      | false => rw [hb] at h; cases h
    · cases h
  · cases h

def kNw (k : IntKind) : Nw := { t := .int, lo := some k.min, hi := some k.max }

def nonneg (st : AS) (b : Atom) : Bool := leA st (.i 0) b 0

def pos (st : AS) (b : Atom) : Bool := leA st (.i 1) b 0

/-- an answer that is not wrapped, if that is sure -/
def exact (k : IntKind) (n : Nw) : Nw :=
  match n.lo, n.hi with
  | some l, some h => if k.min ≤ l ∧ h ≤ k.max then n else kNw k
  | _, _ => kNw k

section
variable {st : AS} {η : List PV}

theorem nonneg_ok (h : AS.ok st η) {a : Atom} (hn : nonneg st a = true) : 0 ≤ mA st.sl η a := by
  have : (0 : Int) ≤ _ := leA_ok h (a := .i 0) hn
  omega

theorem pos_ok (h : AS.ok st η) {a : Atom} (hn : pos st a = true) : 0 < mA st.sl η a := by
  have : (1 : Int) ≤ _ := leA_ok h (a := .i 1) hn
  omega

theorem kNw_ok (k : IntKind) (n : Int) : (kNw k).ok st η (.int (k.wrap n)) :=
  ⟨trivial, fun m e => by cases e; exact (wrap_bounds k n).1, fun m e => by cases e; exact (wrap_bounds k n).2, fun j c e => (by cases e), fun j c e => (by cases e), trivial⟩

theorem exact_ok {k : IntKind} {n : Nw} {r : Int} (ht : n.t = .int) (hn : n.ok st η (.int r)) : (exact k n).ok st η (.int (k.wrap r)) := by
  unfold exact
  split
  · rename_i l h hl hh
    split
    · rename_i hc
      have h1 := hn.lo l hl
      have h2 := hn.hi h hh
      rw [ht] at h1 h2
      simp only [meas] at h1 h2
      rw [wrap_in (by omega) (by omega)]
      exact hn
    · exact kNw_ok k r
  · exact kNw_ok k r

theorem exact_t {k : IntKind} {n : Nw} (ht : n.t = .int) : (exact k n).t = .int := by
  unfold exact
  split
  · split
    · exact ht
    · rfl
  · rfl

/-- facts on a slot that is looked at -/
theorem fv_ok (h : AS.ok st η) {o : Option Int} {a : Atom} {p : PV} (hx : look η a = some p) {j : Nat} {c : Int} (e : (j, c) ∈ fv o a) : j < st.sl.length ∧ ms st.sl η j = mA st.sl η a ∧ o = some c := by
  obtain ⟨rfl, h2⟩ := fv_mem e
  exact ⟨v_lt h hx, rfl, h2⟩

def addNw (st : AS) (a b : Atom) : Nw :=
  { t := .int, lo := addO (loA st a) (loA st b), hi := addO (hiA st a) (hiA st b), up := fv (hiA st b) a ++ fv (hiA st a) b, dn := fv (negO (loA st b)) a ++ fv (negO (loA st a)) b }

theorem addNw_ok (h : AS.ok st η) {a b : Atom} {x y : Int} (hx : look η a = some (.int x)) (hy : look η b = some (.int y)) (ex : mA st.sl η a = x) (ey : mA st.sl η b = y) :
    (addNw st a b).ok st η (.int (x + y)) := by
  refine ⟨trivial, fun m e => ?_, fun m e => ?_, fun j c e => ?_, fun j c e => ?_, trivial⟩ <;> simp only [addNw, meas, List.mem_append] at e ⊢
  · unfold addO at e
    split at e
    · rename_i p q; have := loA_ok h p; have := loA_ok h q; cases e; omega
    · cases e
  · unfold addO at e
    split at e
    · rename_i p q; have := hiA_ok h p; have := hiA_ok h q; cases e; omega
    · cases e
  · rcases e with e | e
    · obtain ⟨h1, h2, h3⟩ := fv_ok h hx e
      have := hiA_ok h h3
      exact ⟨h1, by omega⟩
    · obtain ⟨h1, h2, h3⟩ := fv_ok h hy e
      have := hiA_ok h h3
      exact ⟨h1, by omega⟩
  · rcases e with e | e
    · obtain ⟨h1, h2, h3⟩ := fv_ok h hx e
      unfold negO at h3
      split at h3
      · rename_i q; have := loA_ok h q; cases h3; exact ⟨h1, by omega⟩
      · cases h3
    · obtain ⟨h1, h2, h3⟩ := fv_ok h hy e
      unfold negO at h3
      split at h3
      · rename_i q; have := loA_ok h q; cases h3; exact ⟨h1, by omega⟩
      · cases h3

def subLo (st : AS) (a b : Atom) : Option Int :=
  bif leA st b a (-1) then some 1 else bif leA st b a 0 then some 0 else none

def subHi (st : AS) (a b : Atom) : Option Int :=
  bif leA st a b 0 then some 0 else bif leA st a b 1 then some 1 else bif leA st a b 2 then some 2 else bif leA st a b 3 then some 3 else none

theorem subHi_ok {st : AS} {η : List PV} (h : AS.ok st η) {a b : Atom} : ∀ m, subHi st a b = some m → mA st.sl η a - mA st.sl η b ≤ m := by
  intro m e
  unfold subHi at e
  cases h0 : leA st a b 0 with
  | true => rw [h0] at e; cases e; have := leA_ok h h0; omega
  | false =>
    rw [h0] at e
    cases h1 : leA st a b 1 with
    | true => rw [h1] at e; cases e; have := leA_ok h h1; omega
    | false =>
      rw [h1] at e
      cases h2 : leA st a b 2 with
      | true => rw [h2] at e; cases e; have := leA_ok h h2; omega
      | false =>
        rw [h2] at e
        cases h3 : leA st a b 3 with
        | true => rw [h3] at e; cases e; have := leA_ok h h3; omega
        | false => rw [h3] at e; cases e

def subNw (st : AS) (a b : Atom) : Nw :=
  { t := .int, lo := maxO (subO (loA st a) (hiA st b)) (subLo st a b), hi := minO (subO (hiA st a) (loA st b)) (subHi st a b), up := fv (negO (loA st b)) a, dn := fv (hiA st b) a }

theorem subNw_ok (h : AS.ok st η) {a b : Atom} {x y : Int} (hx : look η a = some (.int x)) (ex : mA st.sl η a = x) (ey : mA st.sl η b = y) :
    (subNw st a b).ok st η (.int (x - y)) := by
  refine ⟨trivial, ?_, ?_, fun j c e => ?_, fun j c e => ?_, trivial⟩
  · refine maxO_ok (P := fun m => m ≤ x - y) (fun m e => ?_) (fun m e => ?_)
    · unfold subO at e
      split at e
      · rename_i p q; have := loA_ok h p; have := hiA_ok h q; cases e; omega
      · cases e
    · unfold subLo at e
      cases h1 : leA st b a (-1) with
      | true => rw [h1] at e; cases e; have := leA_ok h h1; omega
      | false =>
        rw [h1] at e
        cases h2 : leA st b a 0 with
        | true => rw [h2] at e; cases e; have := leA_ok h h2; omega
        | false => rw [h2] at e; cases e
  · refine minO_ok (P := fun m => x - y ≤ m) (fun m e => ?_) (fun m e => by have := subHi_ok h m e; omega)
    unfold subO at e
    split at e
    · rename_i p q; have := hiA_ok h p; have := loA_ok h q; cases e; omega
    · cases e
  · simp only [subNw, meas] at e ⊢
    obtain ⟨h1, h2, h3⟩ := fv_ok h hx e
    unfold negO at h3
    split at h3
    · rename_i q; have := loA_ok h q; cases h3; exact ⟨h1, by omega⟩
    · cases h3
  · simp only [subNw, meas] at e ⊢
    obtain ⟨h1, h2, h3⟩ := fv_ok h hx e
    have := hiA_ok h h3
    exact ⟨h1, by omega⟩

def mulNw (st : AS) (a b : Atom) : Nw :=
  match loA st a, hiA st a, loA st b, hiA st b with
  | some la, some ha, some lb, some hb =>
    if 0 ≤ la ∧ 0 ≤ lb then { t := .int, lo := some (la * lb), hi := some (ha * hb) }
    else
      let p : Int := max la.natAbs ha.natAbs
      let q : Int := max lb.natAbs hb.natAbs
      { t := .int, lo := some (-(p * q)), hi := some (p * q) }
  | _, _, _, _ => { t := .int }

theorem mul_abs {x y p q : Int} (hx : -p ≤ x ∧ x ≤ p) (hy : -q ≤ y ∧ y ≤ q) : -(p * q) ≤ x * y ∧ x * y ≤ p * q := by
  have h1 : (x * y).natAbs = x.natAbs * y.natAbs := Int.natAbs_mul x y
  have h2 : x.natAbs * y.natAbs ≤ p.natAbs * q.natAbs := Nat.mul_le_mul (by omega) (by omega)
  have h3 : ((p.natAbs * q.natAbs : Nat) : Int) = p * q := by
    rw [Int.natCast_mul, Int.natAbs_of_nonneg (by omega), Int.natAbs_of_nonneg (by omega)]
  omega

theorem mulNw_t {a b : Atom} : (mulNw st a b).t = .int := by
  unfold mulNw
  split
  · split <;> rfl
  · rfl

theorem mulNw_ok (h : AS.ok st η) {a b : Atom} {x y : Int} (ex : mA st.sl η a = x) (ey : mA st.sl η b = y) : (mulNw st a b).ok st η (.int (x * y)) := by
  unfold mulNw
  split
  · rename_i la ha' lb hb' q1 q2 q3 q4
    have h1 := loA_ok h q1
    have h2 := hiA_ok h q2
    have h3 := loA_ok h q3
    have h4 := hiA_ok h q4
    rw [ex] at h1 h2
    rw [ey] at h3 h4
    split
    · rename_i hc
      refine ⟨trivial, fun m e => ?_, fun m e => ?_, fun j c e => (by cases e), fun j c e => (by cases e), trivial⟩
      · cases e; exact Int.mul_le_mul h1 h3 hc.2 (by omega)
      · cases e; exact Int.mul_le_mul h2 h4 (by omega) (by omega)
    · have k := mul_abs (x := x) (y := y) (p := max la.natAbs ha'.natAbs) (q := max lb.natAbs hb'.natAbs) (by omega) (by omega)
      refine ⟨trivial, fun m e => ?_, fun m e => ?_, fun j c e => (by cases e), fun j c e => (by cases e), trivial⟩
      · cases e; exact k.1
      · cases e; exact k.2
  · exact ⟨trivial, fun m e => (by cases e), fun m e => (by cases e), fun j c e => (by cases e), fun j c e => (by cases e), trivial⟩

def decO : Option Int → Option Int
  | some n => some (n - 1)
  | none => none

theorem decO_some {o : Option Int} {m : Int} (e : decO o = some m) : o = some (m + 1) := by
  unfold decO at e
  split at e
  · cases e; congr 1; omega
  · cases e

def remNw (st : AS) (a b : Atom) : Nw :=
  bif nonneg st a then { t := .int, lo := some 0, hi := minO (hiA st a) (decO (hiA st b)), up := fv (some 0) a ++ fv (some (-1)) b }
  else { t := .int, lo := (match hiA st b with | some n => some (1 - n) | none => none), hi := decO (hiA st b), up := fv (some (-1)) b }

theorem remNw_t {a b : Atom} : (remNw st a b).t = .int := by
  unfold remNw
  cases nonneg st a <;> rfl

theorem remNw_ok (h : AS.ok st η) {a b : Atom} {x y : Int} (hx : look η a = some (.int x)) (hy : look η b = some (.int y)) (ex : mA st.sl η a = x) (ey : mA st.sl η b = y) (hp : pos st b = true) :
    (remNw st a b).ok st η (.int (x.tmod y)) := by
  have hy0 := pos_ok h hp
  rw [ey] at hy0
  have hlt := Int.tmod_lt_of_pos x hy0
  have hup : ∀ j c, (j, c) ∈ fv (some (-1)) b → j < st.sl.length ∧ x.tmod y ≤ ms st.sl η j + c := by
    intro j c e
    obtain ⟨h1, h2, h3⟩ := fv_ok h hy e
    cases h3
    exact ⟨h1, by omega⟩
  unfold remNw
  cases hn : nonneg st a with
  | true =>
    have hx0 := nonneg_ok h hn
    rw [ex] at hx0
    have h0 := Int.tmod_nonneg y hx0
    have hle : x.tmod y ≤ x := by 
      rw [Int.tmod_eq_emod_of_nonneg hx0]
      have h5 := Int.emod_add_mul_ediv x y
      have h6 : 0 ≤ x / y := Int.ediv_nonneg hx0 (by omega)
      have h7 : 0 ≤ y * (x / y) := Int.mul_nonneg (by omega) h6
      omega
    simp only [cond_true]
    refine ⟨trivial, fun m e => by cases e; exact h0, ?_, fun j c e => ?_, fun j c e => (by cases e), trivial⟩
    · refine minO_ok (P := fun m => x.tmod y ≤ m) (fun n e => by have := hiA_ok h e; omega) (fun n e => ?_)
      have := hiA_ok h (decO_some e)
      omega
    · rcases List.mem_append.1 e with e | e
      · obtain ⟨z1, z2, z3⟩ := fv_ok h hx e
        cases z3
        exact ⟨z1, by simp only [meas]; omega⟩
      · exact hup j c e
  | false =>
    have hgt : -y < x.tmod y := by
      have h5 : (x.tmod y).natAbs < y.natAbs := by
        rw [Int.natAbs_tmod]
        exact Nat.mod_lt _ (by omega)
      omega
    simp only [cond_false]
    refine ⟨trivial, fun m e => ?_, fun m e => ?_, hup, fun j c e => (by cases e), trivial⟩
    · simp only [meas] at e ⊢
      split at e
      · rename_i q; have := hiA_ok h q; cases e; omega
      · cases e
    · simp only [meas] at e ⊢
      have := hiA_ok h (decO_some e)
      omega

/-- a number that is not below 0, divided by one above 0 -/
def quoNw (st : AS) (a : Atom) : Nw := bif nonneg st a then { t := .int, lo := some 0, hi := hiA st a, up := fv (some 0) a } else { t := .int }

theorem quoNw_t {a : Atom} : (quoNw st a).t = .int := by
  unfold quoNw
  cases nonneg st a <;> rfl

theorem quoNw_ok (h : AS.ok st η) {a b : Atom} {x y : Int} (hx : look η a = some (.int x)) (ex : mA st.sl η a = x) (ey : mA st.sl η b = y) (hp : pos st b = true) :
    (quoNw st a).ok st η (.int (x.tdiv y)) := by
  have hy0 := pos_ok h hp
  rw [ey] at hy0
  unfold quoNw
  cases hn : nonneg st a with
  | true =>
    have hx0 := nonneg_ok h hn
    rw [ex] at hx0
    have h0 : 0 ≤ x.tdiv y := Int.tdiv_nonneg hx0 (by omega)
    have h1 : x.tdiv y ≤ x := by
      rw [Int.tdiv_eq_ediv_of_nonneg hx0]
      exact Int.ediv_le_self _ hx0
    simp only [cond_true]
    refine ⟨trivial, fun m e => by cases e; exact h0, fun m e => ?_, fun j c e => ?_, fun j c e => (by cases e), trivial⟩
    · have := hiA_ok h e; simp only [meas]; omega
    · simp only at e
      obtain ⟨z1, z2, z3⟩ := fv_ok h hx e
      cases z3
      exact ⟨z1, by simp only [meas]; omega⟩
  | false => exact ⟨trivial, fun m e => (by cases e), fun m e => (by cases e), fun j c e => (by cases e), fun j c e => (by cases e), trivial⟩
end
end Gm

/- Totality: shifts and bits. -/
namespace Gm
open Go

theorem shr_le {x : Int} (hx : 0 ≤ x) (n : Nat) : 0 ≤ x.fdiv (2 ^ n) ∧ x.fdiv (2 ^ n) ≤ x := by
  have hp : (0 : Int) < 2 ^ n := Int.pow_pos (by omega)
  rw [Int.fdiv_eq_ediv_of_nonneg _ (by omega)]
  exact ⟨Int.ediv_nonneg hx (by omega), Int.ediv_le_self _ hx⟩

theorem shr_mono {x h : Int} {n m : Nat} (hx : 0 ≤ x) (hh : x ≤ h) (hn : n ≤ m) : x.fdiv (2 ^ m) ≤ h.fdiv (2 ^ n) := by
  have hp : (0 : Int) < 2 ^ n := Int.pow_pos (by omega)
  have hq : (0 : Int) < 2 ^ m := Int.pow_pos (by omega)
  rw [Int.fdiv_eq_ediv_of_nonneg _ (by omega), Int.fdiv_eq_ediv_of_nonneg _ (by omega)]
  rw [Int.le_ediv_iff_mul_le hp]
  have h1 : x / 2 ^ m * 2 ^ m ≤ x := Int.ediv_mul_le _ (by omega)
  have h2 : (2 : Int) ^ n ≤ 2 ^ m := by have := Nat.pow_le_pow_right (show 0 < 2 by omega) hn; exact_mod_cast this
  have h3 : 0 ≤ x / 2 ^ m := Int.ediv_nonneg hx (by omega)
  have h4 : x / 2 ^ m * 2 ^ n ≤ x / 2 ^ m * 2 ^ m := Int.mul_le_mul_of_nonneg_left h2 h3
  omega

theorem shr_neg {x : Int} (hx : x < 0) (n : Nat) : x ≤ x.fdiv (2 ^ n) ∧ x.fdiv (2 ^ n) < 0 := by
  have hp : (0 : Int) < 2 ^ n := Int.pow_pos (by omega)
  rw [Int.fdiv_eq_ediv_of_nonneg _ (by omega)]
  have h1 : x / 2 ^ n < 0 := Int.ediv_neg_of_neg_of_pos hx hp
  refine ⟨?_, h1⟩
  have h2 : x < (x / 2 ^ n + 1) * 2 ^ n := Int.lt_ediv_add_one_mul_self x hp
  have h3 : (x / 2 ^ n + 1) * 2 ^ n ≤ (x / 2 ^ n + 1) * 1 := Int.mul_le_mul_of_nonpos_left (by omega) (by omega)
  omega

theorem shr_strict {x : Int} (hx : 0 < x) {n : Nat} (hn : 1 ≤ n) : x.fdiv (2 ^ n) ≤ x - 1 := by
  have h1 := shr_mono (n := 1) (m := n) (show 0 ≤ x by omega) (Int.le_refl x) hn
  have h2 : x.fdiv (2 ^ 1) ≤ x - 1 := by
    rw [Int.fdiv_eq_ediv_of_nonneg _ (by omega)]
    omega
  omega

def shrLo (k : IntKind) : Option Int → Option Int → Int
  | some l, some n => (max l 0).fdiv (2 ^ min n.toNat k.bits)
  | _, _ => 0

/-- a number shifted down: by at least so many places -/
def shrNw (st : AS) (k : IntKind) (a b : Atom) : Nw :=
  bif nonneg st a then
    { t := .int, lo := some (shrLo k (loA st a) (hiA st b)), up := fv (some (bif pos st a && pos st b then -1 else 0)) a, hi := match hiA st a, loA st b with
      | some h, some n => some (h.fdiv (2 ^ min n.toNat k.bits))
      | h, _ => h }
  else { t := .int, lo := minO (loA st a) (match loA st a with | some _ => some 0 | none => none), hi := maxO (hiA st a) (match hiA st a with | some _ => some 0 | none => none) }

section
variable {st : AS} {η : List PV}

theorem shrNw_ok (h : AS.ok st η) {k : IntKind} {a b : Atom} {x y : Int} (hx : look η a = some (.int x)) (ex : mA st.sl η a = x) (ey : mA st.sl η b = y) :
    (shrNw st k a b).ok st η (.int (x.fdiv (2 ^ min y.toNat k.bits))) := by
  unfold shrNw
  cases hn : nonneg st a with
  | true =>
    have hx0 := nonneg_ok h hn
    rw [ex] at hx0
    simp only [cond_true]
    have h0 := shr_le hx0 (min y.toNat k.bits)
    refine ⟨trivial, fun m e => ?_, fun m e => ?_, fun j c e => ?_, fun j c e => (by cases e), trivial⟩
    · have e' := Option.some.inj e
      clear e
      rw [← e']
      simp only [meas]
      unfold shrLo
      split
      · rename_i l n hl hn'
        have h1 := loA_ok h hl
        have h2 := hiA_ok h hn'
        exact shr_mono (by omega) (by omega) (by omega)
      · exact h0.1
    · simp only [meas] at e ⊢
      split at e
      · rename_i p q
        have h1 := hiA_ok h p
        have h2 := loA_ok h q
        cases e
        exact shr_mono hx0 (by omega) (by omega)
      · have := hiA_ok h e
        omega
    · simp only at e
      obtain ⟨z1, z2, z3⟩ := fv_ok h hx e
      refine ⟨z1, ?_⟩
      simp only [meas]
      have z3' := Option.some.inj z3
      clear z3
      cases hpp : pos st a && pos st b with
      | false => rw [hpp] at z3'; simp only [cond_false] at z3'; omega
      | true =>
        rw [hpp] at z3'
        simp only [cond_true] at z3'
        rw [Bool.and_eq_true] at hpp
        have p1 := pos_ok h hpp.1
        have p2 := pos_ok h hpp.2
        have hb : 1 ≤ k.bits := by cases k <;> decide
        have := shr_strict (x := x) (n := min y.toNat k.bits) (by omega) (by omega)
        omega
  | false =>
    simp only [cond_false]
    have key : (0 ≤ x ∧ 0 ≤ x.fdiv (2 ^ min y.toNat k.bits) ∧ x.fdiv (2 ^ min y.toNat k.bits) ≤ x) ∨ (x < 0 ∧ x ≤ x.fdiv (2 ^ min y.toNat k.bits) ∧ x.fdiv (2 ^ min y.toNat k.bits) < 0) := by
      rcases (show x < 0 ∨ 0 ≤ x by omega) with q | q
      · exact .inr ⟨q, shr_neg q _⟩
      · exact .inl ⟨q, shr_le q _⟩
    refine ⟨trivial, ?_, ?_, fun j c e => (by cases e), fun j c e => (by cases e), trivial⟩
    · simp only [meas]
      cases hl : loA st a with
      | none => intro m e; cases e
      | some l =>
        have := loA_ok h hl
        intro m e
        simp only [minO, Option.some.injEq] at e
        split at e <;> omega
    · simp only [meas]
      cases hl : hiA st a with
      | none => intro m e; cases e
      | some l =>
        have := hiA_ok h hl
        intro m e
        simp only [maxO, Option.some.injEq] at e
        split at e <;> omega

def shlLo (k : IntKind) (l : Int) : Option Int → Int
  | some m => max l 0 * 2 ^ min m.toNat k.bits
  | none => l

/-- a number shifted up -/
def shlNw (st : AS) (k : IntKind) (a b : Atom) : Nw :=
  match nonneg st a, loA st a, hiA st a, hiA st b with
  | true, some l, some h, some n => { t := .int, lo := some (shlLo k l (loA st b)), hi := some (h * 2 ^ min n.toNat k.bits) }
  | _, _, _, _ => { t := .int }

theorem shlNw_t {k : IntKind} {a b : Atom} : (shlNw st k a b).t = .int := by
  unfold shlNw
  split <;> rfl

theorem shlNw_ok (h : AS.ok st η) {k : IntKind} {a b : Atom} {x y : Int} (ex : mA st.sl η a = x) (ey : mA st.sl η b = y) : (shlNw st k a b).ok st η (.int (x * 2 ^ min y.toNat k.bits)) := by
  unfold shlNw
  split
  · rename_i l hh n hn hl hha hb
    have hx0 := nonneg_ok h hn
    have h1 := loA_ok h hl
    have h2 := hiA_ok h hha
    have h3 := hiA_ok h hb
    rw [ex] at hx0 h1 h2
    rw [ey] at h3
    have hp : (0 : Int) < 2 ^ min y.toNat k.bits := Int.pow_pos (by omega)
    have hle : (2 : Int) ^ min y.toNat k.bits ≤ 2 ^ min n.toNat k.bits := by
      have := Nat.pow_le_pow_right (show 0 < 2 by omega) (show min y.toNat k.bits ≤ min n.toNat k.bits by omega)
      exact_mod_cast this
    refine ⟨trivial, fun m e => ?_, fun m e => ?_, fun j c e => (by cases e), fun j c e => (by cases e), trivial⟩
    · simp only [meas] at e ⊢
      have e' := Option.some.inj e
      clear e
      unfold shlLo at e'
      split at e'
      · rename_i q hq
        have h4 := loA_ok h hq
        rw [ey] at h4
        have hle2 : (2 : Int) ^ min q.toNat k.bits ≤ 2 ^ min y.toNat k.bits := by
          have := Nat.pow_le_pow_right (show 0 < 2 by omega) (show min q.toNat k.bits ≤ min y.toNat k.bits by omega)
          exact_mod_cast this
        have hq0 : (0 : Int) < 2 ^ min q.toNat k.bits := Int.pow_pos (by omega)
        rw [← e']
        exact Int.mul_le_mul (by omega) hle2 (by omega) hx0
      · have := Int.mul_le_mul_of_nonneg_left (show (1 : Int) ≤ 2 ^ min y.toNat k.bits by omega) hx0
        omega
    · cases e
      exact Int.mul_le_mul h2 hle (by omega) (by omega)
  · exact ⟨trivial, fun m e => (by cases e), fun m e => (by cases e), fun j c e => (by cases e), fun j c e => (by cases e), trivial⟩

theorem ofInt_le {n : Nat} {x : Int} (hx : 0 ≤ x) : ((BitVec.ofInt n x).toNat : Int) ≤ x := by
  rw [BitVec.toNat_ofInt]
  have h2 : (0 : Int) < ((2 ^ n : Nat) : Int) := by exact_mod_cast Nat.pow_pos (by omega)
  have h3 : 0 ≤ x % ((2 ^ n : Nat) : Int) := Int.emod_nonneg _ (by omega)
  have h1 : x % ((2 ^ n : Nat) : Int) ≤ x := by
    have h5 := Int.emod_add_mul_ediv x ((2 ^ n : Nat) : Int)
    have h6 : 0 ≤ x / ((2 ^ n : Nat) : Int) := Int.ediv_nonneg hx (by omega)
    have h7 : 0 ≤ ((2 ^ n : Nat) : Int) * (x / ((2 ^ n : Nat) : Int)) := Int.mul_nonneg (by omega) h6
    omega
  rw [Int.toNat_of_nonneg h3]
  exact h1

def ifO (b : Bool) (o : Option Int) : Option Int := bif b then o else none
def ifL (b : Bool) (o : List (Nat × Int)) : List (Nat × Int) := bif b then o else []

theorem ifO_ok {b : Bool} {o : Option Int} {m : Int} (e : ifO b o = some m) : b = true ∧ o = some m := by
  cases b with
  | true => exact ⟨rfl, e⟩
  | false => cases e
theorem ifL_ok {b : Bool} {o : List (Nat × Int)} {x : Nat × Int} (e : x ∈ ifL b o) : b = true ∧ x ∈ o := by
  cases b with
  | true => exact ⟨rfl, e⟩
  | false => cases e

def andNw (st : AS) (a b : Atom) : Nw :=
  { t := .int, lo := some 0, hi := minO (ifO (nonneg st a) (hiA st a)) (ifO (nonneg st b) (hiA st b)), up := ifL (nonneg st a) (fv (some 0) a) ++ ifL (nonneg st b) (fv (some 0) b) }

theorem andNw_ok (h : AS.ok st η) {n : Nat} {a b : Atom} {x y : Int} (hx : look η a = some (.int x)) (hy : look η b = some (.int y)) (ex : mA st.sl η a = x) (ey : mA st.sl η b = y) :
    (andNw st a b).ok st η (.int ((BitVec.ofInt n x &&& BitVec.ofInt n y).toNat : Int)) := by
  have h1 : nonneg st a = true → (((BitVec.ofInt n x &&& BitVec.ofInt n y).toNat : Nat) : Int) ≤ x := fun hn => by
    have h0 := nonneg_ok h hn
    rw [ex] at h0
    have h5 := ofInt_le (n := n) h0
    have h6 : (BitVec.ofInt n x &&& BitVec.ofInt n y).toNat ≤ (BitVec.ofInt n x).toNat := by rw [BitVec.toNat_and]; exact Nat.and_le_left
    omega
  have h2 : nonneg st b = true → (((BitVec.ofInt n x &&& BitVec.ofInt n y).toNat : Nat) : Int) ≤ y := fun hn => by
    have h0 := nonneg_ok h hn
    rw [ey] at h0
    have h5 := ofInt_le (n := n) h0
    have h6 : (BitVec.ofInt n x &&& BitVec.ofInt n y).toNat ≤ (BitVec.ofInt n y).toNat := by rw [BitVec.toNat_and]; exact Nat.and_le_right
    omega
  refine ⟨trivial, fun m e => ?_, ?_, fun j c e => ?_, fun j c e => (by cases e), trivial⟩
  · cases e; show (0 : Int) ≤ _; exact Int.natCast_nonneg _
  · refine minO_ok (P := fun m => _ ≤ m) (fun m e => ?_) (fun m e => ?_)
    · obtain ⟨p, q⟩ := ifO_ok e
      have := hiA_ok h q
      have := h1 p
      show (((BitVec.ofInt n x &&& BitVec.ofInt n y).toNat : Nat) : Int) ≤ m; omega
    · obtain ⟨p, q⟩ := ifO_ok e
      have := hiA_ok h q
      have := h2 p
      show (((BitVec.ofInt n x &&& BitVec.ofInt n y).toNat : Nat) : Int) ≤ m; omega
  · simp only [andNw, List.mem_append] at e
    rcases e with e | e
    · obtain ⟨p, q⟩ := ifL_ok e
      obtain ⟨z1, z2, z3⟩ := fv_ok h hx q
      cases z3
      have := h1 p
      exact ⟨z1, by simp only [meas, andNw]; omega⟩
    · obtain ⟨p, q⟩ := ifL_ok e
      obtain ⟨z1, z2, z3⟩ := fv_ok h hy q
      cases z3
      have := h2 p
      exact ⟨z1, by simp only [meas, andNw]; omega⟩

def andNotNw (st : AS) (a : Atom) : Nw :=
  { t := .int, lo := some 0, hi := ifO (nonneg st a) (hiA st a), up := ifL (nonneg st a) (fv (some 0) a) }

theorem andNotNw_ok (h : AS.ok st η) {n : Nat} {a : Atom} {x : Int} (z : BitVec n) (hx : look η a = some (.int x)) (ex : mA st.sl η a = x) :
    (andNotNw st a).ok st η (.int ((BitVec.ofInt n x &&& z).toNat : Int)) := by
  have h1 : nonneg st a = true → (((BitVec.ofInt n x &&& z).toNat : Nat) : Int) ≤ x := fun hn => by
    have h0 := nonneg_ok h hn
    rw [ex] at h0
    have h5 := ofInt_le (n := n) h0
    have h6 : (BitVec.ofInt n x &&& z).toNat ≤ (BitVec.ofInt n x).toNat := by rw [BitVec.toNat_and]; exact Nat.and_le_left
    omega
  refine ⟨trivial, fun m e => ?_, fun m e => ?_, fun j c e => ?_, fun j c e => (by cases e), trivial⟩
  · cases e; show (0 : Int) ≤ _; exact Int.natCast_nonneg _
  · obtain ⟨p, q⟩ := ifO_ok e
    have := hiA_ok h q
    have := h1 p
    show (((BitVec.ofInt n x &&& z).toNat : Nat) : Int) ≤ m; omega
  · obtain ⟨p, q⟩ := ifL_ok e
    obtain ⟨z1, z2, z3⟩ := fv_ok h hx q
    cases z3
    have := h1 p
    exact ⟨z1, by simp only [meas, andNotNw]; omega⟩

/-- either, or just one of them -/
def orNw (st : AS) (a b : Atom) : Nw :=
  match nonneg st a && nonneg st b, hiA st a, hiA st b with
  | true, some p, some q => { t := .int, lo := some 0, hi := some (((2 ^ ((max p q).toNat.log2 + 1) - 1 : Nat)) : Int) }
  | _, _, _ => { t := .int }

theorem orNw_t {a b : Atom} : (orNw st a b).t = .int := by
  unfold orNw
  split <;> rfl

theorem orNw_ok (h : AS.ok st η) {n : Nat} {a b : Atom} {x y : Int} (ex : mA st.sl η a = x) (ey : mA st.sl η b = y) (r : Nat)
    (hr : ∀ m, (BitVec.ofInt n x).toNat < 2 ^ m → (BitVec.ofInt n y).toNat < 2 ^ m → r < 2 ^ m) :
    (orNw st a b).ok st η (.int (r : Int)) := by
  unfold orNw
  split
  · rename_i p q hn hp hq
    simp only [Bool.and_eq_true] at hn
    have h1 := nonneg_ok h hn.1
    have h2 := nonneg_ok h hn.2
    have h3 := hiA_ok h hp
    have h4 := hiA_ok h hq
    rw [ex] at h1 h3
    rw [ey] at h2 h4
    have h5 := ofInt_le (n := n) h1
    have h6 := ofInt_le (n := n) h2
    have h7 : (max p q).toNat < 2 ^ ((max p q).toNat.log2 + 1) := Nat.lt_log2_self
    have h8 := hr ((max p q).toNat.log2 + 1) (by omega) (by omega)
    refine ⟨trivial, fun m e => ?_, fun m e => ?_, fun j c e => (by cases e), fun j c e => (by cases e), trivial⟩
    · cases e; simp only [meas]; omega
    · cases e; simp only [meas]; omega
  · exact ⟨trivial, fun m e => (by cases e), fun m e => (by cases e), fun j c e => (by cases e), fun j c e => (by cases e), trivial⟩

def binNw (st : AS) (op : BinOp) (k : IntKind) (a b : Atom) : Option Nw :=
  match op with
  | .add => some (exact k (addNw st a b))
  | .sub => some (exact k (subNw st a b))
  | .mul => some { exact k (mulNw st a b) with df := .mul a b }
  | .quo => bif pos st b then some (exact k (quoNw st a)) else none
  | .rem => bif pos st b then some (remNw st a b) else none
  | .and => some (exact k (andNw st a b))
  | .or => some (exact k (orNw st a b))
  | .xor => some (exact k (orNw st a b))
  | .andNot => some (exact k (andNotNw st a))
  | .shl => bif nonneg st b then some (exact k (shlNw st k a b)) else none
  | .shr => bif nonneg st b then some (shrNw st k a b) else none
  | _ => none

theorem binNw_ok (h : AS.ok st η) {op : BinOp} {k : IntKind} {a b : Atom} {x y : Int} {nw : Nw} (hx : look η a = some (.int x)) (hy : look η b = some (.int y)) (ex : mA st.sl η a = x) (ey : mA st.sl η b = y)
    (e : binNw st op k a b = some nw) : ∃ r, binInt op k x y = some r ∧ nw.ok st η (.int r) := by
  cases op <;> simp only [binNw, Option.some.injEq, reduceCtorEq] at e
  case add => subst e; exact ⟨_, rfl, exact_ok rfl (addNw_ok h hx hy ex ey)⟩
  case sub => subst e; exact ⟨_, rfl, exact_ok rfl (subNw_ok h hx ex ey)⟩
  case mul =>
    subst e
    have q := exact_ok (k := k) mulNw_t (mulNw_ok (a := a) (b := b) h ex ey)
    refine ⟨_, rfl, q.t, q.lo, q.hi, q.up, q.dn, x, y, _, hx, hy, rfl, fun hz => ?_⟩
    have h0 : x * y = 0 := by rcases hz with rfl | rfl <;> simp
    rw [h0]
    cases k <;> rfl
  case quo =>
    cases hp : pos st b with
    | false => rw [hp] at e; cases e
    | true =>
      rw [hp] at e; cases e
      have h0 := pos_ok h hp
      rw [ey] at h0
      refine ⟨_, ?_, exact_ok quoNw_t (quoNw_ok h hx ex ey hp)⟩
      simp only [binInt]
      rw [if_neg (by omega)]
  case rem =>
    cases hp : pos st b with
    | false => rw [hp] at e; cases e
    | true =>
      rw [hp] at e; cases e
      have h0 := pos_ok h hp
      rw [ey] at h0
      refine ⟨_, ?_, remNw_ok h hx hy ex ey hp⟩
      simp only [binInt]
      rw [if_neg (by omega)]
  case and => subst e; exact ⟨_, rfl, exact_ok rfl (andNw_ok h hx hy ex ey)⟩
  case or => subst e; exact ⟨_, rfl, exact_ok orNw_t (orNw_ok (n := k.bits) h ex ey _ (fun m p q => by rw [BitVec.toNat_or]; exact Nat.or_lt_two_pow p q))⟩
  case xor => subst e; exact ⟨_, rfl, exact_ok orNw_t (orNw_ok (n := k.bits) h ex ey _ (fun m p q => by rw [BitVec.toNat_xor]; exact Nat.xor_lt_two_pow p q))⟩
  case andNot => subst e; exact ⟨_, rfl, exact_ok rfl (andNotNw_ok h _ hx ex)⟩
  case shl =>
    cases hp : nonneg st b with
    | false => rw [hp] at e; cases e
    | true =>
      rw [hp] at e; cases e
      have h0 := nonneg_ok h hp
      rw [ey] at h0
      refine ⟨_, ?_, exact_ok shlNw_t (shlNw_ok h ex ey)⟩
      simp only [binInt]
      rw [if_neg (by omega)]
  case shr =>
    cases hp : nonneg st b with
    | false => rw [hp] at e; cases e
    | true =>
      rw [hp] at e; cases e
      have h0 := nonneg_ok h hp
      rw [ey] at h0
      refine ⟨_, ?_, shrNw_ok h hx ex ey⟩
      simp only [binInt]
      rw [if_neg (by omega)]
end
end Gm

/- Totality: what a primitive step that is no call yields. -/
namespace Gm
open Go

/-- the bounds of two lists' numbers -/
def hull (a b : Int × Int) : Int × Int :=
  if a.2 < a.1 then b else if b.2 < b.1 then a else (min a.1 b.1, max a.2 b.2)

def foldLo (l : List Int) : Int := match l with
  | [] => 1
  | x :: l => l.foldl min x
def foldHi (l : List Int) : Int := match l with
  | [] => 0
  | x :: l => l.foldl max x

def hasCmp : BinOp → Bool
  | .eql | .neq | .lss | .leq | .gtr | .geq => true
  | _ => false

def boolNw (d : Def) : Nw := { t := .bool, lo := some 0, hi := some 1, df := d }

/-- as long as a list, with other numbers -/
def likeNw (st : AS) (l : Atom) (w : Nat) (b : Int × Int) : Nw :=
  { t := .ints w b.1 b.2, lo := maxO (some 0) (loA st l), hi := hiA st l, up := fv (some 0) l, dn := fv (some 0) l }

def cpNw (st : AS) (a : Atom) : Nw := { t := .int, lo := loA st a, hi := hiA st a, up := fv (some 0) a, dn := fv (some 0) a }

def inB (st : AS) (i l : Atom) : Bool := nonneg st i && leA st i l (-1)

/-- the bounds of some atoms that are numbers -/
def atsB (st : AS) : List Atom → Option (Int × Int)
  | [] => some (1, 0)
  | a :: l => match isInt st a, loA st a, hiA st a, atsB st l with
    | true, some x, some y, some r => some (hull (x, y) r)
    | _, _, _, _ => none

/-- does a place and so many lie within a list? -/
def fits (st : AS) (i n l : Atom) : Bool := match hiA st i with
  | some c => leA st n l (-c)
  | none => false

def tr (st : AS) (w0 : Nat) : Prim → List Atom → Option (Option Nw)
  | .bin op k, [a, b] => bif isInt st a && isInt st b then (match binNw st op k a b with | some n => some (some n) | none => none) else none
  | .cmp op, [a, b] => bif isInt st a && (isInt st b && hasCmp op) then some (some (boolNw (.cmp op a b))) else none
  | .neg k, [a] => bif isInt st a then some (some (exact k (subNw st (.i 0) a))) else none
  | .inv k, [a] => bif isInt st a then some (some (kNw k)) else none
  | .bnot, [a] => bif isBool st a then some (some (boolNw (.not a))) else none
  | .beq, [a, b] => bif isBool st a && isBool st b then some (some (boolNw .none)) else none
  | .bne, [a, b] => bif isBool st a && isBool st b then some (some (boolNw .none)) else none
  | .band, [a, b] => bif isBool st a && isBool st b then some (some (boolNw .none)) else none
  | .conv k, [a] => bif isInt st a then some (some (exact k (cpNw st a))) else none
  | .addi, [a, b] => bif isInt st a && isInt st b then some (some (addNw st a b)) else none
  | .len w, [l] => match isInts st l w with
    | some _ => some (some { t := .int, lo := maxO (some 0) (loA st l), hi := hiA st l, up := fv (some 0) l, dn := fv (some 0) l })
    | none => none
  | .chk w, [l, i] => match isInts st l w with
    | some _ => bif isInt st i && inB st i l then some none else none
    | none => none
  | .chkn, [n, i] => bif isInt st n && (isInt st i && inB st i n) then some none else none
  | .get w o, [l, i] => match isInts st l w with
    | some (lo, hi) => bif (isInt st i && inB st i l) && Nat.blt o w then some (some { t := .int, lo := some lo, hi := some hi }) else none
    | none => none
  | .getb w o, [l, i] => match isInts st l w with
    | some _ => bif (isInt st i && inB st i l) && Nat.blt o w then some (some (boolNw .none)) else none
    | none => none
  | .set w o, [l, i, v] => match isInts st l w, loA st v, hiA st v with
    | some b, some x, some y => bif ((isInt st i && inB st i l) && Nat.blt o w) && isInt st v then some (some (likeNw st l w (hull b (x, y)))) else none
    | _, _, _ => none
  | .setb w o, [l, i, v] => match isInts st l w with
    | some b => bif ((isInt st i && inB st i l) && Nat.blt o w) && isBool st v then some (some (likeNw st l w (hull b (0, 1)))) else none
    | _ => none
  | .mk w, [n, c] => match hiA st c with
    | some h => bif ((isInt st n && isInt st c) && (nonneg st n && leA st n c 0)) && (Nat.blt 0 w && Nat.ble (h.toNat * w) room) then
        some (some { t := .ints w 0 0, lo := loA st n, hi := hiA st n, up := fv (some 0) n, dn := fv (some 0) n }) else none
    | none => none
  | .lit, as => match atsB st as with
    | some b => bif Nat.blt 0 w0 && Nat.beq (as.length % w0) 0 then
        some (some { t := .ints w0 b.1 b.2, lo := some ((as.length / w0 : Nat) : Int), hi := some ((as.length / w0 : Nat) : Int) }) else none
    | none => none
  | .litb, as => bif (Nat.blt 0 w0 && Nat.beq (as.length % w0) 0) && as.all (isBool st) then
        some (some { t := .ints w0 0 1, lo := some ((as.length / w0 : Nat) : Int), hi := some ((as.length / w0 : Nat) : Int) }) else none
  | .app, [l, m] => match isInts st l w0, isInts st m w0, hiA st m with
    | some b, some b', some y => bif leA st l (.i ((room / w0 : Nat) - y)) 0 then
        some (some { addNw st l m with t := .ints w0 (hull b b').1 (hull b b').2, hi := minO (addO (hiA st l) (hiA st m)) (some (room / w0 : Nat)) }) else none
    | _, _, _ => none
  | .sl w, [l, i, n] => match isInts st l w with
    | some b => bif (isInt st i && isInt st n) && (nonneg st i && nonneg st n) then
        bif fits st i n l then some (some { t := .ints w b.1 b.2, lo := loA st n, hi := hiA st n, up := fv (some 0) n ++ fv (some 0) l, dn := fv (some 0) n })
        else some (some { t := .ints w b.1 b.2, lo := some 0, hi := hiA st n, up := fv (some 0) n ++ fv (some 0) l }) else none
    | none => none
  | .rng, [lo, hi, m] => bif (isInt st lo && (isInt st hi && isInt st m)) && (nonneg st lo && (leA st lo hi 0 && leA st hi m 0)) then some (some (subNw st hi lo)) else none
  | .spl w, [l, i, m] => match isInts st l w, isInts st m w with
    | some b, some b' => bif isInt st i && (nonneg st i && fits st i m l) then some (some (likeNw st l w (hull b b'))) else none
    | _, _ => none
  | .zer w, [l, i, n] => match isInts st l w with
    | some b => bif (isInt st i && isInt st n) && ((nonneg st i && nonneg st n) && fits st i n l) then some (some (likeNw st l w (hull b (0, 0)))) else none
    | none => none
  | .sel, [c, a, b] => bif isBool st c then
      bif isInt st a && isInt st b then
        match loA st a, loA st b, hiA st a, hiA st b with
        | some x, some y, some p, some q => some (some { t := .int, lo := some (min x y), hi := some (max p q) })
        | _, _, _, _ => some (some { t := .int })
      else bif isBool st a && isBool st b then some (some (boolNw .none)) else none
    else none
  | .mx, [a, b] => bif isInt st a && isInt st b then some (some { t := .int, lo := maxO (loA st a) (loA st b), up := ifL (leA st b a 0) (fv (some 0) a) ++ ifL (leA st a b 0) (fv (some 0) b), dn := fv (some 0) a ++ fv (some 0) b, hi := match hiA st a, hiA st b with
      | some x, some y => some (max x y)
      | _, _ => none }) else none
  | .mn, [a, b] => bif isInt st a && isInt st b then some (some { t := .int, hi := minO (hiA st a) (hiA st b), up := fv (some 0) a ++ fv (some 0) b, dn := ifL (leA st a b 0) (fv (some 0) a) ++ ifL (leA st b a 0) (fv (some 0) b), lo := match loA st a, loA st b with
      | some x, some y => some (min x y)
      | _, _ => none }) else none
  | .tab l, [i] => match hiA st i with
    | some h => bif (isInt st i && nonneg st i) && Nat.blt h.toNat l.length then some (some { t := .int, lo := some (foldLo (l.take (h.toNat + 1))), hi := some (foldHi (l.take (h.toNat + 1))) }) else none
    | none => none
  | _, _ => none

theorem hull_l {a b : Int × Int} {x : Int} (h : a.1 ≤ x ∧ x ≤ a.2) : (hull a b).1 ≤ x ∧ x ≤ (hull a b).2 := by
  unfold hull
  split
  · omega
  · split
    · exact h
    · exact ⟨by simp only; omega, by simp only; omega⟩

theorem hull_r {a b : Int × Int} {x : Int} (h : b.1 ≤ x ∧ x ≤ b.2) : (hull a b).1 ≤ x ∧ x ≤ (hull a b).2 := by
  unfold hull
  split
  · exact h
  · split
    · omega
    · exact ⟨by simp only; omega, by simp only; omega⟩

theorem foldl_min : ∀ (l : List Int) (a : Int), l.foldl min a ≤ a ∧ ∀ x ∈ l, l.foldl min a ≤ x
  | [], a => ⟨Int.le_refl _, fun x h => (by cases h)⟩
  | y :: l, a => by
    obtain ⟨h1, h2⟩ := foldl_min l (min a y)
    refine ⟨by rw [List.foldl_cons]; omega, fun x h => ?_⟩
    rw [List.foldl_cons]
    rcases List.mem_cons.1 h with rfl | h
    · omega
    · exact h2 x h

theorem foldl_max : ∀ (l : List Int) (a : Int), a ≤ l.foldl max a ∧ ∀ x ∈ l, x ≤ l.foldl max a
  | [], a => ⟨Int.le_refl _, fun x h => (by cases h)⟩
  | y :: l, a => by
    obtain ⟨h1, h2⟩ := foldl_max l (max a y)
    refine ⟨by rw [List.foldl_cons]; omega, fun x h => ?_⟩
    rw [List.foldl_cons]
    rcases List.mem_cons.1 h with rfl | h
    · omega
    · exact h2 x h

theorem fold_ok {l : List Int} {x : Int} (h : x ∈ l) : foldLo l ≤ x ∧ x ≤ foldHi l := by
  cases l with
  | nil => cases h
  | cons y l =>
    rcases List.mem_cons.1 h with rfl | h
    · exact ⟨(foldl_min l x).1, (foldl_max l x).1⟩
    · exact ⟨(foldl_min l y).2 x h, (foldl_max l y).2 x h⟩

theorem idx_lt {l : List Int} {w o i : Nat} (hm : l.length % w = 0) (ho : o < w) (hi : i < l.length / w) : i * w + o < l.length := by
  have h1 : (i + 1) * w ≤ l.length / w * w := Nat.mul_le_mul_right w hi
  have h2 : l.length / w * w = l.length := Nat.div_mul_cancel (Nat.dvd_of_mod_eq_zero hm)
  rw [Nat.add_mul] at h1
  omega

theorem len_mul {l : List Int} {w : Nat} (hm : l.length % w = 0) : l.length / w * w = l.length := Nat.div_mul_cancel (Nat.dvd_of_mod_eq_zero hm)

section
variable {st : AS} {η : List PV}

theorem boolNw_ok {d : Def} {x : Bool} (h : d.ok η (.bool x)) : (boolNw d).ok st η (.bool x) :=
  ⟨trivial, fun m e => by cases e; cases x <;> (show (0:Int) ≤ _) <;> simp [meas, boolNw], fun m e => by cases e; cases x <;> (show _ ≤ (1:Int)) <;> simp [meas, boolNw], fun j c e => (by cases e), fun j c e => (by cases e), h⟩

theorem likeNw_ok (h : AS.ok st η) {l : Atom} {w : Nat} {b : Int × Int} {p : PV} {x y : List Int} (hx : look η l = some p) (ex : mA st.sl η l = ((x.length / w : Nat) : Int)) (hw : 0 < w) (hl : y.length = x.length) (hm : x.length % w = 0)
    (he : ∀ z ∈ y, b.1 ≤ z ∧ z ≤ b.2) : (likeNw st l w b).ok st η (.ints y) := by
  have hme : meas (.ints w b.1 b.2) (.ints y) = mA st.sl η l := by rw [ex]; simp only [meas, hl]
  refine ⟨⟨hw, by rw [hl]; exact hm, he⟩, ?_, fun m e => ?_, fun j c e => ?_, fun j c e => ?_, trivial⟩
  · refine maxO_ok (P := fun m => m ≤ _) (fun m e => ?_) (fun m e => ?_)
    · cases e; show (0 : Int) ≤ meas (.ints w b.1 b.2) (.ints y); rw [hme, ex]; exact Int.natCast_nonneg _
    · show m ≤ meas (.ints w b.1 b.2) (.ints y); rw [hme]; exact loA_ok h e
  · show meas (.ints w b.1 b.2) (.ints y) ≤ m; rw [hme]; exact hiA_ok h e
  · obtain ⟨z1, z2, z3⟩ := fv_ok h hx (o := some 0) (a := l) e
    cases z3
    exact ⟨z1, by show meas (.ints w b.1 b.2) (.ints y) ≤ _; rw [hme]; omega⟩
  · obtain ⟨z1, z2, z3⟩ := fv_ok h hx (o := some 0) (a := l) e
    cases z3
    exact ⟨z1, by show _ ≤ meas (.ints w b.1 b.2) (.ints y) + _; rw [hme]; omega⟩

theorem cpNw_ok (h : AS.ok st η) {a : Atom} {p : PV} {x : Int} (hx : look η a = some p) (ex : mA st.sl η a = x) : (cpNw st a).ok st η (.int x) := by
  refine ⟨trivial, fun m e => ?_, fun m e => ?_, fun j c e => ?_, fun j c e => ?_, trivial⟩
  · show m ≤ x; rw [← ex]; exact loA_ok h e
  · show x ≤ m; rw [← ex]; exact hiA_ok h e
  · obtain ⟨z1, z2, z3⟩ := fv_ok h hx (o := some 0) (a := a) e
    cases z3
    exact ⟨z1, by show x ≤ _; omega⟩
  · obtain ⟨z1, z2, z3⟩ := fv_ok h hx (o := some 0) (a := a) e
    cases z3
    exact ⟨z1, by show _ ≤ x + _; omega⟩

theorem inB_ok (h : AS.ok st η) {i l : Atom} (e : inB st i l = true) : 0 ≤ mA st.sl η i ∧ mA st.sl η i < mA st.sl η l := by
  simp only [inB, Bool.and_eq_true] at e
  have h1 := nonneg_ok h e.1
  have h2 := leA_ok h e.2
  omega

theorem fits_ok (h : AS.ok st η) {i n l : Atom} (e : fits st i n l = true) : mA st.sl η i + mA st.sl η n ≤ mA st.sl η l := by
  unfold fits at e
  split at e
  · rename_i c hc
    have h1 := hiA_ok h hc
    have h2 := leA_ok h e
    omega
  · cases e

theorem atsB_ok (h : AS.ok st η) : ∀ {as : List Atom} {b : Int × Int}, atsB st as = some b → ∃ vs l, looks η as = some vs ∧ ints vs = some l ∧ l.length = as.length ∧ ∀ x ∈ l, b.1 ≤ x ∧ x ≤ b.2
  | [], b, e => ⟨[], [], rfl, rfl, rfl, fun x hx => (by cases hx)⟩
  | a :: as, b, e => by
    simp only [atsB] at e
    split at e
    · rename_i x y r q1 q2 q3 q4
      cases e
      obtain ⟨n, h1, h2⟩ := isInt_ok h q1
      obtain ⟨vs, l, h3, h4, h5, h6⟩ := atsB_ok h q4
      refine ⟨.int n :: vs, n :: l, by simp [looks, h1, h3], by simp [ints, h4], by simp [h5], fun z hz => ?_⟩
      rcases List.mem_cons.1 hz with rfl | hz
      · have k1 := loA_ok h q2
        have k2 := hiA_ok h q3
        exact hull_l ⟨by simp only; omega, by simp only; omega⟩
      · exact hull_r (h6 z hz)
    · cases e

theorem litb_ok (h : AS.ok st η) : ∀ {as : List Atom}, as.all (isBool st) = true → ∃ vs l, looks η as = some vs ∧ bools vs = some l ∧ l.length = as.length ∧ ∀ x ∈ l, 0 ≤ x ∧ x ≤ 1
  | [], e => ⟨[], [], rfl, rfl, rfl, fun x hx => (by cases hx)⟩
  | a :: as, e => by
    simp only [List.all_cons, Bool.and_eq_true] at e
    obtain ⟨n, h1, h2⟩ := isBool_ok h e.1
    obtain ⟨vs, l, h3, h4, h5, h6⟩ := litb_ok h e.2
    refine ⟨.bool n :: vs, (if n then 1 else 0) :: l, by simp [looks, h1, h3], by simp [bools, h4], by simp [h5], fun z hz => ?_⟩
    rcases List.mem_cons.1 hz with rfl | hz
    · cases n <;> decide
    · exact h6 z hz

end
end Gm

/- Totality: a primitive step that is no call is taken as it is told. -/
namespace Gm
open Go

theorem blt_lt {a b : Nat} (h : Nat.blt a b = true) : a < b := by rw [Nat.blt_eq] at h; exact h

theorem cond_some {α : Type} {c : Bool} {x r : α} (e : (bif c then some x else none) = some r) : c = true ∧ x = r := by
  cases c with
  | true => exact ⟨rfl, by simpa using e⟩
  | false => cases e

/-- the answers of a step are as they are told -/
def Told (st : AS) (η : List PV) (r : Option Nw) (rs : List PV) : Prop :=
  match r with
  | none => rs = []
  | some nw => ∃ q, rs = [q] ∧ nw.ok st η q

section
variable {st : AS} {η : List PV}

theorem lk2 {a b : Atom} {p q : PV} (h1 : look η a = some p) (h2 : look η b = some q) : looks η [a, b] = some [p, q] := by simp [looks, h1, h2]
theorem lk1 {a : Atom} {p : PV} (h1 : look η a = some p) : looks η [a] = some [p] := by simp [looks, h1]
theorem lk3 {a b c : Atom} {p q r : PV} (h1 : look η a = some p) (h2 : look η b = some q) (h3 : look η c = some r) : looks η [a, b, c] = some [p, q, r] := by simp [looks, h1, h2, h3]

theorem get_some {l : List Int} {n : Nat} (h : n < l.length) : ∃ x, l[n]? = some x ∧ x ∈ l := ⟨l[n], List.getElem?_eq_getElem h, List.getElem_mem h⟩

theorem set_in {l : List Int} {n : Nat} {v : Int} {P : Int → Prop} (h : ∀ x ∈ l, P x) (hv : P v) : ∀ x ∈ l.set n v, P x := by
  intro x hx
  rcases List.mem_or_eq_of_mem_set hx with hx | rfl
  · exact h x hx
  · exact hv

theorem splice_in {l m : List Int} {n : Nat} {P : Int → Prop} (h : ∀ x ∈ l, P x) (hv : ∀ x ∈ m, P x) : ∀ x ∈ splice l n m, P x := by
  intro x hx
  simp only [splice, List.mem_append] at hx
  rcases hx with (hx | hx) | hx
  · exact h x (List.mem_of_mem_take hx)
  · exact hv x hx
  · exact h x (List.mem_of_mem_drop hx)

theorem splice_le {l m : List Int} {n : Nat} (h : n + m.length ≤ l.length) : (splice l n m).length = l.length := by
  simp only [splice, List.length_append, List.length_take, List.length_drop]
  omega

theorem mod_mul {n w : Nat} (hm : n % w = 0) : n / w * w = n := Nat.div_mul_cancel (Nat.dvd_of_mod_eq_zero hm)

theorem tr_app (h : AS.ok st η) {w0 : Nat} {l m : Atom} {r : Option Nw} (e : tr st w0 .app [l, m] = some r) : ∃ vs rs, looks η [l, m] = some vs ∧ ev .app vs = some rs ∧ Told st η r rs := by
  simp only [tr] at e
  split at e
  · rename_i b b' y q1 q2 q4
    obtain ⟨hc, rfl⟩ := cond_some e
    obtain ⟨l1, a1, a2, a3, a4, a5⟩ := isInts_ok (lo := b.1) (hi := b.2) h q1
    obtain ⟨m1, b1, b2, b3, b4, b5⟩ := isInts_ok (lo := b'.1) (hi := b'.2) h q2
    have h4 := hiA_ok h q4
    have hc' : mA st.sl η l ≤ ((room / w0 : Nat) : Int) - y + 0 := leA_ok h hc
    have hLM : l1.length / w0 + m1.length / w0 ≤ room / w0 := by rw [a2] at hc'; rw [b2] at h4; omega
    have e1 := mod_mul a4
    have e2 := mod_mul b4
    have hle : (l1 ++ m1).length ≤ room := by
      have h5 : (l1.length / w0 + m1.length / w0) * w0 ≤ room / w0 * w0 := Nat.mul_le_mul_right w0 hLM
      have h6 : room / w0 * w0 ≤ room := Nat.div_mul_le_self _ _
      rw [Nat.add_mul] at h5
      rw [List.length_append]
      omega
    have hdiv : (l1 ++ m1).length / w0 = l1.length / w0 + m1.length / w0 := by
      rw [List.length_append, ← e1, ← e2, ← Nat.add_mul, Nat.mul_div_cancel _ a3]
      rw [Nat.mul_div_cancel _ a3, Nat.mul_div_cancel _ a3]
    have hmod : (l1 ++ m1).length % w0 = 0 := by
      rw [List.length_append, ← e1, ← e2, ← Nat.add_mul]
      exact Nat.mul_mod_left _ _
    refine ⟨_, _, lk2 a1 b1, by simp only [ev]; rw [if_pos hle], _, rfl, ?_⟩
    have hme : ∀ lo hi, meas (.ints w0 lo hi) (.ints (l1 ++ m1)) = mA st.sl η l + mA st.sl η m := by
      intro lo hi
      rw [a2, b2]
      simp only [meas, hdiv]
      omega
    refine ⟨⟨a3, hmod, fun z hz => ?_⟩, fun q e => ?_, ?_, fun j c e => ?_, fun j c e => ?_, trivial⟩
    · rcases List.mem_append.1 hz with hz | hz
      · exact hull_l (a5 z hz)
      · exact hull_r (b5 z hz)
    · show q ≤ meas (.ints w0 _ _) _
      rw [hme]
      simp only [addNw, addO] at e
      split at e
      · rename_i p' q'; have := loA_ok h p'; have := loA_ok h q'; cases e; omega
      · cases e
    · refine minO_ok (P := fun q => meas (.ints w0 (hull b b').1 (hull b b').2) (.ints (l1 ++ m1)) ≤ q) (fun q e => ?_) (fun q e => ?_)
      · rw [hme]
        simp only [addO] at e
        split at e
        · rename_i p' q'; have := hiA_ok h p'; have := hiA_ok h q'; cases e; omega
        · cases e
      · cases e
        rw [hme, a2, b2]
        omega
    · show _ ∧ meas (.ints w0 _ _) _ ≤ _
      rw [hme]
      simp only [addNw, List.mem_append] at e
      rcases e with e | e
      · obtain ⟨z1, z2, z3⟩ := fv_ok h a1 e
        have := hiA_ok h z3
        exact ⟨z1, by omega⟩
      · obtain ⟨z1, z2, z3⟩ := fv_ok h b1 e
        have := hiA_ok h z3
        exact ⟨z1, by omega⟩
    · show _ ∧ _ ≤ meas (.ints w0 _ _) _ + _
      rw [hme]
      simp only [addNw, List.mem_append] at e
      rcases e with e | e
      · obtain ⟨z1, z2, z3⟩ := fv_ok h a1 e
        unfold negO at z3
        split at z3
        · rename_i q; have := loA_ok h q; cases z3; exact ⟨z1, by omega⟩
        · cases z3
      · obtain ⟨z1, z2, z3⟩ := fv_ok h b1 e
        unfold negO at z3
        split at z3
        · rename_i q; have := loA_ok h q; cases z3; exact ⟨z1, by omega⟩
        · cases z3
  · cases e

theorem tr_sl (h : AS.ok st η) {w0 w : Nat} {l i n : Atom} {r : Option Nw} (e : tr st w0 (.sl w) [l, i, n] = some r) : ∃ vs rs, looks η [l, i, n] = some vs ∧ ev (.sl w) vs = some rs ∧ Told st η r rs := by
  simp only [tr] at e
  split at e
  · rename_i b q1
    cases hc : (isInt st i && isInt st n) && (nonneg st i && nonneg st n) with
    | false => rw [hc] at e; cases e
    | true =>
      rw [hc] at e
      simp only [cond_true] at e
      simp only [Bool.and_eq_true] at hc
      obtain ⟨⟨c1, c2⟩, c3, c4⟩ := hc
      obtain ⟨l1, a1, a2, a3, a4, a5⟩ := isInts_ok (lo := b.1) (hi := b.2) h q1
      obtain ⟨x, b1, b2⟩ := isInt_ok h c1
      obtain ⟨y, d1, d2⟩ := isInt_ok h c2
      have hx := nonneg_ok h c3
      have hy := nonneg_ok h c4
      have e1 := mod_mul a4
      have hel : ∀ z ∈ (l1.drop (x.toNat * w)).take (y.toNat * w), b.1 ≤ z ∧ z ≤ b.2 := fun z hz => a5 z (List.mem_of_mem_drop (List.mem_of_mem_take hz))
      have hlen : ((l1.drop (x.toNat * w)).take (y.toNat * w)).length = min y.toNat (l1.length / w - x.toNat) * w := by
        rw [List.length_take, List.length_drop, ← Nat.mul_min_mul_right, Nat.sub_mul, e1]
      have hdiv : ((l1.drop (x.toNat * w)).take (y.toNat * w)).length / w = min y.toNat (l1.length / w - x.toNat) := by rw [hlen, Nat.mul_div_cancel _ a3]
      have hmod : ((l1.drop (x.toNat * w)).take (y.toNat * w)).length % w = 0 := by rw [hlen]; exact Nat.mul_mod_left _ _
      have hev : ev (.sl w) [.ints l1, .int x, .int y] = some [.ints ((l1.drop (x.toNat * w)).take (y.toNat * w))] := by
        simp only [ev]; rw [if_pos (by omega)]
      generalize l1.length / w = L at hdiv a2
      have hup : ∀ j c, (j, c) ∈ fv (some 0) n ++ fv (some 0) l → j < st.sl.length ∧ ((((l1.drop (x.toNat * w)).take (y.toNat * w)).length / w : Nat) : Int) ≤ ms st.sl η j + c := by
        intro j c e
        rw [hdiv]
        rcases List.mem_append.1 e with e | e
        · obtain ⟨z1, z2, z3⟩ := fv_ok h d1 e
          cases z3
          exact ⟨z1, by omega⟩
        · obtain ⟨z1, z2, z3⟩ := fv_ok h a1 e
          cases z3
          exact ⟨z1, by omega⟩
      cases hf : fits st i n l with
      | true =>
        rw [hf] at e
        cases e
        have hf' := fits_ok h hf
        refine ⟨_, _, lk3 a1 b1 d1, hev, _, rfl, ⟨a3, hmod, hel⟩, fun q e => ?_, fun q e => ?_, hup, fun j c e => ?_, trivial⟩
        · simp only [meas] at e ⊢
          rw [hdiv]
          have := loA_ok h e
          omega
        · simp only [meas] at e ⊢
          rw [hdiv]
          have := hiA_ok h e
          omega
        · simp only [meas] at e ⊢
          rw [hdiv]
          obtain ⟨z1, z2, z3⟩ := fv_ok h d1 e
          cases z3
          exact ⟨z1, by omega⟩
      | false =>
        rw [hf] at e
        cases e
        refine ⟨_, _, lk3 a1 b1 d1, hev, _, rfl, ⟨a3, hmod, hel⟩, fun q e => ?_, fun q e => ?_, hup, fun j c e => (by cases e), trivial⟩
        · cases e
          show (0 : Int) ≤ ((_ : Nat) : Int)
          exact Int.natCast_nonneg _
        · simp only [meas] at e ⊢
          rw [hdiv]
          have := hiA_ok h e
          omega
  · cases e


theorem tr_ok (h : AS.ok st η) {w0 : Nat} {p : Prim} {as : List Atom} {r : Option Nw} (e : tr st w0 p as = some r) : ∃ vs rs, looks η as = some vs ∧ ev p vs = some rs ∧ Told st η r rs := by
  by_cases hp : p = .app
  · subst hp
    match as, e with
    | [], e => simp [tr] at e
    | [_], e => simp [tr] at e
    | [l, m], e => exact tr_app h e
    | _ :: _ :: _ :: _, e => simp [tr] at e
  by_cases hp' : ∃ w, p = .sl w
  · obtain ⟨w, rfl⟩ := hp'
    match as, e with
    | [], e => simp [tr] at e
    | [_], e => simp [tr] at e
    | [_, _], e => simp [tr] at e
    | [l, i, n], e => exact tr_sl h e
    | _ :: _ :: _ :: _ :: _, e => simp [tr] at e
  unfold tr at e
  split at e
  · -- bin
    rename_i op k a b
    cases hc : isInt st a && isInt st b with
    | false => rw [hc] at e; cases e
    | true =>
      rw [hc] at e
      simp only [Bool.and_eq_true] at hc
      simp only [cond_true] at e
      obtain ⟨x, h1, h2⟩ := isInt_ok h hc.1
      obtain ⟨y, h3, h4⟩ := isInt_ok h hc.2
      split at e
      · rename_i nw hn
        cases e
        obtain ⟨q, h5, h6⟩ := binNw_ok h h1 h3 h2 h4 hn
        exact ⟨_, [.int q], lk2 h1 h3, by simp [ev, h5], _, rfl, h6⟩
      · cases e
  · -- cmp
    rename_i op a b
    obtain ⟨hc, rfl⟩ := cond_some e
    simp only [Bool.and_eq_true] at hc
    obtain ⟨x, h1, h2⟩ := isInt_ok h hc.1
    obtain ⟨y, h3, h4⟩ := isInt_ok h hc.2.1
    have hq : ∃ q, cmpInt op x y = some q := by cases op <;> first | exact ⟨_, rfl⟩ | simp [hasCmp] at hc
    obtain ⟨q, hq⟩ := hq
    exact ⟨_, [.bool q], lk2 h1 h3, by simp [ev, hq], _, rfl, boolNw_ok ⟨x, y, q, h1, h3, hq, rfl⟩⟩
  · -- neg
    rename_i k a
    obtain ⟨hc, rfl⟩ := cond_some e
    obtain ⟨x, h1, h2⟩ := isInt_ok h hc
    exact ⟨_, _, lk1 h1, rfl, _, rfl, exact_ok rfl (subNw_ok (a := .i 0) h rfl rfl h2)⟩
  · -- inv
    rename_i k a
    obtain ⟨hc, rfl⟩ := cond_some e
    obtain ⟨x, h1, h2⟩ := isInt_ok h hc
    exact ⟨_, _, lk1 h1, rfl, _, rfl, kNw_ok k _⟩
  · -- bnot
    rename_i a
    obtain ⟨hc, rfl⟩ := cond_some e
    obtain ⟨x, h1, h2⟩ := isBool_ok h hc
    exact ⟨_, _, lk1 h1, rfl, _, rfl, boolNw_ok ⟨x, h1, rfl⟩⟩
  · rename_i a b
    obtain ⟨hc, rfl⟩ := cond_some e
    simp only [Bool.and_eq_true] at hc
    obtain ⟨x, h1, h2⟩ := isBool_ok h hc.1
    obtain ⟨y, h3, h4⟩ := isBool_ok h hc.2
    exact ⟨_, _, lk2 h1 h3, rfl, _, rfl, boolNw_ok trivial⟩
  · rename_i a b
    obtain ⟨hc, rfl⟩ := cond_some e
    simp only [Bool.and_eq_true] at hc
    obtain ⟨x, h1, h2⟩ := isBool_ok h hc.1
    obtain ⟨y, h3, h4⟩ := isBool_ok h hc.2
    exact ⟨_, _, lk2 h1 h3, rfl, _, rfl, boolNw_ok trivial⟩
  · rename_i a b
    obtain ⟨hc, rfl⟩ := cond_some e
    simp only [Bool.and_eq_true] at hc
    obtain ⟨x, h1, h2⟩ := isBool_ok h hc.1
    obtain ⟨y, h3, h4⟩ := isBool_ok h hc.2
    exact ⟨_, _, lk2 h1 h3, rfl, _, rfl, boolNw_ok trivial⟩
  · -- conv
    rename_i k a
    obtain ⟨hc, rfl⟩ := cond_some e
    obtain ⟨x, h1, h2⟩ := isInt_ok h hc
    exact ⟨_, _, lk1 h1, rfl, _, rfl, exact_ok rfl (cpNw_ok h h1 h2)⟩
  · -- addi
    rename_i a b
    obtain ⟨hc, rfl⟩ := cond_some e
    simp only [Bool.and_eq_true] at hc
    obtain ⟨x, h1, h2⟩ := isInt_ok h hc.1
    obtain ⟨y, h3, h4⟩ := isInt_ok h hc.2
    exact ⟨_, _, lk2 h1 h3, rfl, _, rfl, addNw_ok h h1 h3 h2 h4⟩
  · -- len
    rename_i w l
    split at e
    · rename_i b q
      cases e
      obtain ⟨l1, a1, a2, a3, a4, a5⟩ := isInts_ok (lo := b.1) (hi := b.2) h q
      refine ⟨_, _, lk1 a1, rfl, _, rfl, trivial, ?_, fun m e => ?_, fun j c e => ?_, fun j c e => ?_, trivial⟩
      · refine maxO_ok (P := fun m => m ≤ ((l1.length / w : Nat) : Int)) (fun m e => by cases e; exact Int.natCast_nonneg _) (fun m e => by rw [← a2]; exact loA_ok h e)
      · simp only [meas]; rw [← a2]; exact hiA_ok h e
      · simp only [meas] at e ⊢
        rw [← a2]
        obtain ⟨z1, z2, z3⟩ := fv_ok h a1 e
        cases z3
        exact ⟨z1, by omega⟩
      · simp only [meas] at e ⊢
        rw [← a2]
        obtain ⟨z1, z2, z3⟩ := fv_ok h a1 e
        cases z3
        exact ⟨z1, by omega⟩
    · cases e
  · -- chk
    rename_i w l i
    split at e
    · rename_i b q
      obtain ⟨hc, rfl⟩ := cond_some e
      simp only [Bool.and_eq_true] at hc
      obtain ⟨l1, a1, a2, a3, a4, a5⟩ := isInts_ok (lo := b.1) (hi := b.2) h q
      obtain ⟨x, h1, h2⟩ := isInt_ok h hc.1
      have h3 := inB_ok h hc.2
      rw [h2, a2] at h3
      exact ⟨_, _, lk2 a1 h1, by simp only [ev]; rw [if_pos h3], rfl⟩
    · cases e
  · -- chkn
    rename_i n i
    obtain ⟨hc, rfl⟩ := cond_some e
    simp only [Bool.and_eq_true] at hc
    obtain ⟨y, h3, h4⟩ := isInt_ok h hc.1
    obtain ⟨x, h1, h2⟩ := isInt_ok h hc.2.1
    have h5 := inB_ok h hc.2.2
    rw [h2, h4] at h5
    exact ⟨_, _, lk2 h3 h1, by simp only [ev]; rw [if_pos h5], rfl⟩
  · -- get
    rename_i w o l i
    split at e
    · rename_i lo hi q
      obtain ⟨hc, rfl⟩ := cond_some e
      simp only [Bool.and_eq_true] at hc
      obtain ⟨l1, a1, a2, a3, a4, a5⟩ := isInts_ok h q
      obtain ⟨x, h1, h2⟩ := isInt_ok h hc.1.1
      have h3 := inB_ok h hc.1.2
      rw [h2, a2] at h3
      obtain ⟨v, h5, h6⟩ := get_some (idx_lt a4 (blt_lt hc.2) (show x.toNat < l1.length / w by omega))
      refine ⟨_, [.int v], lk2 a1 h1, by simp only [ev]; rw [if_pos h3.1, h5], _, rfl, trivial, fun m e => ?_, fun m e => ?_, fun j c e => (by cases e), fun j c e => (by cases e), trivial⟩
      · cases e; exact (a5 v h6).1
      · cases e; exact (a5 v h6).2
    · cases e
  · -- getb
    rename_i w o l i
    split at e
    · rename_i b q
      obtain ⟨hc, rfl⟩ := cond_some e
      simp only [Bool.and_eq_true] at hc
      obtain ⟨l1, a1, a2, a3, a4, a5⟩ := isInts_ok (lo := b.1) (hi := b.2) h q
      obtain ⟨x, h1, h2⟩ := isInt_ok h hc.1.1
      have h3 := inB_ok h hc.1.2
      rw [h2, a2] at h3
      obtain ⟨v, h5, h6⟩ := get_some (idx_lt a4 (blt_lt hc.2) (show x.toNat < l1.length / w by omega))
      exact ⟨_, [.bool (v != 0)], lk2 a1 h1, by simp only [ev]; rw [if_pos h3.1, h5], _, rfl, boolNw_ok trivial⟩
    · cases e
  · -- set
    rename_i w o l i v
    split at e
    · rename_i b x y q1 q2 q3
      obtain ⟨hc, rfl⟩ := cond_some e
      simp only [Bool.and_eq_true] at hc
      obtain ⟨l1, a1, a2, a3, a4, a5⟩ := isInts_ok (lo := b.1) (hi := b.2) h q1
      obtain ⟨ix, h1, h2⟩ := isInt_ok h hc.1.1.1
      obtain ⟨vx, v1, v2⟩ := isInt_ok h hc.2
      have h3 := inB_ok h hc.1.1.2
      rw [h2, a2] at h3
      have h5 := idx_lt a4 (blt_lt hc.1.2) (show ix.toNat < l1.length / w by omega)
      refine ⟨_, _, lk3 a1 h1 v1, by simp only [ev]; rw [if_pos ⟨h3.1, h5⟩], _, rfl, likeNw_ok h a1 a2 a3 (by simp) a4 (set_in (P := fun z => (hull b (x, y)).1 ≤ z ∧ z ≤ (hull b (x, y)).2) (fun z hz => hull_l (a5 z hz)) (hull_r ?_))⟩
      have k1 := loA_ok h q2
      have k2 := hiA_ok h q3
      exact ⟨by simp only; omega, by simp only; omega⟩
    · cases e
  · -- setb
    rename_i w o l i v
    split at e
    · rename_i b q1
      obtain ⟨hc, rfl⟩ := cond_some e
      simp only [Bool.and_eq_true] at hc
      obtain ⟨l1, a1, a2, a3, a4, a5⟩ := isInts_ok (lo := b.1) (hi := b.2) h q1
      obtain ⟨ix, h1, h2⟩ := isInt_ok h hc.1.1.1
      obtain ⟨vx, v1, v2⟩ := isBool_ok h hc.2
      have h3 := inB_ok h hc.1.1.2
      rw [h2, a2] at h3
      have h5 := idx_lt a4 (blt_lt hc.1.2) (show ix.toNat < l1.length / w by omega)
      refine ⟨_, _, lk3 a1 h1 v1, by simp only [ev]; rw [if_pos ⟨h3.1, h5⟩], _, rfl, likeNw_ok h a1 a2 a3 (by simp) a4 (set_in (P := fun z => (hull b (0, 1)).1 ≤ z ∧ z ≤ (hull b (0, 1)).2) (fun z hz => hull_l (a5 z hz)) (hull_r ?_))⟩
      cases vx <;> decide
    · cases e
  · -- mk
    rename_i w n c
    split at e
    · rename_i hh q1
      obtain ⟨hc, rfl⟩ := cond_some e
      simp only [Bool.and_eq_true] at hc
      obtain ⟨x, h1, h2⟩ := isInt_ok h hc.1.1.1
      obtain ⟨y, h3, h4⟩ := isInt_ok h hc.1.1.2
      have h5 := nonneg_ok h hc.1.2.1
      have h6 := leA_ok h hc.1.2.2
      have h7 := hiA_ok h q1
      have h8 := Nat.le_of_ble_eq_true hc.2.2
      have hw := blt_lt hc.2.1
      have h9 : y.toNat * w ≤ hh.toNat * w := Nat.mul_le_mul_right w (by omega)
      have hme : meas (.ints w 0 0) (.ints (List.replicate (x.toNat * w) 0)) = x := by
        simp only [meas, List.length_replicate]
        rw [Nat.mul_div_cancel _ hw]
        omega
      refine ⟨_, [.ints (List.replicate (x.toNat * w) 0)], lk2 h1 h3, by simp only [ev]; rw [if_pos ⟨by omega, by omega, by omega⟩], _, rfl, ⟨hw, by rw [List.length_replicate]; exact Nat.mul_mod_left _ _, fun z hz => by rw [(List.mem_replicate.1 hz).2]; omega⟩, fun m e => ?_, fun m e => ?_, fun j c e => ?_, fun j c e => ?_, trivial⟩
      · show m ≤ meas (.ints w 0 0) _; rw [hme, ← h2]; exact loA_ok h e
      · show meas (.ints w 0 0) _ ≤ m; rw [hme, ← h2]; exact hiA_ok h e
      · show _ ∧ meas (.ints w 0 0) _ ≤ _
        rw [hme]
        obtain ⟨z1, z2, z3⟩ := fv_ok h h1 (o := some 0) (a := n) e
        cases z3
        exact ⟨z1, by omega⟩
      · show _ ∧ _ ≤ meas (.ints w 0 0) _ + _
        rw [hme]
        obtain ⟨z1, z2, z3⟩ := fv_ok h h1 (o := some 0) (a := n) e
        cases z3
        exact ⟨z1, by omega⟩
    · cases e
  · -- lit
    split at e
    · rename_i b q
      obtain ⟨hc, rfl⟩ := cond_some e
      simp only [Bool.and_eq_true] at hc
      obtain ⟨vs, l, h1, h2, h3, h4⟩ := atsB_ok h q
      have hm := Nat.eq_of_beq_eq_true hc.2
      refine ⟨vs, [.ints l], h1, by simp only [ev, h2], _, rfl, ⟨blt_lt hc.1, by rw [h3]; exact hm, h4⟩, fun m e => ?_, fun m e => ?_, fun j c e => (by cases e), fun j c e => (by cases e), trivial⟩
      · cases e; simp only [meas, h3]; exact Int.le_refl _
      · cases e; simp only [meas, h3]; exact Int.le_refl _
    · cases e
  · -- litb
    obtain ⟨hc, rfl⟩ := cond_some e
    simp only [Bool.and_eq_true] at hc
    obtain ⟨vs, l, h1, h2, h3, h4⟩ := litb_ok h hc.2
    have hm := Nat.eq_of_beq_eq_true hc.1.2
    refine ⟨vs, [.ints l], h1, by simp only [ev, h2], _, rfl, ⟨blt_lt hc.1.1, by rw [h3]; exact hm, h4⟩, fun m e => ?_, fun m e => ?_, fun j c e => (by cases e), fun j c e => (by cases e), trivial⟩
    · cases e; simp only [meas, h3]; exact Int.le_refl _
    · cases e; simp only [meas, h3]; exact Int.le_refl _
  · -- app
    exact absurd rfl hp
  · -- sl
    exact absurd ⟨_, rfl⟩ hp'
  · -- rng
    rename_i lo hi m
    obtain ⟨hc, rfl⟩ := cond_some e
    simp only [Bool.and_eq_true] at hc
    obtain ⟨x, h1, h2⟩ := isInt_ok h hc.1.1
    obtain ⟨y, h3, h4⟩ := isInt_ok h hc.1.2.1
    obtain ⟨z, h5, h6⟩ := isInt_ok h hc.1.2.2
    have k1 := nonneg_ok h hc.2.1
    have k2 := leA_ok h hc.2.2.1
    have k3 := leA_ok h hc.2.2.2
    exact ⟨_, _, lk3 h1 h3 h5, by simp only [ev]; rw [if_pos ⟨by omega, by omega, by omega⟩], _, rfl, subNw_ok h h3 h4 h2⟩
  · -- spl
    rename_i w l i m
    split at e
    · rename_i b b' q1 q2
      obtain ⟨hc, rfl⟩ := cond_some e
      simp only [Bool.and_eq_true] at hc
      obtain ⟨l1, a1, a2, a3, a4, a5⟩ := isInts_ok (lo := b.1) (hi := b.2) h q1
      obtain ⟨m1, b1, b2, b3, b4, b5⟩ := isInts_ok (lo := b'.1) (hi := b'.2) h q2
      obtain ⟨x, h1, h2⟩ := isInt_ok h hc.1
      have k1 := nonneg_ok h hc.2.1
      have k2 := fits_ok h hc.2.2
      rw [h2, a2, b2] at k2
      have e1 := mod_mul a4
      have e2 := mod_mul b4
      have hle : x.toNat * w + m1.length ≤ l1.length := by
        have h5 : (x.toNat + m1.length / w) * w ≤ (l1.length / w) * w := Nat.mul_le_mul_right w (by omega)
        rw [Nat.add_mul, e1, e2] at h5
        exact h5
      exact ⟨_, _, lk3 a1 h1 b1, by simp only [ev]; rw [if_pos ⟨by omega, hle⟩], _, rfl, likeNw_ok h a1 a2 a3 (splice_le hle) a4 (splice_in (P := fun z => (hull b b').1 ≤ z ∧ z ≤ (hull b b').2) (fun z hz => hull_l (a5 z hz)) (fun z hz => hull_r (b5 z hz)))⟩
    · cases e
  · -- zer
    rename_i w l i n
    split at e
    · rename_i b q1
      obtain ⟨hc, rfl⟩ := cond_some e
      simp only [Bool.and_eq_true] at hc
      obtain ⟨l1, a1, a2, a3, a4, a5⟩ := isInts_ok (lo := b.1) (hi := b.2) h q1
      obtain ⟨x, h1, h2⟩ := isInt_ok h hc.1.1
      obtain ⟨y, h3, h4⟩ := isInt_ok h hc.1.2
      have k1 := nonneg_ok h hc.2.1.1
      have k3 := nonneg_ok h hc.2.1.2
      have k2 := fits_ok h hc.2.2
      rw [h2, a2, h4] at k2
      have e1 := mod_mul a4
      have hle : x.toNat * w + y.toNat * w ≤ l1.length := by
        have h5 : (x.toNat + y.toNat) * w ≤ (l1.length / w) * w := Nat.mul_le_mul_right w (by omega)
        rw [Nat.add_mul, e1] at h5
        exact h5
      exact ⟨_, _, lk3 a1 h1 h3, by simp only [ev]; rw [if_pos ⟨by omega, by omega, hle⟩], _, rfl, likeNw_ok h a1 a2 a3 (splice_le (by rw [List.length_replicate]; exact hle)) a4 (splice_in (P := fun z => (hull b (0, 0)).1 ≤ z ∧ z ≤ (hull b (0, 0)).2) (fun z hz => hull_l (a5 z hz)) (fun z hz => hull_r (by rw [(List.mem_replicate.1 hz).2]; exact ⟨Int.le_refl _, Int.le_refl _⟩)))⟩
    · cases e
  · -- sel
    rename_i c a b
    cases hcb : isBool st c with
    | false => rw [hcb] at e; cases e
    | true =>
      rw [hcb] at e
      simp only [cond_true] at e
      obtain ⟨x, h1, h2⟩ := isBool_ok h hcb
      cases hii : isInt st a && isInt st b with
      | true =>
        rw [hii] at e
        simp only [cond_true] at e
        simp only [Bool.and_eq_true] at hii
        obtain ⟨y, h3, h4⟩ := isInt_ok h hii.1
        obtain ⟨z, h5, h6⟩ := isInt_ok h hii.2
        split at e
        · rename_i p q r s q1 q2 q3 q4
          cases e
          have k1 := loA_ok h q1
          have k2 := loA_ok h q2
          have k3 := hiA_ok h q3
          have k4 := hiA_ok h q4
          refine ⟨_, _, lk3 h1 h3 h5, rfl, _, rfl, trivial, fun m e => ?_, fun m e => ?_, fun j c e => (by cases e), fun j c e => (by cases e), trivial⟩
          · cases e; cases x <;> simp [meas] <;> omega
          · cases e; cases x <;> simp [meas] <;> omega
        · cases e
          exact ⟨_, _, lk3 h1 h3 h5, rfl, _, rfl, trivial, fun m e => (by cases e), fun m e => (by cases e), fun j c e => (by cases e), fun j c e => (by cases e), trivial⟩
      | false =>
        rw [hii] at e
        simp only [cond_false] at e
        obtain ⟨hc, rfl⟩ := cond_some e
        simp only [Bool.and_eq_true] at hc
        obtain ⟨y, h3, h4⟩ := isBool_ok h hc.1
        obtain ⟨z, h5, h6⟩ := isBool_ok h hc.2
        exact ⟨_, _, lk3 h1 h3 h5, rfl, _, rfl, boolNw_ok trivial⟩
  · -- mx
    rename_i a b
    obtain ⟨hc, rfl⟩ := cond_some e
    simp only [Bool.and_eq_true] at hc
    obtain ⟨x, h1, h2⟩ := isInt_ok h hc.1
    obtain ⟨y, h3, h4⟩ := isInt_ok h hc.2
    have hv : ∃ v, v = (if y > x then y else x) ∧ x ≤ v ∧ y ≤ v ∧ (v = x ∨ v = y) := by
      refine ⟨_, rfl, ?_, ?_, ?_⟩ <;> split <;> omega
    obtain ⟨v, hv, v1, v2, v3⟩ := hv
    refine ⟨_, [.int v], lk2 h1 h3, by simp only [ev, hv], _, rfl, trivial, ?_, fun m e => ?_, fun j c e => ?_, fun j c e => ?_, trivial⟩
    · refine maxO_ok (P := fun m => m ≤ v) (fun m e => by have := loA_ok h e; omega) (fun m e => by have := loA_ok h e; omega)
    · simp only [meas] at e ⊢
      split at e
      · rename_i p q; have := hiA_ok h p; have := hiA_ok h q; cases e; omega
      · cases e
    · simp only [meas] at e ⊢
      rcases List.mem_append.1 e with e | e
      · obtain ⟨p, q⟩ := ifL_ok e
        have hle := leA_ok h p
        obtain ⟨z1, z2, z3⟩ := fv_ok h h1 q
        cases z3
        exact ⟨z1, by omega⟩
      · obtain ⟨p, q⟩ := ifL_ok e
        have hle := leA_ok h p
        obtain ⟨z1, z2, z3⟩ := fv_ok h h3 q
        cases z3
        exact ⟨z1, by omega⟩
    · simp only [meas] at e ⊢
      rcases List.mem_append.1 e with e | e
      · obtain ⟨z1, z2, z3⟩ := fv_ok h h1 e
        cases z3
        exact ⟨z1, by omega⟩
      · obtain ⟨z1, z2, z3⟩ := fv_ok h h3 e
        cases z3
        exact ⟨z1, by omega⟩
  · -- mn
    rename_i a b
    obtain ⟨hc, rfl⟩ := cond_some e
    simp only [Bool.and_eq_true] at hc
    obtain ⟨x, h1, h2⟩ := isInt_ok h hc.1
    obtain ⟨y, h3, h4⟩ := isInt_ok h hc.2
    have hv : ∃ v, v = (if y < x then y else x) ∧ v ≤ x ∧ v ≤ y ∧ (v = x ∨ v = y) := by
      refine ⟨_, rfl, ?_, ?_, ?_⟩ <;> split <;> omega
    obtain ⟨v, hv, v1, v2, v3⟩ := hv
    refine ⟨_, [.int v], lk2 h1 h3, by simp only [ev, hv], _, rfl, trivial, fun m e => ?_, ?_, fun j c e => ?_, fun j c e => ?_, trivial⟩
    · simp only [meas] at e ⊢
      split at e
      · rename_i p q; have := loA_ok h p; have := loA_ok h q; cases e; omega
      · cases e
    · refine minO_ok (P := fun m => v ≤ m) (fun m e => by have := hiA_ok h e; omega) (fun m e => by have := hiA_ok h e; omega)
    · simp only [meas] at e ⊢
      rcases List.mem_append.1 e with e | e
      · obtain ⟨z1, z2, z3⟩ := fv_ok h h1 e
        cases z3
        exact ⟨z1, by omega⟩
      · obtain ⟨z1, z2, z3⟩ := fv_ok h h3 e
        cases z3
        exact ⟨z1, by omega⟩
    · simp only [meas] at e ⊢
      rcases List.mem_append.1 e with e | e
      · obtain ⟨p, q⟩ := ifL_ok e
        have hle := leA_ok h p
        obtain ⟨z1, z2, z3⟩ := fv_ok h h1 q
        cases z3
        exact ⟨z1, by omega⟩
      · obtain ⟨p, q⟩ := ifL_ok e
        have hle := leA_ok h p
        obtain ⟨z1, z2, z3⟩ := fv_ok h h3 q
        cases z3
        exact ⟨z1, by omega⟩
  · -- tab
    rename_i l i
    split at e
    · rename_i hh q
      obtain ⟨hc, rfl⟩ := cond_some e
      simp only [Bool.and_eq_true] at hc
      obtain ⟨x, h1, h2⟩ := isInt_ok h hc.1.1
      have k1 := nonneg_ok h hc.1.2
      have k2 := hiA_ok h q
      have k3 := blt_lt hc.2
      have k4 : x.toNat < l.length := by omega
      have k5 : l[x.toNat] ∈ l.take (hh.toNat + 1) := by
        rw [List.mem_take_iff_getElem]
        exact ⟨x.toNat, by omega, rfl⟩
      have k6 := fold_ok k5
      refine ⟨_, [.int l[x.toNat]], lk1 h1, by simp only [ev]; rw [if_pos (by omega), List.getElem?_eq_getElem k4], _, rfl, trivial, fun m e => ?_, fun m e => ?_, fun j c e => (by cases e), fun j c e => (by cases e), trivial⟩
      · cases e; exact k6.1
      · cases e; exact k6.2
    · cases e
  · cases e
end
end Gm

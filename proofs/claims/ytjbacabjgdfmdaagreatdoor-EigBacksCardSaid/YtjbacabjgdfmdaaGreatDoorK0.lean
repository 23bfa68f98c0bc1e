/- Shapes and their readings: what a static shape says of a frame and a memory, under an environment of pure values. -/
import Derived.Orders
import Derived.Laws.Rows
namespace Gm
open Go

/-- pure values -/
inductive PV where
  | int (n : Int) | bool (b : Bool) | ints (l : List Int) | str (s : ByteArray)
  deriving Inhabited

inductive Atom where
  | v (i : Nat) | i (n : Int) | b (x : Bool) | nil
  deriving DecidableEq, Inhabited, Repr

def look (η : List PV) : Atom → Option PV
  | .v i => η[i]?
  | .i n => some (.int n)
  | .b x => some (.bool x)
  | .nil => some (.ints [])

/-- what a closure holds -/
inductive Cp where
  | int (k : IntKind) (a : Atom) | bool (a : Atom) | str (a : Atom) | ptr (b o : Nat)
  deriving DecidableEq, Inhabited, Repr

/-- the shape of one cell -/
inductive SC where
  | any
  | int (k : IntKind) (a : Atom)
  | bool (a : Atom)
  | str (a : Atom)
  | nilp
  | ptr (b o : Nat)
  | eptr (b : Nat) (a : Atom) (w o : Nat)
  | nils
  | slc (b : Nat)
  | sub (b : Nat) (lo n : Atom)
  | csl (b n w : Nat)
  | fn (f : FuncId) (first cap : List Cp)
  | gptr (g : Nat)
  | gel (g : Nat) (a : Atom)
  deriving DecidableEq, Inhabited, Repr

/-- a component of a result: several cells or one -/
structure S1 where
  agg : Bool
  cs : List SC
  deriving DecidableEq, Inhabited, Repr

inductive SV where
  | c (x : SC) | agg (l : List SC) | tup (l : List S1)
  deriving DecidableEq, Inhabited, Repr

inductive CK where
  | int (k : IntKind) | bool
  deriving DecidableEq, Inhabited, Repr

def CK.val : CK → Int → Value
  | .int k, n => .int k n
  | .bool, n => .bool (n != 0)

/-- the shape of a block: some cells, each of a shape of its own; or a list of numbers, told by an atom; rw: written through this name alone -/
inductive SB where
  | cells (cs : List SC)
  | list (ck : CK) (wd : Nat) (a : Atom) (rw : Bool)
  deriving DecidableEq, Inhabited, Repr

def SB.rw : SB → Bool
  | .cells _ => true
  | .list _ _ _ rw => rw

/-- where a block lies -/
structure RB where
  at_ : Option (Nat × Nat)
  n : Nat
  cap : Nat
  wd : Nat
  foot : List Nat

abbrev Rho := Nat → Option RB

def adr (p : Nat × Nat) : Addr := ⟨p.1, p.2, none⟩

def VCp (η : List PV) (ρ : Rho) : Cp → Value → Prop
  | .int k a, v => ∃ n, look η a = some (.int n) ∧ v = .int k n
  | .bool a, v => ∃ x, look η a = some (.bool x) ∧ v = .bool x
  | .str a, v => ∃ s, look η a = some (.str s) ∧ v = .string s
  | .ptr b o, v => ∃ rb blk, ρ b = some rb ∧ rb.at_ = some (blk, 0) ∧ v = .pointer (some ⟨blk, o, none⟩)

def VCps (η : List PV) (ρ : Rho) : List Cp → List Value → Prop
  | [], [] => True
  | c :: l, v :: vs => VCp η ρ c v ∧ VCps η ρ l vs
  | _, _ => False

/-- a cell's shape, read -/
def VC (η : List PV) (ρ : Rho) : SC → Value → Prop
  | .any, _ => True
  | .int k a, v => ∃ n, look η a = some (.int n) ∧ v = .int k n
  | .bool a, v => ∃ x, look η a = some (.bool x) ∧ v = .bool x
  | .str a, v => ∃ s, look η a = some (.str s) ∧ v = .string s
  | .nilp, v => v = .pointer none
  | .ptr b o, v => ∃ rb blk, ρ b = some rb ∧ rb.at_ = some (blk, 0) ∧ v = .pointer (some ⟨blk, o, none⟩)
  | .eptr b a w o, v => ∃ rb blk off i, ρ b = some rb ∧ rb.at_ = some (blk, off) ∧ look η a = some (.int i) ∧ 0 ≤ i ∧ v = .pointer (some ⟨blk, off + (i.toNat * w + o), none⟩)
  | .nils, v => v = .slice none 0 0
  | .slc b, v => ∃ rb cap, ρ b = some rb ∧ rb.n ≤ cap ∧ cap ≤ rb.cap ∧ v = .slice (rb.at_.map adr) rb.n cap ∧ (rb.at_ = none → rb.cap = 0)
  | .sub b lo n, v => ∃ rb l m ad cap, ρ b = some rb ∧ look η lo = some (.int l) ∧ look η n = some (.int m) ∧ 0 ≤ l ∧ 0 ≤ m ∧ l + m ≤ rb.n ∧ m.toNat ≤ cap ∧
      v = .slice (ad.map adr) m.toNat cap ∧ (0 < m → ∃ blk off, rb.at_ = some (blk, off) ∧ ad = some (blk, off + l.toNat * rb.wd)) ∧ (ad = none → cap = 0)
  | .csl b n _, v => ∃ rb blk cap, ρ b = some rb ∧ rb.at_ = some (blk, 0) ∧ n ≤ cap ∧ v = .slice (some ⟨blk, 0, none⟩) n cap
  | .fn f fs cs, v => ∃ xs ys : Array Value, VCps η ρ fs xs.toList ∧ VCps η ρ cs ys.toList ∧ v = .func (.func f) xs ys
  | .gptr g, v => v = .pointer (some ⟨g, 0, none⟩)
  | .gel g a, v => ∃ i, look η a = some (.int i) ∧ 0 ≤ i ∧ v = .pointer (some ⟨g, i.toNat, none⟩)

def VL (η : List PV) (ρ : Rho) : List SC → List Value → Prop
  | [], [] => True
  | c :: l, v :: vs => VC η ρ c v ∧ VL η ρ l vs
  | _, _ => False

def V1 (η : List PV) (ρ : Rho) (s : S1) (v : Value) : Prop :=
  if s.agg then ∃ cs : Array Value, v = .agg cs ∧ VL η ρ s.cs cs.toList
  else ∃ c, s.cs = [c] ∧ VC η ρ c v

def V1s (η : List PV) (ρ : Rho) : List S1 → List Value → Prop
  | [], [] => True
  | c :: l, v :: vs => V1 η ρ c v ∧ V1s η ρ l vs
  | _, _ => False

def VV (η : List PV) (ρ : Rho) : SV → Value → Prop
  | .c x, v => VC η ρ x v
  | .agg l, v => ∃ cs : Array Value, v = .agg cs ∧ VL η ρ l cs.toList
  | .tup l, v => ∃ vs : Array Value, v = .tuple vs ∧ V1s η ρ l vs.toList

/-- a block's shape, read -/
def BC (η : List PV) (ρ : Rho) (w : World) (rb : RB) : SB → Prop
  | .cells cs => ∃ blk arr t, rb.at_ = some (blk, 0) ∧ rb.foot = [blk] ∧ w.heap[blk]? = some (.cells arr t (0, 0)) ∧ VL η ρ cs arr.toList
  | .list ck wd a true => ∃ l, look η a = some (.ints l) ∧ rb.wd = wd ∧ l.length = rb.n * wd ∧ rb.n ≤ rb.cap ∧
      ((rb.at_ = none ∧ rb.cap = 0 ∧ rb.foot = []) ∨
       ∃ blk arr t, rb.at_ = some (blk, 0) ∧ rb.foot = [blk] ∧ w.heap[blk]? = some (.cells arr t (0, 0)) ∧ rb.cap * wd ≤ arr.size ∧ ∀ (i : Nat) (x : Int), l[i]? = some x → arr[i]? = some (ck.val x))
  | .list ck wd a false => ∃ l, look η a = some (.ints l) ∧ rb.wd = wd ∧ l.length = rb.n * wd ∧ (∀ x ∈ rb.foot, x < w.heap.size) ∧
      (∀ (i : Nat) (x : Int), l[i]? = some x → ∃ blk off arr t fr, rb.at_ = some (blk, off) ∧ blk ∈ rb.foot ∧ w.heap[blk]? = some (.cells arr t fr) ∧ arr[off + i]? = some (ck.val x))

abbrev Hp := Nat → Option SB

structure HR (η : List PV) (ρ : Rho) (h : Hp) (w : World) : Prop where
  bc : ∀ b sb, h b = some sb → ∃ rb, ρ b = some rb ∧ BC η ρ w rb sb
  dj : ∀ b b' sb sb' rb rb', h b = some sb → h b' = some sb' → b ≠ b' → sb.rw = true → ρ b = some rb → ρ b' = some rb' → ∀ x ∈ rb.foot, x ∉ rb'.foot

structure Ctx where
  w0 : World
  touch : Nat → Prop
  alias : Nat → Prop

structure FR (C : Ctx) (ρ : Rho) (h : Hp) (w : World) : Prop where
  os : w.os = C.w0.os
  tape : w.tape = C.w0.tape
  out : w.output = C.w0.output
  size : C.w0.heap.size ≤ w.heap.size
  keep : ∀ x, x < C.w0.heap.size → ¬ C.touch x → w.heap[x]? = C.w0.heap[x]?
  foot : ∀ b sb rb, h b = some sb → ρ b = some rb → ∀ x ∈ rb.foot, C.w0.heap.size ≤ x ∨ C.touch x ∨ (sb.rw = false ∧ C.alias x)

/-! ### growing -/
def Ext (ρ ρ' : Rho) : Prop := ∀ b rb, ρ b = some rb → ρ' b = some rb

theorem Ext.refl (ρ : Rho) : Ext ρ ρ := fun _ _ h => h
theorem Ext.trans {a b c : Rho} (h : Ext a b) (k : Ext b c) : Ext a c := fun x y e => k x y (h x y e)

def Pre (η η' : List PV) : Prop := ∀ (i : Nat) (p : PV), η[i]? = some p → η'[i]? = some p

theorem Pre.refl (η : List PV) : Pre η η := fun _ _ h => h
theorem Pre.trans {a b c : List PV} (h : Pre a b) (k : Pre b c) : Pre a c := fun x y e => k x y (h x y e)
theorem Pre.app (η e : List PV) : Pre η (η ++ e) := fun i p h => by
  obtain ⟨hlt, _⟩ := List.getElem?_eq_some_iff.1 h
  rw [List.getElem?_append_left hlt]; exact h

theorem look_pre {η η' : List PV} (h : Pre η η') {a : Atom} {p : PV} (e : look η a = some p) : look η' a = some p := by
  cases a with
  | v i => exact h _ _ e
  | i n => exact e
  | b x => exact e
  | nil => exact e

theorem VCp.up {η η' : List PV} {ρ ρ' : Rho} (hη : Pre η η') (hρ : Ext ρ ρ') {c : Cp} {v : Value} (h : VCp η ρ c v) : VCp η' ρ' c v := by
  cases c with
  | int k a => obtain ⟨n, e, r⟩ := h; exact ⟨n, look_pre hη e, r⟩
  | bool a => obtain ⟨n, e, r⟩ := h; exact ⟨n, look_pre hη e, r⟩
  | str a => obtain ⟨n, e, r⟩ := h; exact ⟨n, look_pre hη e, r⟩
  | ptr b o => obtain ⟨rb, blk, e, r⟩ := h; exact ⟨rb, blk, hρ _ _ e, r⟩

theorem VCps.up {η η' : List PV} {ρ ρ' : Rho} (hη : Pre η η') (hρ : Ext ρ ρ') : ∀ {l : List Cp} {vs : List Value}, VCps η ρ l vs → VCps η' ρ' l vs
  | [], [], _ => trivial
  | _ :: _, _ :: _, h => ⟨h.1.up hη hρ, h.2.up hη hρ⟩
  | [], _ :: _, h => h.elim
  | _ :: _, [], h => h.elim

theorem VC.up {η η' : List PV} {ρ ρ' : Rho} (hη : Pre η η') (hρ : Ext ρ ρ') {c : SC} {v : Value} (h : VC η ρ c v) : VC η' ρ' c v := by
  cases c with
  | any => trivial
  | int k a => obtain ⟨n, e, r⟩ := h; exact ⟨n, look_pre hη e, r⟩
  | bool a => obtain ⟨n, e, r⟩ := h; exact ⟨n, look_pre hη e, r⟩
  | str a => obtain ⟨n, e, r⟩ := h; exact ⟨n, look_pre hη e, r⟩
  | nilp => exact h
  | ptr b o => obtain ⟨rb, blk, e, r⟩ := h; exact ⟨rb, blk, hρ _ _ e, r⟩
  | eptr b a w o => obtain ⟨rb, blk, off, i, e, r, ei, r'⟩ := h; exact ⟨rb, blk, off, i, hρ _ _ e, r, look_pre hη ei, r'⟩
  | nils => exact h
  | slc b => obtain ⟨rb, cap, e, r⟩ := h; exact ⟨rb, cap, hρ _ _ e, r⟩
  | sub b lo n => obtain ⟨rb, l, m, ad, cap, e, el, em, r⟩ := h; exact ⟨rb, l, m, ad, cap, hρ _ _ e, look_pre hη el, look_pre hη em, r⟩
  | csl b n w => obtain ⟨rb, blk, cap, e, r⟩ := h; exact ⟨rb, blk, cap, hρ _ _ e, r⟩
  | fn f fs cs => obtain ⟨xs, ys, hx, hy, r⟩ := h; exact ⟨xs, ys, hx.up hη hρ, hy.up hη hρ, r⟩
  | gptr g => exact h
  | gel g a => obtain ⟨i, e, r⟩ := h; exact ⟨i, look_pre hη e, r⟩

theorem VL.up {η η' : List PV} {ρ ρ' : Rho} (hη : Pre η η') (hρ : Ext ρ ρ') : ∀ {l : List SC} {vs : List Value}, VL η ρ l vs → VL η' ρ' l vs
  | [], [], _ => trivial
  | _ :: _, _ :: _, h => ⟨h.1.up hη hρ, h.2.up hη hρ⟩
  | [], _ :: _, h => h.elim
  | _ :: _, [], h => h.elim

theorem V1.up {η η' : List PV} {ρ ρ' : Rho} (hη : Pre η η') (hρ : Ext ρ ρ') {s : S1} {v : Value} (h : V1 η ρ s v) : V1 η' ρ' s v := by
  unfold V1 at *
  split
  · rename_i e; rw [if_pos e] at h; obtain ⟨cs, r, hl⟩ := h; exact ⟨cs, r, hl.up hη hρ⟩
  · rename_i e; rw [if_neg e] at h; obtain ⟨c, r, hl⟩ := h; exact ⟨c, r, hl.up hη hρ⟩

theorem V1s.up {η η' : List PV} {ρ ρ' : Rho} (hη : Pre η η') (hρ : Ext ρ ρ') : ∀ {l : List S1} {vs : List Value}, V1s η ρ l vs → V1s η' ρ' l vs
  | [], [], _ => trivial
  | _ :: _, _ :: _, h => ⟨h.1.up hη hρ, h.2.up hη hρ⟩
  | [], _ :: _, h => h.elim
  | _ :: _, [], h => h.elim

theorem VV.up {η η' : List PV} {ρ ρ' : Rho} (hη : Pre η η') (hρ : Ext ρ ρ') {s : SV} {v : Value} (h : VV η ρ s v) : VV η' ρ' s v := by
  cases s with
  | c x => exact VC.up hη hρ h
  | agg l => obtain ⟨cs, r, hl⟩ := h; exact ⟨cs, r, hl.up hη hρ⟩
  | tup l => obtain ⟨cs, r, hl⟩ := h; exact ⟨cs, r, hl.up hη hρ⟩

theorem VL.get {η : List PV} {ρ : Rho} : ∀ {l : List SC} {vs : List Value} (_ : VL η ρ l vs) (i : Nat) (c : SC), l[i]? = some c → ∃ v, vs[i]? = some v ∧ VC η ρ c v
  | [], _, _, i, c, h => by simp at h
  | c :: l, v :: vs, hv, 0, x, h => by simp at h; subst h; exact ⟨v, rfl, hv.1⟩
  | c :: l, v :: vs, hv, i + 1, x, h => by simp at h; obtain ⟨u, e, r⟩ := hv.2.get i x h; exact ⟨u, by simpa using e, r⟩
  | c :: l, [], hv, _, _, _ => hv.elim

theorem VL.len {η : List PV} {ρ : Rho} : ∀ {l : List SC} {vs : List Value}, VL η ρ l vs → vs.length = l.length
  | [], [], _ => rfl
  | _ :: _, _ :: _, h => by simp [h.2.len]
  | [], _ :: _, h => h.elim
  | _ :: _, [], h => h.elim

theorem VL.drop {η : List PV} {ρ : Rho} : ∀ {l : List SC} {vs : List Value} (_ : VL η ρ l vs) (i : Nat), VL η ρ (l.drop i) (vs.drop i)
  | [], [], _, i => by simp [VL]
  | _ :: _, _ :: _, h, 0 => h
  | _ :: _, _ :: _, h, i + 1 => by simpa using h.2.drop i
  | [], _ :: _, h, _ => h.elim
  | _ :: _, [], h, _ => h.elim

theorem VL.take {η : List PV} {ρ : Rho} : ∀ {l : List SC} {vs : List Value} (_ : VL η ρ l vs) (i : Nat), VL η ρ (l.take i) (vs.take i)
  | [], [], _, i => by simp [VL]
  | _ :: _, _ :: _, _, 0 => trivial
  | _ :: _, _ :: _, h, i + 1 => by exact ⟨h.1, h.2.take i⟩
  | [], _ :: _, h, _ => h.elim
  | _ :: _, [], h, _ => h.elim

theorem VL.app {η : List PV} {ρ : Rho} : ∀ {l : List SC} {vs : List Value} {m : List SC} {us : List Value}, VL η ρ l vs → VL η ρ m us → VL η ρ (l ++ m) (vs ++ us)
  | [], [], _, _, _, h => h
  | _ :: _, _ :: _, _, _, h, k => ⟨h.1, h.2.app k⟩
  | [], _ :: _, _, _, h, _ => h.elim
  | _ :: _, [], _, _, h, _ => h.elim

theorem VL.set {η : List PV} {ρ : Rho} : ∀ {l : List SC} {vs : List Value} (_ : VL η ρ l vs) (i : Nat) {c : SC} {v : Value} (_ : VC η ρ c v), VL η ρ (l.set i c) (vs.set i v)
  | [], [], _, i, _, _, _ => by simp [VL]
  | _ :: _, _ :: _, h, 0, _, _, k => ⟨k, h.2⟩
  | _ :: _, _ :: _, h, i + 1, _, _, k => ⟨h.1, h.2.set i k⟩
  | [], _ :: _, h, _, _, _, _ => h.elim
  | _ :: _, [], h, _, _, _, _ => h.elim

/-- a block's reading, later -/
theorem BC.up {η η' : List PV} {ρ ρ' : Rho} {w w' : World} {rb : RB} {sb : SB} (hη : Pre η η') (hρ : Ext ρ ρ') (hs : w.heap.size ≤ w'.heap.size)
    (hw : ∀ x ∈ rb.foot, w'.heap[x]? = w.heap[x]?) (h : BC η ρ w rb sb) : BC η' ρ' w' rb sb := by
  cases sb with
  | cells cs =>
    obtain ⟨blk, arr, t, ha, hf, hb, hl⟩ := h
    exact ⟨blk, arr, t, ha, hf, by rw [hw blk (by rw [hf]; simp)]; exact hb, hl.up hη hρ⟩
  | list ck wd a rw =>
    cases rw with
    | true =>
      obtain ⟨l, e, h1, h2, h3, h4⟩ := h
      refine ⟨l, look_pre hη e, h1, h2, h3, h4.imp id ?_⟩
      rintro ⟨blk, arr, t, ha, hf, hb, r⟩
      exact ⟨blk, arr, t, ha, hf, by rw [hw blk (by rw [hf]; simp)]; exact hb, r⟩
    | false =>
      obtain ⟨l, e, h1, h2, h3, h4⟩ := h
      refine ⟨l, look_pre hη e, h1, h2, fun x hx => Nat.lt_of_lt_of_le (h3 x hx) hs, fun i x hx => ?_⟩
      obtain ⟨blk, off, arr, t, fr, ha, hm, hb, r⟩ := h4 i x hx
      exact ⟨blk, off, arr, t, fr, ha, hm, by rw [hw blk hm]; exact hb, r⟩

theorem BC.foot {η : List PV} {ρ : Rho} {w : World} {rb : RB} {sb : SB} (h : BC η ρ w rb sb) : ∀ x ∈ rb.foot, x < w.heap.size := by
  have lt : ∀ {b : Nat} {o : Obj}, w.heap[b]? = some o → b < w.heap.size := fun e => (Array.getElem?_eq_some_iff.1 e).1
  cases sb with
  | cells cs => obtain ⟨blk, arr, t, ha, hf, hb, hl⟩ := h; intro x hx; rw [hf] at hx; simp at hx; subst hx; exact lt hb
  | list ck wd a rw =>
    cases rw with
    | true =>
      obtain ⟨l, e, h1, h2, h3, h4⟩ := h
      rcases h4 with ⟨_, _, hf⟩ | ⟨blk, arr, t, ha, hf, hb, r⟩
      · rw [hf]; simp
      · intro x hx; rw [hf] at hx; simp at hx; subst hx; exact lt hb
    | false => obtain ⟨l, e, h1, h2, h3, h4⟩ := h; exact h3

/-- a memory that has grown, or has been drawn from -/
structure Grown (w w' : World) : Prop where
  os : w'.os = w.os
  tape : w'.tape = w.tape
  out : w'.output = w.output
  size : w.heap.size ≤ w'.heap.size

theorem HR.up {η η' : List PV} {ρ ρ' : Rho} {h : Hp} {w w' : World} (H : HR η ρ h w) (hη : Pre η η') (hρ : Ext ρ ρ') (hs : w.heap.size ≤ w'.heap.size)
    (hw : ∀ x, x < w.heap.size → w'.heap[x]? = w.heap[x]?) : HR η' ρ' h w' := by
  refine ⟨fun b sb e => ?_, fun b b' sb sb' rb rb' e e' hne hrw r r' => ?_⟩
  · obtain ⟨rb, r, bc⟩ := H.bc b sb e
    exact ⟨rb, hρ _ _ r, bc.up hη hρ hs (fun x hx => hw x (bc.foot x hx))⟩
  · obtain ⟨q, hq, _⟩ := H.bc b sb e
    obtain ⟨q', hq', _⟩ := H.bc b' sb' e'
    have e1 := hρ _ _ hq
    have e2 := hρ _ _ hq'
    rw [e1] at r; rw [e2] at r'
    cases r; cases r'
    exact H.dj b b' sb sb' _ _ e e' hne hrw hq hq'

end Gm

/- A state of one shape is a state of a weaker shape: blocks and atoms are matched, the match is checked, and the check is sound. -/
namespace Gm
open Go

def looks (η : List PV) : List Atom → Option (List PV)
  | [] => some []
  | a :: l => match look η a with
    | some p => match looks η l with
      | some ps => some (p :: ps)
      | none => none
    | none => none

theorem looks_get {η : List PV} : ∀ {as : List Atom} {ps : List PV}, looks η as = some ps → ∀ (j : Nat) (a : Atom), as[j]? = some a → ∃ p, look η a = some p ∧ ps[j]? = some p
  | [], ps, h, j, a, e => by simp at e
  | x :: l, ps, h, j, a, e => by
    simp only [looks] at h
    cases hx : look η x with
    | none => simp [hx] at h
    | some p =>
      cases hl : looks η l with
      | none => simp [hx, hl] at h
      | some qs =>
        simp [hx, hl] at h
        subst h
        cases j with
        | zero => simp at e; subst e; exact ⟨p, hx, rfl⟩
        | succ j => simp at e; obtain ⟨q, h1, h2⟩ := looks_get hl j a e; exact ⟨q, h1, by simpa using h2⟩

theorem looks_len {η : List PV} : ∀ {as : List Atom} {ps : List PV}, looks η as = some ps → ps.length = as.length
  | [], ps, h => by simp [looks] at h; subst h; rfl
  | x :: l, ps, h => by
    simp only [looks] at h
    cases hx : look η x with
    | none => simp [hx] at h
    | some p =>
      cases hl : looks η l with
      | none => simp [hx, hl] at h
      | some qs => simp [hx, hl] at h; subst h; simp [looks_len hl]

theorem looks_pre {η η' : List PV} (hp : Pre η η') : ∀ {as : List Atom} {ps : List PV}, looks η as = some ps → looks η' as = some ps
  | [], ps, h => h
  | x :: l, ps, h => by
    simp only [looks] at h ⊢
    cases hx : look η x with
    | none => simp [hx] at h
    | some p =>
      cases hl : looks η l with
      | none => simp [hx, hl] at h
      | some qs => simp [hx, hl] at h; simp [look_pre hp hx, looks_pre hp hl, h]

/-- what a block of a weaker shape is in the stronger one -/
inductive BM where
  | no | blk (b : Nat) | nil (wd : Nat)
  deriving DecidableEq, Inhabited, Repr

def bm (bl : List BM) (b : Nat) : BM := bl.getD b .no

def rhoOf (ρ : Rho) (bl : List BM) : Rho := fun b =>
  match bm bl b with
  | .no => none
  | .blk b' => ρ b'
  | .nil wd => some ⟨none, 0, 0, wd, []⟩

def fitA (as : List Atom) (t a : Atom) : Bool :=
  match t with
  | .v j => as[j]? == some a
  | t => t == a

def fitP (bl : List BM) (as : List Atom) : Cp → Cp → Bool
  | .int k t, .int k' a => k == k' && fitA as t a
  | .bool t, .bool a => fitA as t a
  | .str t, .str a => fitA as t a
  | .ptr b o, .ptr b' o' => o == o' && bm bl b == .blk b'
  | _, _ => false

def fitPs (bl : List BM) (as : List Atom) : List Cp → List Cp → Bool
  | [], [] => true
  | t :: ts, a :: l => fitP bl as t a && fitPs bl as ts l
  | _, _ => false

def fitC (bl : List BM) (as : List Atom) : SC → SC → Bool
  | .any, _ => true
  | .int k t, .int k' a => k == k' && fitA as t a
  | .bool t, .bool a => fitA as t a
  | .str t, .str a => fitA as t a
  | .nilp, .nilp => true
  | .ptr b o, .ptr b' o' => o == o' && bm bl b == .blk b'
  | .nils, .nils => true
  | .slc b, .slc b' => bm bl b == .blk b'
  | .slc b, .nils => match bm bl b with | .nil _ => true | _ => false
  | .sub b lo n, .sub b' lo' n' => bm bl b == .blk b' && fitA as lo lo' && fitA as n n'
  | .csl b n w, .csl b' n' w' => bm bl b == .blk b' && n == n' && w == w'
  | .fn f fs cs, .fn f' fs' cs' => f == f' && fitPs bl as fs fs' && fitPs bl as cs cs'
  | .gptr g, .gptr g' => g == g'
  | _, _ => false

def fitL (bl : List BM) (as : List Atom) : List SC → List SC → Bool
  | [], [] => true
  | t :: ts, a :: l => fitC bl as t a && fitL bl as ts l
  | _, _ => false

def fit1 (bl : List BM) (as : List Atom) (t a : S1) : Bool := t.agg == a.agg && fitL bl as t.cs a.cs

def fit1s (bl : List BM) (as : List Atom) : List S1 → List S1 → Bool
  | [], [] => true
  | t :: ts, a :: l => fit1 bl as t a && fit1s bl as ts l
  | _, _ => false

def fitV (bl : List BM) (as : List Atom) : SV → SV → Bool
  | .c .any, _ => true
  | .c t, .c a => fitC bl as t a
  | .agg t, .agg a => fitL bl as t a
  | .tup t, .tup a => fit1s bl as t a
  | _, _ => false

def fitVs (bl : List BM) (as : List Atom) : List SV → List SV → Bool
  | [], [] => true
  | t :: ts, a :: l => fitV bl as t a && fitVs bl as ts l
  | _, _ => false

def fitB (bl : List BM) (as : List Atom) : SB → SB → Bool
  | .cells t, .cells a => fitL bl as t a
  | .list ck wd t rw, .list ck' wd' a rw' => ck == ck' && wd == wd' && fitA as t a && (!rw || rw')
  | _, _ => false

/-- one block of the weaker heap -/
def fitH1 (ah : List (Option SB)) (bl : List BM) (as : List Atom) (b : Nat) : Option SB → Bool
  | none => true
  | some t => match bm bl b with
    | .no => false
    | .blk b' => match ah[b']? with
      | some (some a) => fitB bl as t a
      | _ => false
    | .nil wd => match t with
      | .list _ wd' x _ => wd == wd' && fitA as x .nil
      | _ => false

/-- written blocks stay apart -/
def apart (th : List (Option SB)) (bl : List BM) (b : Nat) : Bool :=
  match th[b]?.join with
  | none => true
  | some t => !t.rw || match bm bl b with
    | .blk x => (List.range th.length).all fun c => c == b || (th[c]?.join).isNone || bm bl c != .blk x
    | _ => true

def fitHs (th ah : List (Option SB)) (bl : List BM) (as : List Atom) : Bool :=
  (List.range th.length).all fun b => fitH1 ah bl as b th[b]?.join && apart th bl b

section
variable {η ps : List PV} {ρ : Rho} {bl : List BM} {as : List Atom}

theorem fitA_ok (hp : looks η as = some ps) {t a : Atom} {p : PV} (h : fitA as t a = true) (e : look η a = some p) : look ps t = some p := by
  unfold fitA at h
  split at h
  · rename_i j
    have h' : as[j]? = some a := by simpa using h
    obtain ⟨q, h1, h2⟩ := looks_get hp _ _ h'
    rw [e] at h1; cases h1
    exact h2
  · rename_i hne
    have h' : t = a := by simpa using h
    subst h'
    cases t with
    | v j => exact absurd rfl (hne j)
    | i n => exact e
    | b x => exact e
    | nil => exact e

theorem rhoOf_blk {b b' : Nat} (h : bm bl b = .blk b') : rhoOf ρ bl b = ρ b' := by unfold rhoOf; rw [h]

theorem fitP_ok (hp : looks η as = some ps) {t a : Cp} {v : Value} (h : fitP bl as t a = true) (e : VCp η ρ a v) : VCp ps (rhoOf ρ bl) t v := by
  cases t <;> cases a <;> simp only [fitP, Bool.and_eq_true, beq_iff_eq, Bool.false_eq_true] at h
  case int.int => obtain ⟨n, e1, e2⟩ := e; obtain ⟨rfl, h⟩ := h; exact ⟨n, fitA_ok hp h e1, e2⟩
  case bool.bool => obtain ⟨n, e1, e2⟩ := e; exact ⟨n, fitA_ok hp h e1, e2⟩
  case str.str => obtain ⟨n, e1, e2⟩ := e; exact ⟨n, fitA_ok hp h e1, e2⟩
  case ptr.ptr => obtain ⟨rb, blk, e1, e2⟩ := e; obtain ⟨rfl, h⟩ := h; exact ⟨rb, blk, by rw [rhoOf_blk h]; exact e1, e2⟩

theorem fitPs_ok (hp : looks η as = some ps) : ∀ {t a : List Cp} {v : List Value}, fitPs bl as t a = true → VCps η ρ a v → VCps ps (rhoOf ρ bl) t v
  | [], [], v, _, e => by cases v with | nil => trivial | cons _ _ => exact e.elim
  | t :: ts, a :: l, [], _, e => e.elim
  | t :: ts, a :: l, x :: v, h, e => by
    simp only [fitPs, Bool.and_eq_true] at h
    exact ⟨fitP_ok hp h.1 e.1, fitPs_ok hp h.2 e.2⟩
  | [], _ :: _, _, h, _ => by simp [fitPs] at h
  | _ :: _, [], _, h, _ => by simp [fitPs] at h

theorem fitC_ok (hp : looks η as = some ps) {t a : SC} {v : Value} (h : fitC bl as t a = true) (e : VC η ρ a v) : VC ps (rhoOf ρ bl) t v := by
  cases t <;> cases a <;> simp only [fitC, Bool.and_eq_true, beq_iff_eq, Bool.false_eq_true] at h <;> (try exact trivial)
  case int.int => obtain ⟨n, e1, e2⟩ := e; obtain ⟨rfl, h⟩ := h; exact ⟨n, fitA_ok hp h e1, e2⟩
  case bool.bool => obtain ⟨n, e1, e2⟩ := e; exact ⟨n, fitA_ok hp h e1, e2⟩
  case str.str => obtain ⟨n, e1, e2⟩ := e; exact ⟨n, fitA_ok hp h e1, e2⟩
  case nilp.nilp => exact e
  case nils.nils => exact e
  case ptr.ptr => obtain ⟨rb, blk, e1, e2⟩ := e; obtain ⟨rfl, h⟩ := h; exact ⟨rb, blk, by rw [rhoOf_blk h]; exact e1, e2⟩
  case slc.slc => obtain ⟨rb, cap, e1, e2⟩ := e; exact ⟨rb, cap, by rw [rhoOf_blk h]; exact e1, e2⟩
  case slc.nils b =>
    split at h
    · rename_i wd hb
      refine ⟨⟨none, 0, 0, wd, []⟩, 0, by unfold rhoOf; rw [hb], Nat.le_refl _, Nat.le_refl _, e, fun _ => rfl⟩
    · cases h
  case sub.sub =>
    obtain ⟨rb, l, m, ad, cap, e1, e2, e3, r⟩ := e
    exact ⟨rb, l, m, ad, cap, by rw [rhoOf_blk h.1.1]; exact e1, fitA_ok hp h.1.2 e2, fitA_ok hp h.2 e3, r⟩
  case csl.csl =>
    obtain ⟨rb, blk, cap, e1, r⟩ := e
    obtain ⟨⟨h1, rfl⟩, rfl⟩ := h
    exact ⟨rb, blk, cap, by rw [rhoOf_blk h1]; exact e1, r⟩
  case fn.fn =>
    obtain ⟨xs, ys, hx, hy, r⟩ := e
    obtain ⟨⟨rfl, h1⟩, h2⟩ := h
    exact ⟨xs, ys, fitPs_ok hp h1 hx, fitPs_ok hp h2 hy, r⟩
  case gptr.gptr => subst h; exact e

theorem fitL_ok (hp : looks η as = some ps) : ∀ {t a : List SC} {v : List Value}, fitL bl as t a = true → VL η ρ a v → VL ps (rhoOf ρ bl) t v
  | [], [], v, _, e => by cases v with | nil => trivial | cons _ _ => exact e.elim
  | t :: ts, a :: l, [], _, e => e.elim
  | t :: ts, a :: l, x :: v, h, e => by
    simp only [fitL, Bool.and_eq_true] at h
    exact ⟨fitC_ok hp h.1 e.1, fitL_ok hp h.2 e.2⟩
  | [], _ :: _, _, h, _ => by simp [fitL] at h
  | _ :: _, [], _, h, _ => by simp [fitL] at h

theorem fit1_ok (hp : looks η as = some ps) {t a : S1} {v : Value} (h : fit1 bl as t a = true) (e : V1 η ρ a v) : V1 ps (rhoOf ρ bl) t v := by
  simp only [fit1, Bool.and_eq_true, beq_iff_eq] at h
  obtain ⟨h1, h2⟩ := h
  unfold V1 at *
  rw [h1]
  split
  · rename_i q; rw [if_pos q] at e; obtain ⟨cs, r, hl⟩ := e; exact ⟨cs, r, fitL_ok hp h2 hl⟩
  · rename_i q; rw [if_neg q] at e; obtain ⟨c, r, hl⟩ := e
    rw [r] at h2
    cases ht : t.cs with
    | nil => rw [ht] at h2; simp [fitL] at h2
    | cons x xs =>
      rw [ht] at h2
      simp only [fitL, Bool.and_eq_true] at h2
      cases xs with
      | nil => exact ⟨x, rfl, fitC_ok hp h2.1 hl⟩
      | cons _ _ => simp [fitL] at h2

theorem fit1s_ok (hp : looks η as = some ps) : ∀ {t a : List S1} {v : List Value}, fit1s bl as t a = true → V1s η ρ a v → V1s ps (rhoOf ρ bl) t v
  | [], [], v, _, e => by cases v with | nil => trivial | cons _ _ => exact e.elim
  | t :: ts, a :: l, [], _, e => e.elim
  | t :: ts, a :: l, x :: v, h, e => by
    simp only [fit1s, Bool.and_eq_true] at h
    exact ⟨fit1_ok hp h.1 e.1, fit1s_ok hp h.2 e.2⟩
  | [], _ :: _, _, h, _ => by simp [fit1s] at h
  | _ :: _, [], _, h, _ => by simp [fit1s] at h

theorem fitV_ok (hp : looks η as = some ps) {t a : SV} {v : Value} (h : fitV bl as t a = true) (e : VV η ρ a v) : VV ps (rhoOf ρ bl) t v := by
  unfold fitV at h
  split at h
  · trivial
  · exact fitC_ok hp h e
  · obtain ⟨cs, r, hl⟩ := e; exact ⟨cs, r, fitL_ok hp h hl⟩
  · obtain ⟨cs, r, hl⟩ := e; exact ⟨cs, r, fit1s_ok hp h hl⟩
  · cases h

theorem fitVs_get : ∀ {t a : List SV}, fitVs bl as t a = true → ∀ (i : Nat) (x : SV), t[i]? = some x → ∃ y, a[i]? = some y ∧ fitV bl as x y = true
  | [], [], _, i, x, e => by simp at e
  | t :: ts, a :: l, h, i, x, e => by
    simp only [fitVs, Bool.and_eq_true] at h
    cases i with
    | zero => simp at e; subst e; exact ⟨a, rfl, h.1⟩
    | succ i => simp at e; obtain ⟨y, h1, h2⟩ := fitVs_get h.2 i x e; exact ⟨y, by simpa using h1, h2⟩
  | [], _ :: _, h, _, _, _ => by simp [fitVs] at h
  | _ :: _, [], h, _, _, _ => by simp [fitVs] at h

theorem fitVs_len : ∀ {t a : List SV}, fitVs bl as t a = true → a.length = t.length
  | [], [], _ => rfl
  | t :: ts, a :: l, h => by simp only [fitVs, Bool.and_eq_true] at h; simp [fitVs_len h.2]
  | [], _ :: _, h => by simp [fitVs] at h
  | _ :: _, [], h => by simp [fitVs] at h

def hpf (l : List (Option SB)) : Hp := fun b => l[b]?.join

theorem hpf_lt {l : List (Option SB)} {b : Nat} {sb : SB} (h : hpf l b = some sb) : b < l.length := by
  unfold hpf at h
  rcases Nat.lt_or_ge b l.length with q | q
  · exact q
  · rw [List.getElem?_eq_none q] at h; cases h

variable {th ah : List (Option SB)} {w : World}

theorem fitHs_at (h : fitHs th ah bl as = true) {b : Nat} {sb : SB} (e : hpf th b = some sb) : fitH1 ah bl as b (some sb) = true ∧ apart th bl b = true := by
  have hl := hpf_lt e
  have := (List.all_eq_true.1 h) b (List.mem_range.2 hl)
  simp only [Bool.and_eq_true] at this
  unfold hpf at e
  rw [e] at this
  exact this

/-- what a block of the weaker heap is -/
theorem fitH_cases (h : fitHs th ah bl as = true) {b : Nat} {sb : SB} (e : hpf th b = some sb) :
    (∃ b' sb', bm bl b = .blk b' ∧ hpf ah b' = some sb' ∧ fitB bl as sb sb' = true) ∨ (∃ ck wd x rw, bm bl b = .nil wd ∧ sb = .list ck wd x rw ∧ fitA as x .nil = true) := by
  have h1 := (fitHs_at h e).1
  unfold fitH1 at h1
  split at h1
  · cases ‹some sb = none›
  · rename_i t ht
    cases ht
    split at h1
    · cases h1
    · rename_i b' hb
      split at h1
      · rename_i a ha
        exact .inl ⟨b', a, hb, by unfold hpf; rw [ha]; rfl, h1⟩
      · cases h1
    · rename_i wd hb
      split at h1
      · rename_i ck wd' x rw
        simp only [Bool.and_eq_true, beq_iff_eq] at h1
        obtain ⟨rfl, h2⟩ := h1
        exact .inr ⟨ck, wd, x, rw, hb, rfl, h2⟩
      · cases h1

theorem fitB_ok (hp : looks η as = some ps) {rb : RB} {t a : SB} (h : fitB bl as t a = true) (e : BC η ρ w rb a) : BC ps (rhoOf ρ bl) w rb t := by
  cases t <;> cases a <;> simp only [fitB, Bool.and_eq_true, beq_iff_eq, Bool.false_eq_true, Bool.or_eq_true, Bool.not_eq_true'] at h
  case cells.cells => obtain ⟨blk, arr, t, e1, e2, e3, e4⟩ := e; exact ⟨blk, arr, t, e1, e2, e3, fitL_ok hp h e4⟩
  case list.list ck wd x rw ck' wd' a rw' =>
    obtain ⟨⟨⟨rfl, rfl⟩, h1⟩, h2⟩ := h
    cases rw with
    | true =>
      have : rw' = true := by simpa using h2
      subst this
      obtain ⟨l, e1, r⟩ := e
      exact ⟨l, fitA_ok hp h1 e1, r⟩
    | false =>
      cases rw' with
      | false => obtain ⟨l, e1, r⟩ := e; exact ⟨l, fitA_ok hp h1 e1, r⟩
      | true =>
        have hf := e.foot
        obtain ⟨l, e1, e2, e3, e4, e5⟩ := e
        refine ⟨l, fitA_ok hp h1 e1, e2, e3, hf, fun i x hx => ?_⟩
        rcases e5 with ⟨q1, q2, q3⟩ | ⟨blk, arr, t, q1, q2, q3, q4, q5⟩
        · have : rb.n = 0 := by omega
          rw [this] at e3
          simp at e3
          subst e3
          simp at hx
        · exact ⟨blk, 0, arr, t, _, q1, by rw [q2]; simp, q3, by simpa using q5 i x hx⟩

theorem fitB_rw {t a : SB} (h : fitB bl as t a = true) (e : t.rw = true) : a.rw = true := by
  cases t <;> cases a <;> simp only [fitB, Bool.and_eq_true, beq_iff_eq, Bool.false_eq_true, Bool.or_eq_true, Bool.not_eq_true'] at h
  case cells.cells => rfl
  case list.list => simp [SB.rw] at e ⊢; simpa [e] using h.2

/-- the weaker heap is read where the stronger one is -/
theorem HR.fitG {h0 : Hp} (H : HR η ρ h0 w) (hag : ∀ b b' sb', bm bl b = .blk b' → hpf ah b' = some sb' → h0 b' = some sb') (hp : looks η as = some ps) (h : fitHs th ah bl as = true) :
    HR ps (rhoOf ρ bl) (hpf th) w := by
  refine ⟨fun b sb e => ?_, fun b b' sb sb' rb rb' e e' hne hrw r r' x hx hx' => ?_⟩
  · rcases fitH_cases h e with ⟨b', sb', h1, h2, h3⟩ | ⟨ck, wd, x, rw, h1, rfl, h3⟩
    · obtain ⟨rb, r, bc⟩ := H.bc b' sb' (hag b b' sb' h1 h2)
      exact ⟨rb, by rw [rhoOf_blk h1]; exact r, fitB_ok hp h3 bc⟩
    · refine ⟨⟨none, 0, 0, wd, []⟩, by unfold rhoOf; rw [h1], ?_⟩
      have hx : look ps x = some (.ints []) := fitA_ok hp h3 rfl
      cases rw with
      | true => exact ⟨[], hx, rfl, by simp, Nat.le_refl _, .inl ⟨rfl, rfl, rfl⟩⟩
      | false => exact ⟨[], hx, rfl, by simp, by simp, by simp⟩
  · rcases fitH_cases h e with ⟨c, sc, h1, h2, h3⟩ | ⟨ck, wd, y, rw, h1, rfl, h3⟩
    · rcases fitH_cases h e' with ⟨c', sc', h1', h2', h3'⟩ | ⟨ck', wd', y', rw', h1', rfl, h3'⟩
      · rw [rhoOf_blk h1] at r
        rw [rhoOf_blk h1'] at r'
        have hap := (fitHs_at h e).2
        unfold apart at hap
        have e0 : th[b]?.join = some sb := e
        rw [e0] at hap
        simp only [hrw, h1, Bool.not_true, Bool.false_or] at hap
        have := (List.all_eq_true.1 hap) b' (List.mem_range.2 (hpf_lt e'))
        have e0' : th[b']?.join = some sb' := e'
        rw [e0', h1'] at this
        have hcc : c' ≠ c := by
          intro q; subst q
          simp [Ne.symm hne] at this
        exact H.dj c c' sc sc' _ _ (hag b c sc h1 h2) (hag b' c' sc' h1' h2') (Ne.symm hcc) (fitB_rw h3 hrw) r r' x hx hx'
      · unfold rhoOf at r'; rw [h1'] at r'; cases r'; simp at hx'
    · unfold rhoOf at r; rw [h1] at r; cases r; simp at hx

theorem HR.fit (H : HR η ρ (hpf ah) w) (hp : looks η as = some ps) (h : fitHs th ah bl as = true) : HR ps (rhoOf ρ bl) (hpf th) w :=
  H.fitG (fun _ _ _ _ e => e) hp h

theorem FR.fit {C : Ctx} (F : FR C ρ (hpf ah) w) (h : fitHs th ah bl as = true) : FR C (rhoOf ρ bl) (hpf th) w := by
  refine ⟨F.os, F.tape, F.out, F.size, F.keep, fun b sb rb e r x hx => ?_⟩
  rcases fitH_cases h e with ⟨c, sc, h1, h2, h3⟩ | ⟨ck, wd, y, rw, h1, rfl, h3⟩
  · rw [rhoOf_blk h1] at r
    rcases F.foot c sc rb h2 r x hx with q | q | ⟨q1, q2⟩
    · exact .inl q
    · exact .inr (.inl q)
    · refine .inr (.inr ⟨?_, q2⟩)
      cases hs : sb.rw with
      | false => rfl
      | true => rw [fitB_rw h3 hs] at q1; cases q1
  · unfold rhoOf at r; rw [h1] at r; cases r; simp at hx

end
end Gm

/- The target language: primitive steps on pure values, terms, and two ways to run a term that agree. -/
namespace Gm
open Go

inductive Prim where
  | bin (op : BinOp) (k : IntKind)
  | cmp (op : BinOp)
  | neg (k : IntKind) | inv (k : IntKind)
  | bnot | beq | bne | band
  | conv (k : IntKind)
  | addi
  | len (w : Nat)
  | chk (w : Nat)
  | chkn
  | get (w o : Nat) | getb (w o : Nat)
  | set (w o : Nat) | setb (w o : Nat)
  | mk (w : Nat)
  | lit | litb
  | app
  | sl (w : Nat)
  | rng
  | spl (w : Nat)
  | zer (w : Nat)
  | sel
  | mx | mn
  | tab (l : List Int)
  | call (i : Nat)
  deriving Inhabited, Repr

def gbits (op : BinOp) (k : IntKind) (a b : Int) : Int :=
  let x := BitVec.ofInt k.bits a
  let y := BitVec.ofInt k.bits b
  match op with
  | .and => k.wrap (x &&& y).toNat
  | .or => k.wrap (x ||| y).toNat
  | .xor => k.wrap (x ^^^ y).toNat
  | _ => k.wrap (x &&& ~~~y).toNat

def binInt (op : BinOp) (k : IntKind) (a b : Int) : Option Int :=
  match op with
  | .add => some (k.wrap (a + b))
  | .sub => some (k.wrap (a - b))
  | .mul => some (k.wrap (a * b))
  | .quo => if b = 0 then none else some (k.wrap (a.tdiv b))
  | .rem => if b = 0 then none else some (a.tmod b)
  | .and => some (gbits .and k a b)
  | .or => some (gbits .or k a b)
  | .xor => some (gbits .xor k a b)
  | .andNot => some (gbits .andNot k a b)
  | .shl => if b < 0 then none else some (k.wrap (a * 2 ^ min b.toNat k.bits))
  | .shr => if b < 0 then none else some (a.fdiv (2 ^ min b.toNat k.bits))
  | _ => none

def cmpInt (op : BinOp) (a b : Int) : Option Bool :=
  match op with
  | .eql => some (a == b)
  | .neq => some (a != b)
  | .lss => some (decide (a < b))
  | .leq => some (decide (a ≤ b))
  | .gtr => some (decide (a > b))
  | .geq => some (decide (a ≥ b))
  | _ => none

/-- how long a list may be -/
def room : Nat := 1099511627776

def ints : List PV → Option (List Int)
  | [] => some []
  | .int n :: l => match ints l with
    | some r => some (n :: r)
    | none => none
  | _ :: _ => none

def bools : List PV → Option (List Int)
  | [] => some []
  | .bool b :: l => match bools l with
    | some r => some ((if b then 1 else 0) :: r)
    | none => none
  | _ :: _ => none

/-- a list with another one laid over it from a place on -/
def splice (l : List Int) (i : Nat) (m : List Int) : List Int := l.take i ++ m ++ l.drop (i + m.length)

def ev : Prim → List PV → Option (List PV)
  | .bin op k, [.int a, .int b] => match binInt op k a b with
    | some r => some [.int r]
    | none => none
  | .cmp op, [.int a, .int b] => match cmpInt op a b with
    | some r => some [.bool r]
    | none => none
  | .neg k, [.int a] => some [.int (k.wrap (0 - a))]
  | .inv k, [.int a] => some [.int (gbits .xor k (if k.signed then -1 else k.max) a)]
  | .bnot, [.bool a] => some [.bool (!a)]
  | .beq, [.bool a, .bool b] => some [.bool (a == b)]
  | .bne, [.bool a, .bool b] => some [.bool (!(a == b))]
  | .band, [.bool a, .bool b] => some [.bool (a && b)]
  | .conv k, [.int a] => some [.int (k.wrap a)]
  | .addi, [.int a, .int b] => some [.int (a + b)]
  | .len w, [.ints l] => some [.int (l.length / w : Nat)]
  | .chk w, [.ints l, .int i] => if 0 ≤ i ∧ i < (l.length / w : Nat) then some [] else none
  | .chkn, [.int n, .int i] => if 0 ≤ i ∧ i < n then some [] else none
  | .get w o, [.ints l, .int i] => if 0 ≤ i then match l[i.toNat * w + o]? with
      | some x => some [.int x]
      | none => none
    else none
  | .getb w o, [.ints l, .int i] => if 0 ≤ i then match l[i.toNat * w + o]? with
      | some x => some [.bool (x != 0)]
      | none => none
    else none
  | .set w o, [.ints l, .int i, .int v] => if 0 ≤ i ∧ i.toNat * w + o < l.length then some [.ints (l.set (i.toNat * w + o) v)] else none
  | .setb w o, [.ints l, .int i, .bool v] => if 0 ≤ i ∧ i.toNat * w + o < l.length then some [.ints (l.set (i.toNat * w + o) (if v then 1 else 0))] else none
  | .mk w, [.int n, .int c] => if 0 ≤ n ∧ n ≤ c ∧ c.toNat * w ≤ room then some [.ints (List.replicate (n.toNat * w) 0)] else none
  | .lit, vs => match ints vs with
    | some l => some [.ints l]
    | none => none
  | .litb, vs => match bools vs with
    | some l => some [.ints l]
    | none => none
  | .app, [.ints l, .ints m] => if (l ++ m).length ≤ room then some [.ints (l ++ m)] else none
  | .sl w, [.ints l, .int i, .int n] => if 0 ≤ i ∧ 0 ≤ n then some [.ints ((l.drop (i.toNat * w)).take (n.toNat * w))] else none
  | .rng, [.int lo, .int hi, .int m] => if 0 ≤ lo ∧ lo ≤ hi ∧ hi ≤ m then some [.int (hi - lo)] else none
  | .spl w, [.ints l, .int i, .ints m] => if 0 ≤ i ∧ i.toNat * w + m.length ≤ l.length then some [.ints (splice l (i.toNat * w) m)] else none
  | .zer w, [.ints l, .int i, .int n] => if 0 ≤ i ∧ 0 ≤ n ∧ i.toNat * w + n.toNat * w ≤ l.length then some [.ints (splice l (i.toNat * w) (List.replicate (n.toNat * w) 0))] else none
  | .sel, [.bool c, .int a, .int b] => some [.int (if c then a else b)]
  | .sel, [.bool c, .bool a, .bool b] => some [.bool (if c then a else b)]
  | .mx, [.int a, .int b] => some [.int (if b > a then b else a)]
  | .mn, [.int a, .int b] => some [.int (if b < a then b else a)]
  | .tab l, [.int i] => if 0 ≤ i then match l[i.toNat]? with
      | some x => some [.int x]
      | none => none
    else none
  | _, _ => none

/-- a function of the program, as pure values, with what comes behind it -/
abbrev PF := List PV → (List PV → Option (List PV)) → Option (List PV)

def Lawful (F : PF) : Prop := ∀ vs k, F vs k = (F vs some).bind k

inductive T where
  | fail
  | ret (as : List Atom)
  | jump (l : Nat) (as : List Atom)
  | op (p : Prim) (as : List Atom) (n : Nat) (k : T)
  | ite (c : Atom) (a b : T)
  | seq (a b : T)
  | loop (init : List Atom) (body : T)
  deriving Inhabited, Repr

inductive Out where
  | ret (v : List PV) | jump (l : Nat) (v : List PV)

/-- what a primitive step yields, the functions that are called told by a table -/
def step (tb : List PF) (p : Prim) (vs : List PV) : Option (List PV) :=
  match p with
  | .call i => match tb[i]? with
    | some F => F vs some
    | none => none
  | p => ev p vs

def iterO (f : List PV → Option Out) : Nat → List PV → Option Out
  | 0, _ => none
  | n + 1, v => match f v with
    | some (.jump 0 v') => iterO f n v'
    | some (.jump (l + 1) v') => some (.jump l v')
    | r => r

def big : Nat := 18446744073709551616

def eval (tb : List PF) : T → List PV → Option Out
  | .fail => fun _ => none
  | .ret as => fun η => match looks η as with
    | some v => some (.ret v)
    | none => none
  | .jump l as => fun η => match looks η as with
    | some v => some (.jump l v)
    | none => none
  | .op p as n k => fun η => match looks η as with
    | some vs => match step tb p vs with
      | some rs => if rs.length = n then eval tb k (η ++ rs) else none
      | none => none
    | none => none
  | .ite c a b => fun η => match look η c with
    | some (.bool x) => bif x then eval tb a η else eval tb b η
    | _ => none
  | .seq a b => fun η => match eval tb a η with
    | some (.jump 0 v) => eval tb b v
    | some (.jump (l + 1) v) => some (.jump l v)
    | r => r
  | .loop init body => fun η => match looks η init with
    | some v => iterO (eval tb body) big v
    | none => none

abbrev KF := List PV → Option (List PV)

def stepK (tb : List PF) (p : Prim) (vs : List PV) (n : Nat) (k : KF) : Option (List PV) :=
  match p with
  | .call i => match tb[i]? with
    | some F => F vs (fun rs => if rs.length = n then k rs else none)
    | none => none
  | p => match ev p vs with
    | some rs => if rs.length = n then k rs else none
    | none => none

def iterK (f : List PV → KF → Option (List PV)) : Nat → KF
  | 0, _ => none
  | n + 1, v => f v (iterK f n)

def evalK (tb : List PF) : T → List PV → KF → List KF → Option (List PV)
  | .fail => fun _ _ _ => none
  | .ret as => fun η r _ => match looks η as with
    | some v => r v
    | none => none
  | .jump l as => fun η _ js => match looks η as with
    | some v => match js[l]? with
      | some j => j v
      | none => none
    | none => none
  | .op p as n k => fun η r js => match looks η as with
    | some vs => stepK tb p vs n (fun rs => evalK tb k (η ++ rs) r js)
    | none => none
  | .ite c a b => fun η r js => match look η c with
    | some (.bool x) => bif x then evalK tb a η r js else evalK tb b η r js
    | _ => none
  | .seq a b => fun η r js => evalK tb a η r ((fun v => evalK tb b v r js) :: js)
  | .loop init body => fun η r js => match looks η init with
    | some v => iterK (fun v k => evalK tb body v r (k :: js)) big v
    | none => none

def outK (r : KF) (js : List KF) : Out → Option (List PV)
  | .ret v => r v
  | .jump l v => match js[l]? with
    | some j => j v
    | none => none

theorem stepK_eq {tb : List PF} (hl : ∀ F ∈ tb, Lawful F) (p : Prim) (vs : List PV) (n : Nat) (k : KF) :
    stepK tb p vs n k = (step tb p vs).bind fun rs => if rs.length = n then k rs else none := by
  unfold stepK step
  split
  · rename_i i
    cases h : tb[i]? with
    | none => rfl
    | some F => exact hl F (List.mem_of_getElem? h) _ _
  · cases ev p vs <;> rfl

theorem iterK_eq {f : List PV → KF → Option (List PV)} {g : List PV → Option Out} {r : KF} {js : List KF}
    (h : ∀ v k, f v k = (g v).bind (outK r (k :: js))) : ∀ n v, iterK f n v = (iterO g n v).bind (outK r js)
  | 0, v => rfl
  | n + 1, v => by
    simp only [iterK, iterO, h]
    cases g v with
    | none => rfl
    | some o =>
      cases o with
      | ret v => rfl
      | jump l v' =>
        cases l with
        | zero => exact iterK_eq h n v'
        | succ l => rfl

theorem evalK_eq {tb : List PF} (hl : ∀ F ∈ tb, Lawful F) : ∀ (t : T) (η : List PV) (r : KF) (js : List KF), evalK tb t η r js = (eval tb t η).bind (outK r js)
  | .fail, η, r, js => rfl
  | .ret as, η, r, js => by simp only [evalK, eval]; cases looks η as <;> rfl
  | .jump l as, η, r, js => by simp only [evalK, eval]; cases looks η as <;> rfl
  | .op p as n k, η, r, js => by
    simp only [evalK, eval]
    cases looks η as with
    | none => rfl
    | some vs =>
      simp only [stepK_eq hl]
      cases step tb p vs with
      | none => rfl
      | some rs =>
        simp only [Option.bind_some]
        split
        · exact evalK_eq hl k _ r js
        · rfl
  | .ite c a b, η, r, js => by
    simp only [evalK, eval]
    cases look η c with
    | none => rfl
    | some p =>
      cases p with
      | bool x => cases x <;> simp only [cond_true, cond_false] <;> exact evalK_eq hl _ _ _ _
      | int n => rfl
      | ints l => rfl
      | str s => rfl
  | .seq a b, η, r, js => by
    simp only [evalK, eval]
    rw [evalK_eq hl a]
    cases eval tb a η with
    | none => rfl
    | some o =>
      cases o with
      | ret v => rfl
      | jump l v =>
        cases l with
        | zero => exact evalK_eq hl b v r js
        | succ l => rfl
  | .loop init body, η, r, js => by
    simp only [evalK, eval]
    cases looks η init with
    | none => rfl
    | some v => exact iterK_eq (fun v k => evalK_eq hl body v r (k :: js)) big v

/-- a term as a function -/
def T.fn (tb : List PF) (t : T) : PF := fun vs k => evalK tb t vs k []

theorem T.fn_some {tb : List PF} (hl : ∀ F ∈ tb, Lawful F) (t : T) (vs rs : List PV) (h : t.fn tb vs some = some rs) : eval tb t vs = some (.ret rs) := by
  unfold T.fn at h
  rw [evalK_eq hl] at h
  cases he : eval tb t vs with
  | none => rw [he] at h; cases h
  | some o =>
    rw [he] at h
    cases o with
    | ret v => simp [outK] at h; rw [h]
    | jump l v => simp [outK] at h

theorem T.fn_lawful {tb : List PF} (hl : ∀ F ∈ tb, Lawful F) (t : T) : Lawful (t.fn tb) := by
  intro vs k
  unfold T.fn
  rw [evalK_eq hl, evalK_eq hl]
  cases eval tb t vs with
  | none => rfl
  | some o => cases o <;> rfl

end Gm

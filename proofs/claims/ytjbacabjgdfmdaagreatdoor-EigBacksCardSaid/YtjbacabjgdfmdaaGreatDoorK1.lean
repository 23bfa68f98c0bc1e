/- The static side of single operations. -/
import Derived.Test.YtjbacabjgdfmdaaGreatDoorK0
namespace Gm
open Go

structure SSt where
  tm : List SV
  hp : List (Option SB)
  ne : Nat
  deriving Inhabited, Repr

structure Ins where
  p : Prim
  as : List Atom
  n : Nat
  deriving Inhabited, Repr

/-- what a step leaves: the shape of its answer, the blocks, the steps on pure values, and the blocks that were looked at -/
structure Res where
  val : SV
  hp : List (Option SB)
  ins : List Ins
  rd : List Nat
  deriving Inhabited, Repr

/-- a function's shape -/
structure Sig where
  args : List SV
  heap : List (Option SB)
  npin : Nat
  np : Nat
  res : SV
  out : List (Option SB)
  nr : Nat
  deriving Inhabited, Repr

structure Ent where
  f : FuncId
  sg : Sig
  deriving Inhabited, Repr

abbrev E := Except String

def isAggT (P : Program) (t : TypeId) : Bool :=
  match P.underlying t with
  | some (.struct _) | some (.array _ _) => true
  | _ => false

/-- a type that is known, with what lies under it -/
def inf (P : Program) (t : TypeId) : Option TypeInfo :=
  match P.info? t, P.underlying t with
  | some i, some _ => some i
  | _, _ => none

/-- elements that are numbers of one kind, or some of them side by side -/
def flatK (P : Program) (e : TypeId) : Option (CK × Nat) :=
  match inf P e with
  | some i => match i.zero with
    | some (.int k n) => if n = 0 ∧ i.size = 1 ∧ isAggT P e = false ∧ i.bytes ≤ 128 then some (.int k, 1) else none
    | some (.bool b) => if b = false ∧ i.size = 1 ∧ isAggT P e = false ∧ i.bytes ≤ 128 then some (.bool, 1) else none
    | some (.agg cs) => match cs.toList with
      | .int k n :: l => if n = 0 ∧ i.size = l.length + 1 ∧ isAggT P e = true ∧ i.bytes ≤ 128 ∧ l.all (fun v => match v with | .int k' m => k' == k && m == 0 | _ => false) then some (.int k, l.length + 1) else none
      | _ => none
    | _ => none
  | none => none

def listT (P : Program) (t : TypeId) : Option (CK × Nat) :=
  match P.underlying t with
  | some (.slice e) => flatK P e
  | _ => none

/-- the types of a type's cells -/
def cellTys (P : Program) : Nat → TypeId → List TypeId
  | 0, t => [t]
  | d + 1, t => match P.underlying t with
    | some (.struct fs) => fs.toList.flatMap fun f => cellTys P d f.type
    | some (.array n e) => (List.replicate n e).flatMap fun e => cellTys P d e
    | _ => [t]

/-- a cell that a constant fills; a nil slice of numbers is an empty list of its own -/
def constC (P : Program) (t : TypeId) (v : Value) (base : Nat) : SC × List (Option SB) :=
  match v with
  | .int k n => (.int k (.i n), [])
  | .bool b => (.bool (.b b), [])
  | .pointer none => (.nilp, [])
  | .slice none 0 0 => match listT P t with
    | some (ck, wd) => (.slc base, [some (.list ck wd .nil (ck != .int .u32))])
    | none => (.nils, [])
  | _ => (.any, [])

def constCs (P : Program) : List TypeId → List Value → Nat → List SC × List (Option SB)
  | _, [], _ => ([], [])
  | ts, v :: vs, base =>
    let (c, bs) := constC P (ts.headD 0) v base
    let (cs, bs') := constCs P ts.tail vs (base + bs.length)
    (c :: cs, bs ++ bs')

def constV (P : Program) (t : TypeId) (v : Value) (base : Nat) : SV × List (Option SB) :=
  match v with
  | .agg cs => let (l, bs) := constCs P (cellTys P 8 t) cs.toList base; (.agg l, bs)
  | .tuple _ => (.c .any, [])
  | v => let (c, bs) := constC P t v base; (.c c, bs)

/-- an operand; t: its type, of a constant that is a nil slice -/
def opnd (P : Program) (s : SSt) (t : TypeId) (x : Operand) : E (SV × List (Option SB)) :=
  match x with
  | .tmp i => match s.tm[i]? with
    | some v => .ok (v, [])
    | none => .error "tmp"
  | .const v => .ok (constV P t v s.hp.length)
  | .global g => .ok (.c (.gptr g), [])
  | .func f => .ok (.c (.fn f [] []), [])

/-- an operand that brings no block -/
def opn (P : Program) (s : SSt) (x : Operand) : E SV :=
  match opnd P s 0 x with
  | .ok (v, []) => .ok v
  | .ok _ => .error "operand with a block"
  | .error e => .error e

def SV.cells : SV → Option (List SC)
  | .c .any => none
  | .c x => some [x]
  | .agg l => some l
  | .tup _ => none

def atomI (η0 : SV) : Option (IntKind × Atom) :=
  match η0 with
  | .c (.int k a) => some (k, a)
  | _ => none

def litOf : Atom → Option PV
  | .i n => some (.int n)
  | .b x => some (.bool x)
  | _ => none

def lits : List Atom → Option (List PV)
  | [] => some []
  | a :: l => match litOf a with
    | some p => match lits l with
      | some r => some (p :: r)
      | none => none
    | none => none

/-- a primitive step of one answer; of constants it is done at once -/
def prim1 (ne : Nat) (p : Prim) (as : List Atom) : Atom × List Ins :=
  match lits as with
  | some vs => match ev p vs with
    | some [.int n] => (.i n, [])
    | some [.bool b] => (.b b, [])
    | _ => (.v ne, [⟨p, as, 1⟩])
  | none => (.v ne, [⟨p, as, 1⟩])

def insN : List Ins → Nat
  | [] => 0
  | i :: l => i.n + insN l

def listAt (s : SSt) (b : Nat) : E (CK × Nat × Atom × Bool) :=
  match hpf s.hp b with
  | some (.list ck wd a rw) => .ok (ck, wd, a, rw)
  | _ => .error "no list"

def cellsAt (s : SSt) (b : Nat) : E (List SC) :=
  match hpf s.hp b with
  | some (.cells cs) => .ok cs
  | _ => .error "no cells"

def CK.sc : CK → Atom → SC
  | .int k, a => .int k a
  | .bool, a => .bool a

def plain (s : SSt) (v : SV) : Res := ⟨v, s.hp, [], []⟩

/-! the operations -/
def sMove (P : Program) (s : SSt) (ty : TypeId) (x : Operand) : E Res := do
  let (v, bs) ← opnd P s ty x
  .ok ⟨v, s.hp ++ bs, [], []⟩

def sPick (P : Program) (s : SSt) (c a b : Operand) : E Res := do
  let vc ← opn P s c
  match vc with
  | .c (.bool (.b true)) => do let v ← opn P s a; .ok (plain s v)
  | .c (.bool (.b false)) => do let v ← opn P s b; .ok (plain s v)
  | .c (.bool x) => do
    let va ← opn P s a
    let vb ← opn P s b
    match va, vb with
    | .c (.int k m), .c (.int k' n) => if k = k' then .ok ⟨.c (.int k (.v s.ne)), s.hp, [⟨.sel, [x, m, n], 1⟩], []⟩ else .error "pick: kinds"
    | .c (.bool m), .c (.bool n) => if m = n then .ok (plain s (.c (.bool m))) else .ok ⟨.c (.bool (.v s.ne)), s.hp, [⟨.sel, [x, m, n], 1⟩], []⟩
    | _, _ => .error "pick"
  | _ => .error "pick: condition"

def zeroOf (P : Program) (t : TypeId) : E Value :=
  match inf P t with
  | some i => match i.zero with
    | some v => .ok v
    | none => .error "zero"
  | none => .error "type"

def sAlloc (P : Program) (s : SSt) (t : TypeId) : E Res := do
  let z ← zeroOf P t
  let (cs, bs) := constCs P (cellTys P 8 t) z.cells.toList (s.hp.length + 1)
  .ok ⟨.c (.ptr s.hp.length 0), s.hp ++ some (.cells cs) :: bs, [], []⟩

def sBox (P : Program) (s : SSt) (x : Operand) : E Res := do
  let v ← opn P s x
  match v.cells with
  | some l => .ok ⟨.c (.ptr s.hp.length 0), s.hp ++ [some (.cells l)], [], []⟩
  | none => .error "box"

/-- the cells of a composite: parts laid over zeros -/
def fillS (place : Nat → Option (Nat × Nat)) : List SC → List (Nat × List SC) → Option (List SC)
  | cs, [] => some cs
  | cs, (i, v) :: l =>
    match place i with
    | none => none
    | some (off, size) => if v.length = size ∧ off + v.length ≤ cs.length then fillS place (cs.take off ++ v ++ cs.drop (off + v.length)) l else none

/-- parts, each with its type; what blocks their nil slices bring -/
def partsS (P : Program) (s : SSt) (tys : Nat → TypeId) : List (Nat × Operand) → Nat → E (List (Nat × List SC) × List (Option SB))
  | [], _ => .ok ([], [])
  | (i, x) :: l, base => do
    let (v, bs) ← opnd P { s with hp := List.replicate base none } (tys i) x
    match v.cells with
    | some c => do
      let (r, bs') ← partsS P s tys l (base + bs.length)
      .ok ((i, c) :: r, bs ++ bs')
    | none => .error "part"

def sBuild (P : Program) (s : SSt) (t : TypeId) (parts : Array (Nat × Operand)) : E Res := do
  let z ← zeroOf P t
  let (zs, bs) := constCs P (cellTys P 8 t) z.cells.toList s.hp.length
  match P.underlying t with
  | some (.struct fs) =>
    let (ps, bs') ← partsS P s (fun i => match fs[i]? with | some f => f.type | none => 0) parts.toList (s.hp.length + bs.length)
    match fillS (fun i => match fs[i]? with | some f => (match inf P f.type with | some g => some (f.offset, g.size) | none => none) | none => none) zs ps with
    | some l => if fs.toList.all (fun f => (inf P f.type).isSome) then .ok ⟨.agg l, s.hp ++ bs ++ bs', [], []⟩ else .error "build: type"
    | none => .error "build: fill"
  | some (.array _ e) =>
    let (ps, bs') ← partsS P s (fun _ => e) parts.toList (s.hp.length + bs.length)
    match inf P e with
    | some g => match fillS (fun i => some (i * g.size, g.size)) zs ps with
      | some l => .ok ⟨.agg l, s.hp ++ bs ++ bs', [], []⟩
      | none => .error "build: fill"
    | none => .error "build: type"
  | _ => .error "build"

/-- the parts stand in order, one behind the other -/
def inOrder : List (Nat × List SC) → Nat → Bool
  | [], _ => true
  | (i, _) :: l, n => i == n && inOrder l (n + 1)

def atomsOf (ck : CK) : List SC → Option (List Atom)
  | [] => some []
  | c :: l => match ck, c with
    | .int k, .int k' a => if k = k' then (match atomsOf ck l with | some r => some (a :: r) | none => none) else none
    | .bool, .bool a => (match atomsOf ck l with | some r => some (a :: r) | none => none)
    | _, _ => none

def sBuildSlice (P : Program) (s : SSt) (t : TypeId) (len : Nat) (parts : Array (Nat × Operand)) : E Res := do
  match P.underlying t with
  | some (.slice e) =>
    match inf P e with
    | none => .error "buildSlice: type"
    | some g => do
      let (ps, bs) ← partsS P s (fun _ => e) parts.toList (s.hp.length + 1)
      if !(inOrder ps 0 && ps.length == len && ps.all (fun p => p.2.length == g.size) && decide (len * g.size ≤ 16777216) && decide (g.size ≠ 0) && g.zero.isSome) then .error "buildSlice: parts" else
      match flatK P e with
      | some (ck, wd) =>
        match bs, atomsOf ck (ps.flatMap (·.2)) with
        | [], some as => if wd = g.size then
            .ok ⟨.c (.slc s.hp.length), s.hp ++ [some (.list ck wd (.v s.ne) true)], [⟨(match ck with | .bool => .litb | _ => .lit), as, 1⟩], []⟩ else .error "buildSlice: width"
        | _, _ => .error "buildSlice: atoms"
      | none => .ok ⟨.c (.csl s.hp.length len g.size), s.hp ++ some (.cells (ps.flatMap (·.2))) :: bs, [], []⟩
  | _ => .error "buildSlice"

/-- some cells of a list's element -/
def getsI (ck : CK) (w : Nat) (a x : Atom) (ne : Nat) : Nat → Nat → List SC × List Ins
  | _, 0 => ([], [])
  | o, n + 1 =>
    let (cs, is) := getsI ck w a x (ne + 1) (o + 1) n
    (ck.sc (.v ne) :: cs, ⟨(match ck with | .bool => .getb w o | _ => .get w o), [a, x], 1⟩ :: is)

def sLoad (P : Program) (gl : Nat → Option (CK × List Int)) (s : SSt) (t : TypeId) (x : Operand) : E Res := do
  let p ← opn P s x
  match inf P t with
  | none => .error "load: type"
  | some i =>
    match p with
    | .c (.ptr b o) => do
      let cs ← cellsAt s b
      if isAggT P t then
        if o + i.size ≤ cs.length then .ok ⟨.agg ((cs.drop o).take i.size), s.hp, [], [b]⟩ else .error "load: size"
      else match cs[o]? with
        | some c => .ok ⟨.c c, s.hp, [], [b]⟩
        | none => .error "load: cell"
    | .c (.eptr b a w o) => do
      let (ck, wd, l, _) ← listAt s b
      if w ≠ wd then .error "load: width" else
      if isAggT P t then
        let (cs, is) := getsI ck w l a s.ne o i.size
        if o + i.size ≤ w then .ok ⟨.agg cs, s.hp, is, [b]⟩ else .error "load: part"
      else
        let (cs, is) := getsI ck w l a s.ne o 1
        match cs with
        | [c] => if o < w then .ok ⟨.c c, s.hp, is, [b]⟩ else .error "load: part"
        | _ => .error "load"
    | .c (.gel g a) =>
      match gl g with
      | some (.int k, l) => if isAggT P t then .error "load: global" else .ok ⟨.c (.int k (.v s.ne)), s.hp, [⟨.tab l, [a], 1⟩], []⟩
      | _ => .error "load: no table"
    | _ => .error "load: no pointer"

/-- some cells laid over a list's element -/
def setsI (ck : CK) (w : Nat) (x : Atom) : List SC → Nat → Atom → Nat → Option (Atom × List Ins)
  | [], _, l, _ => some (l, [])
  | c :: cs, o, l, ne =>
    match ck, c with
    | .int k, .int k' a => if k = k' then
        (match setsI ck w x cs (o + 1) (.v ne) (ne + 1) with
        | some (r, is) => some (r, ⟨.set w o, [l, x, a], 1⟩ :: is)
        | none => none) else none
    | .bool, .bool a =>
        (match setsI ck w x cs (o + 1) (.v ne) (ne + 1) with
        | some (r, is) => some (r, ⟨.setb w o, [l, x, a], 1⟩ :: is)
        | none => none)
    | _, _ => none

def setAt (hp : List (Option SB)) (b : Nat) (sb : SB) : List (Option SB) := hp.set b (some sb)

def sStore (P : Program) (s : SSt) (t : TypeId) (x y : Operand) : E Res := do
  let p ← opn P s x
  let (v, bs) ← opnd P s t y
  match inf P t, v.cells with
  | some i, some l =>
    if l.length ≠ i.size ∨ l.any (· == .any) then .error "store: size" else
    match p with
    | .c (.ptr b o) => do
      let cs ← cellsAt s b
      if o + l.length ≤ cs.length then .ok ⟨.c .any, setAt s.hp b (.cells (cs.take o ++ l ++ cs.drop (o + l.length))) ++ bs, [], [b]⟩ else .error "store: place"
    | .c (.eptr b a w o) => do
      let (ck, wd, c, rw) ← listAt s b
      if !(rw && w == wd && decide (o + l.length ≤ w) && !l.isEmpty && bs.isEmpty) then .error "store: list" else
      match setsI ck w a l o c s.ne with
      | some (r, is) => .ok ⟨.c .any, setAt s.hp b (.list ck wd r true), is, [b]⟩
      | none => .error "store: kinds"
    | _ => .error "store: no pointer"
  | _, _ => .error "store"

def sFieldAddr (P : Program) (s : SSt) (t : TypeId) (x : Operand) (f : Nat) : E Res := do
  let p ← opn P s x
  match P.underlying t with
  | some (.struct fs) =>
    match fs[f]? with
    | some fd =>
      match inf P fd.type with
      | some i => if i.size = 0 then .error "field of no size" else
        match p with
        | .c (.ptr b o) => .ok (plain s (.c (.ptr b (o + fd.offset))))
        | .c (.eptr b a w o) => .ok (plain s (.c (.eptr b a w (o + fd.offset))))
        | _ => .error "fieldAddr: no pointer"
      | none => .error "fieldAddr: type"
    | none => .error "fieldAddr: field"
  | _ => .error "fieldAddr: struct"

def partS (P : Program) (t : TypeId) (cs : List SC) (o : Nat) : E SV :=
  match inf P t with
  | some i => if isAggT P t then (if o + i.size ≤ cs.length then .ok (.agg ((cs.drop o).take i.size)) else .error "part")
    else match cs[o]? with
      | some c => .ok (.c c)
      | none => .error "part"
  | none => .error "part: type"

def sField (P : Program) (s : SSt) (t : TypeId) (x : Operand) (f : Nat) : E Res := do
  let v ← opn P s x
  match P.underlying t, v with
  | some (.struct fs), .agg l =>
    match fs[f]? with
    | some fd => do let r ← partS P fd.type l fd.offset; .ok (plain s r)
    | none => .error "field"
  | _, _ => .error "field"

def bytesL (b : ByteArray) : List Int := b.data.toList.map fun x => (x.toNat : Int)

def sIndex (P : Program) (s : SSt) (t : TypeId) (x i : Operand) : E Res := do
  let j ← opn P s i
  match x, P.underlying t, j with
  | .const (.string b), some .string, .c (.int _ a) => .ok ⟨.c (.int .u8 (.v s.ne)), s.hp, [⟨.tab (bytesL b), [a], 1⟩], []⟩
  | _, _, _ => do
  let v ← opn P s x
  match P.underlying t, v, j with
  | some (.array len e), .agg l, .c (.int _ (.i n)) =>
    if 0 ≤ n ∧ n < len then do
      match inf P e with
      | some g => do let r ← partS P e l (n.toNat * g.size); .ok (plain s r)
      | none => .error "index: type"
    else .error "index: range"
  | _, _, _ => .error "index"

def sIndexAddr (P : Program) (gl : Nat → Option (CK × List Int)) (s : SSt) (t : TypeId) (x i : Operand) : E Res := do
  let v ← opn P s x
  let j ← opn P s i
  match j with
  | .c (.int _ a) =>
    match P.underlying t with
    | some (.slice e) =>
      match inf P e with
      | none => .error "indexAddr: type"
      | some g =>
        match v with
        | .c (.slc b) => do
          let (_, wd, l, _) ← listAt s b
          if wd = g.size ∧ wd ≠ 0 then .ok ⟨.c (.eptr b a wd 0), s.hp, [⟨.chk wd, [l, a], 0⟩], [b]⟩ else .error "indexAddr: width"
        | .c (.sub b lo n) => do
          let (_, wd, _, _) ← listAt s b
          if wd = g.size ∧ wd ≠ 0 then .ok ⟨.c (.eptr b (.v s.ne) wd 0), s.hp, [⟨.chkn, [n, a], 0⟩, ⟨.addi, [lo, a], 1⟩], [b]⟩ else .error "indexAddr: width"
        | .c (.csl b n w) =>
          match a with
          | .i m => if 0 ≤ m ∧ m < n ∧ w = g.size then .ok (plain s (.c (.ptr b (m.toNat * w)))) else .error "indexAddr: range"
          | _ => .error "indexAddr: an index that isn't known"
        | _ => .error "indexAddr: slice"
    | some (.array len e) =>
      match inf P e with
      | none => .error "indexAddr: type"
      | some g =>
        match v, a with
        | .c (.ptr b o), .i m => if 0 ≤ m ∧ m < len then .ok (plain s (.c (.ptr b (o + m.toNat * g.size)))) else .error "indexAddr: range"
        | .c (.gptr q), a => if g.size = 1 ∧ (gl q).isSome then .ok ⟨.c (.gel q a), s.hp, [⟨.chkn, [.i len, a], 0⟩], []⟩ else .error "indexAddr: table"
        | _, _ => .error "indexAddr: array"
    | _ => .error "indexAddr"
  | _ => .error "indexAddr: index"

def sExtract (P : Program) (s : SSt) (x : Operand) (i : Nat) : E Res := do
  let v ← opn P s x
  match v with
  | .tup l => match l[i]? with
    | some c => if c.agg then .ok (plain s (.agg c.cs)) else (match c.cs with | [y] => .ok (plain s (.c y)) | _ => .error "extract")
    | none => .error "extract"
  | _ => .error "extract"

def sNilCheck (P : Program) (s : SSt) (x : Operand) : E Res := do
  let v ← opn P s x
  match v with
  | .c (.ptr b o) => .ok (plain s (.c (.ptr b o)))
  | .c (.eptr b a w o) => .ok (plain s (.c (.eptr b a w o)))
  | _ => .error "nilCheck"

def isCmp : BinOp → Bool
  | .eql | .neq | .lss | .leq | .gtr | .geq => true
  | _ => false

def isShift : BinOp → Bool
  | .shl | .shr => true
  | _ => false

/-- a struct of whole numbers, which the model compares field by field -/
def eqFields (P : Program) (t : TypeId) (n : Nat) : Bool :=
  match P.underlying t with
  | some (.struct fs) => fs.size == n && !P.stoodInHeld t && (fs.toList.zipIdx.all fun (f, i) => f.name != "_" && f.offset == i &&
      (match P.underlying f.type with | some (.int _) => true | _ => false) && !isAggT P f.type)
  | _ => false

def eqChain (ne : Nat) (acc : Atom) : List SC → List SC → Option (Atom × List Ins)
  | [], [] => some (acc, [])
  | .int k a :: l, .int k' b :: m => if k = k' then
      (match eqChain (ne + 2) (.v (ne + 1)) l m with
      | some (r, is) => some (r, ⟨.cmp .eql, [a, b], 1⟩ :: ⟨.band, [acc, .v ne], 1⟩ :: is)
      | none => none) else none
  | _, _ => none

def sBin (P : Program) (s : SSt) (op : BinOp) (t : TypeId) (x y : Operand) : E Res := do
  let u ← opn P s x
  let v ← opn P s y
  match u, v with
  | .c (.int k a), .c (.int k' b) =>
    if isShift op then
      let (r, is) := prim1 s.ne (.bin op k) [a, b]
      .ok ⟨.c (.int k r), s.hp, is, []⟩
    else if k ≠ k' then .error "binOp: kinds"
    else if isCmp op then
      let (r, is) := prim1 s.ne (.cmp op) [a, b]
      .ok ⟨.c (.bool r), s.hp, is, []⟩
    else
      let (r, is) := prim1 s.ne (.bin op k) [a, b]
      .ok ⟨.c (.int k r), s.hp, is, []⟩
  | .c (.bool a), .c (.bool b) =>
    match op, P.underlying t with
    | .eql, some .bool => let (r, is) := prim1 s.ne .beq [a, b]; .ok ⟨.c (.bool r), s.hp, is, []⟩
    | .neq, some .bool => let (r, is) := prim1 s.ne .bne [a, b]; .ok ⟨.c (.bool r), s.hp, is, []⟩
    | _, _ => .error "binOp: bools"
  | .c .nilp, .c .nilp =>
    match op, P.underlying t with
    | .eql, some (.pointer _) => .ok (plain s (.c (.bool (.b true))))
    | .neq, some (.pointer _) => .ok (plain s (.c (.bool (.b false))))
    | _, _ => .error "binOp: pointers"
  | .c (.ptr _ _), .c .nilp =>
    match op, P.underlying t with
    | .eql, some (.pointer _) => .ok (plain s (.c (.bool (.b false))))
    | .neq, some (.pointer _) => .ok (plain s (.c (.bool (.b true))))
    | _, _ => .error "binOp: pointers"
  | .agg l, .agg m =>
    if eqFields P t l.length && l.length == m.length && !P.eqGuardType P.depth t then
      match eqChain s.ne (.b true) l m with
      | some (r, is) =>
        match op with
        | .eql => .ok ⟨.c (.bool r), s.hp, is, []⟩
        | .neq => .ok ⟨.c (.bool (.v (s.ne + insN is))), s.hp, is ++ [⟨.bnot, [r], 1⟩], []⟩
        | _ => .error "binOp: structs"
      | none => .error "binOp: structs"
    else .error "binOp: struct"
  | _, _ => .error "binOp"

def sUn (P : Program) (s : SSt) (op : UnOp) (x : Operand) : E Res := do
  let u ← opn P s x
  match op, u with
  | .not, .c (.bool a) => let (r, is) := prim1 s.ne .bnot [a]; .ok ⟨.c (.bool r), s.hp, is, []⟩
  | .neg, .c (.int k a) => let (r, is) := prim1 s.ne (.neg k) [a]; .ok ⟨.c (.int k r), s.hp, is, []⟩
  | .xor, .c (.int k a) => let (r, is) := prim1 s.ne (.inv k) [a]; .ok ⟨.c (.int k r), s.hp, is, []⟩
  | _, _ => .error "unOp"

def sConvert (P : Program) (s : SSt) (src dst : TypeId) (x : Operand) : E Res := do
  let u ← opn P s x
  match P.underlying src, P.underlying dst, u with
  | some _, some (.int k), .c (.int _ a) => let (r, is) := prim1 s.ne (.conv k) [a]; .ok ⟨.c (.int k r), s.hp, is, []⟩
  | _, _, _ => .error "convert"

def cpOf : SV → E Cp
  | .c (.int k a) => .ok (.int k a)
  | .c (.bool a) => .ok (.bool a)
  | .c (.str a) => .ok (.str a)
  | .c (.ptr b o) => .ok (.ptr b o)
  | _ => .error "captured"

def cpsOf (P : Program) (s : SSt) : List Operand → E (List Cp)
  | [] => .ok []
  | x :: l => do
    let v ← opn P s x
    let c ← cpOf v
    let r ← cpsOf P s l
    .ok (c :: r)

def sMakeFunc (P : Program) (s : SSt) (f : Fn) (first cap : Array Operand) : E Res := do
  match f with
  | .func f => do
    let a ← cpsOf P s first.toList
    let b ← cpsOf P s cap.toList
    .ok (plain s (.c (.fn f a b)))
  | _ => .error "makeFunc"

def sMakeSlice (P : Program) (s : SSt) (t : TypeId) (len cap : Operand) : E Res := do
  let u ← opn P s len
  let v ← opn P s cap
  match listT P t, u, v with
  | some (ck, wd), .c (.int .i64 a), .c (.int .i64 b) =>
    .ok ⟨.c (.slc s.hp.length), s.hp ++ [some (.list ck wd (.v s.ne) true)], [⟨.mk wd, [a, b], 1⟩], []⟩
  | _, _, _ => .error "makeSlice"

def bound (P : Program) (s : SSt) (d : Atom) : Option Operand → E Atom
  | none => .ok d
  | some x => do
    let v ← opn P s x
    match v with
    | .c (.int _ a) => .ok a
    | _ => .error "slice: bound"

def sSlice (P : Program) (s : SSt) (t : TypeId) (x : Operand) (lo hi mx : Option Operand) : E Res := do
  let v ← opn P s x
  match P.underlying t with
  | some (.slice e) =>
    match inf P e with
    | none => .error "slice: type"
    | some g =>
      match v with
      | .c (.slc b) => do
        let (_, wd, l, _) ← listAt s b
        if wd ≠ g.size ∨ wd = 0 then .error "slice: width" else do
        let ln := Atom.v s.ne
        let a ← bound P s (.i 0) lo
        let h ← bound P s ln hi
        match mx with
        | none => .ok ⟨.c (.sub b a (.v (s.ne + 1))), s.hp, [⟨.len wd, [l], 1⟩, ⟨.rng, [a, h, ln], 1⟩], [b]⟩
        | some _ => do
          let m ← bound P s ln mx
          if hi.isNone then .error "slice: max" else
          .ok ⟨.c (.sub b a (.v (s.ne + 1))), s.hp, [⟨.len wd, [l], 1⟩, ⟨.rng, [a, h, ln], 1⟩, ⟨.rng, [h, m, ln], 1⟩], [b]⟩
      | .c (.sub b lo0 n0) => do
        let (_, wd, _, _) ← listAt s b
        if wd ≠ g.size ∨ wd = 0 then .error "slice: width" else do
        let a ← bound P s (.i 0) lo
        let h ← bound P s n0 hi
        match mx with
        | none => .ok ⟨.c (.sub b (.v (s.ne + 1)) (.v s.ne)), s.hp, [⟨.rng, [a, h, n0], 1⟩, ⟨.addi, [lo0, a], 1⟩], [b]⟩
        | some _ => .error "slice: max of a part"
      | _ => .error "slice: of what"
  | _ => .error "slice"

end Gm

/- The static side of calls, regions and code: a function's text becomes a term. -/
namespace Gm
open Go

/-! ### matching: a search, whose find is checked -/
def setA (as : List (Option Atom)) (t a : Atom) : List (Option Atom) :=
  match t with
  | .v j => as.set j (some a)
  | _ => as

def blkAtom : SB → Option Atom
  | .list _ _ a _ => some a
  | _ => none

def findP (as : List (Option Atom)) (bl : List BM) (work : List (Nat × Nat)) : List Cp → List Cp → List (Option Atom) × List (Nat × Nat)
  | .int _ t :: l, .int _ a :: m => findP (setA as t a) bl work l m
  | .bool t :: l, .bool a :: m => findP (setA as t a) bl work l m
  | .str t :: l, .str a :: m => findP (setA as t a) bl work l m
  | .ptr b _ :: l, .ptr b' _ :: m => findP as bl ((b, b') :: work) l m
  | _, _ => (as, work)

/-- links of two rows of cells: atoms are set, blocks are put on the list -/
def findL (as : List (Option Atom)) (bl : List BM) (work : List (Nat × Nat)) (nils : List Nat) : List SC → List SC → List (Option Atom) × List (Nat × Nat) × List Nat
  | t :: l, a :: m =>
    match t, a with
    | .int _ t, .int _ a => findL (setA as t a) bl work nils l m
    | .bool t, .bool a => findL (setA as t a) bl work nils l m
    | .str t, .str a => findL (setA as t a) bl work nils l m
    | .ptr b _, .ptr b' _ => findL as bl ((b, b') :: work) nils l m
    | .slc b, .slc b' => findL as bl ((b, b') :: work) nils l m
    | .slc b, .nils => findL as bl work (b :: nils) l m
    | .sub b lo n, .sub b' lo' n' => findL (setA (setA as lo lo') n n') bl ((b, b') :: work) nils l m
    | .csl b _ _, .csl b' _ _ => findL as bl ((b, b') :: work) nils l m
    | .fn _ f c, .fn _ f' c' =>
      let (as, work) := findP as bl work f f'
      let (as, work) := findP as bl work c c'
      findL as bl work nils l m
    | _, _ => findL as bl work nils l m
  | _, _ => (as, work, nils)

def SV.row : SV → List SC
  | .c x => [x]
  | .agg l => l
  | .tup l => l.flatMap (·.cs)

def rowsOf : List SV → List SV → List SC × List SC
  | t :: l, a :: m =>
    let (x, y) := rowsOf l m
    match t with
    | .c .any => (x, y)
    | _ => if t.row.length == a.row.length then (t.row ++ x, a.row ++ y) else (x, y)
  | _, _ => ([], [])

def findW (th ah : List (Option SB)) : Nat → List (Option Atom) → List BM → List (Nat × Nat) → List (Option Atom) × List BM
  | 0, as, bl, _ => (as, bl)
  | _ + 1, as, bl, [] => (as, bl)
  | n + 1, as, bl, (b, b') :: work =>
    match bm bl b with
    | .no =>
      let bl := bl.set b (.blk b')
      match hpf th b, hpf ah b' with
      | some (.cells cs), some (.cells ds) =>
        let (as, work, nils) := findL as bl work [] cs ds
        let bl := nils.foldl (fun bl c => match hpf th c with | some (.list _ wd _ _) => bl.set c (.nil wd) | _ => bl) bl
        let as := nils.foldl (fun as c => match hpf th c with | some (.list _ _ t _) => setA as t .nil | _ => as) as
        findW th ah n as bl work
      | some (.list _ _ t _), some (.list _ _ a _) => findW th ah n (setA as t a) bl work
      | _, _ => findW th ah n as bl work
    | _ => findW th ah n as bl work

def allSome : List (Option Atom) → Option (List Atom)
  | [] => some []
  | some a :: l => match allSome l with
    | some r => some (a :: r)
    | none => none
  | none :: _ => none

/-- a shape that others are brought to -/
structure Tgt where
  tm : List SV
  hp : List (Option SB)
  np : Nat
  deriving Inhabited, Repr

def search (g : Tgt) (tm : List SV) (hp : List (Option SB)) (npin : Nat) : Option (List BM × List Atom) :=
  let (ts, as) := rowsOf g.tm tm
  let bl := List.replicate g.hp.length BM.no
  let (at_, work, nils) := findL (List.replicate g.np none) bl ((List.range npin).map fun b => (b, b)) [] ts as
  let bl := nils.foldl (fun bl c => match hpf g.hp c with | some (.list _ wd _ _) => bl.set c (.nil wd) | _ => bl) bl
  let at_ := nils.foldl (fun as c => match hpf g.hp c with | some (.list _ _ t _) => setA as t .nil | _ => as) at_
  let (at_, bl) := findW g.hp hp 4096 at_ bl work
  match allSome at_ with
  | some as => some (bl, as)
  | none => none

def pinOk (npin : Nat) (bl : List BM) : Bool := (List.range npin).all fun b => bm bl b == .blk b

def dbg : Bool := false
/-- a state is brought to a shape: the atoms that it is told by -/
def fit (g : Tgt) (tm : List SV) (hp : List (Option SB)) (npin : Nat) : E (List BM × List Atom) :=
  match search g tm hp npin with
  | none => .error ("fit: an atom is not found" ++ (if dbg then " tgt " ++ toString (repr g) ++ " tm " ++ toString (repr tm) ++ " hp " ++ toString (repr hp) else ""))
  | some (bl, as) =>
    if as.length != g.np then .error "fit: atoms"
    else if bl.length != g.hp.length then .error "fit: blocks"
    else if !pinOk npin bl then .error "fit: pins"
    else if !fitVs bl as g.tm tm then .error "fit: values"
    else if !fitHs g.hp hp bl as then .error "fit: heap"
    else .ok (bl, as)

/-! ### a shape made of a state: what lives, with an atom of its own for each number -/
def genA (n : Nat) : Atom × Nat := (.v n, n + 1)

def genP (n : Nat) : List Cp → List Cp × Nat
  | [] => ([], n)
  | c :: l =>
    match c with
    | .int k _ => let (r, m) := genP (n + 1) l; (.int k (.v n) :: r, m)
    | .bool _ => let (r, m) := genP (n + 1) l; (.bool (.v n) :: r, m)
    | .str _ => let (r, m) := genP (n + 1) l; (.str (.v n) :: r, m)
    | .ptr b o => let (r, m) := genP n l; (.ptr b o :: r, m)

/-- what a shape is made with: the next atom, the next block, the blocks that parts of lists become -/
structure Gn where
  n : Nat
  nb : Nat
  ex : List (Option SB)

def genL (hp : List (Option SB)) (g : Gn) : List SC → List SC × Gn
  | [] => ([], g)
  | c :: l =>
    match c with
    | .int k _ => let (r, m) := genL hp { g with n := g.n + 1 } l; (.int k (.v g.n) :: r, m)
    | .bool _ => let (r, m) := genL hp { g with n := g.n + 1 } l; (.bool (.v g.n) :: r, m)
    | .str _ => let (r, m) := genL hp { g with n := g.n + 1 } l; (.str (.v g.n) :: r, m)
    | .sub b _ _ => match hpf hp b with
      | some (.list ck wd _ _) => let (r, m) := genL hp ⟨g.n + 1, g.nb + 1, g.ex ++ [some (.list ck wd (.v g.n) false)]⟩ l; (.slc g.nb :: r, m)
      | _ => let (r, m) := genL hp g l; (.any :: r, m)
    | .eptr _ _ _ _ => let (r, m) := genL hp g l; (.any :: r, m)
    | .gel _ _ => let (r, m) := genL hp g l; (.any :: r, m)
    | .fn f a b => let (a, n) := genP g.n a; let (b, n) := genP n b; let (r, m) := genL hp { g with n := n } l; (.fn f a b :: r, m)
    | c => let (r, m) := genL hp g l; (c :: r, m)

def gen1s (hp : List (Option SB)) (g : Gn) : List S1 → List S1 × Gn
  | [] => ([], g)
  | c :: l => let (x, g) := genL hp g c.cs; let (r, g) := gen1s hp g l; (⟨c.agg, x⟩ :: r, g)

def genV (hp : List (Option SB)) (g : Gn) : SV → SV × Gn
  | .c x => match genL hp g [x] with
    | ([y], m) => (.c y, m)
    | _ => (.c .any, g)
  | .agg l => let (r, m) := genL hp g l; (.agg r, m)
  | .tup l => let (r, m) := gen1s hp g l; (.tup r, m)

def genTm (hp : List (Option SB)) (lv kp : Nat) : Nat → Gn → List SV → List SV × Gn
  | _, g, [] => ([], g)
  | i, g, v :: l =>
    if lv.testBit i then
      let (w, g) := if kp.testBit i then (match v with | .c (.int _ (.i _)) => (v, g) | .c (.bool (.b _)) => (v, g) | v => genV hp g v) else genV hp g v
      let (r, g) := genTm hp lv kp (i + 1) g l
      (w :: r, g)
    else
      let (r, g) := genTm hp lv kp (i + 1) g l
      (.c .any :: r, g)

def idsP : List Cp → Nat → Nat
  | [], m => m
  | .ptr b _ :: l, m => idsP l (m ||| 1 <<< b)
  | _ :: l, m => idsP l m

def idsL : List SC → Nat → Nat
  | [], m => m
  | c :: l, m =>
    match c with
    | .ptr b _ | .eptr b _ _ _ | .slc b | .sub b _ _ | .csl b _ _ => idsL l (m ||| 1 <<< b)
    | .fn _ a b => idsL l (idsP b (idsP a m))
    | _ => idsL l m

def idsTm (l : List SV) (m : Nat) : Nat := l.foldl (fun m v => idsL v.row m) m

/-- the blocks that are reached -/
def reachM (hp : List (Option SB)) : Nat → Nat → Nat
  | 0, m => m
  | n + 1, m =>
    let m' := (hp.zipIdx.foldl (fun acc (b, i) => if m.testBit i then (match b with | some (.cells cs) => idsL cs acc | _ => acc) else acc) m)
    if m' = m then m else reachM hp n m'

/-- cells whose constants stay -/
def genK (hp : List (Option SB)) (g : Gn) : List SC → List SC × Gn
  | [] => ([], g)
  | c :: l =>
    match c with
    | .int _ (.i _) | .bool (.b _) => let (r, g) := genK hp g l; (c :: r, g)
    | c => let (x, g) := genL hp g [c]; let (r, g) := genK hp g l; (x ++ r, g)

def genHp (hp : List (Option SB)) (keep dem kb : Nat) : Nat → Gn → List (Option SB) → List (Option SB) × Gn
  | _, g, [] => ([], g)
  | i, g, b :: l =>
    if keep.testBit i then
      match b with
      | some (.cells cs) => let (cs, g) := if kb.testBit i then genK hp g cs else genL hp g cs; let (r, g) := genHp hp keep dem kb (i + 1) g l; (some (.cells cs) :: r, g)
      | some (.list ck wd _ rw) => let (r, m) := genHp hp keep dem kb (i + 1) { g with n := g.n + 1 } l; (some (.list ck wd (.v g.n) (rw && !dem.testBit i)) :: r, m)
      | none => let (r, g) := genHp hp keep dem kb (i + 1) g l; (none :: r, g)
    else let (r, g) := genHp hp keep dem kb (i + 1) g l; (none :: r, g)

/-- cells that are let go: of the block that a slot points at -/
def forget (s : SSt) : List (Nat × Nat) → SSt
  | [] => s
  | (t, i) :: l => match s.tm[t]? with
    | some (.c (.ptr b _)) => match hpf s.hp b with
      | some (.cells cs) => forget { s with hp := s.hp.set b (some (.cells (cs.set i .any))) } l
      | _ => forget s l
    | _ => forget s l

/-- the shape at a place where ways meet: lv: which slots live; dem: slots whose lists are not written any more -/
def genT (s : SSt) (lv npin dem kp : Nat) (fg : List (Nat × Nat)) (kb : List Nat := []) : Tgt :=
  let s := forget s fg
  let (tm, g) := genTm s.hp lv kp 0 ⟨0, s.hp.length, []⟩ s.tm
  let keep := reachM s.hp 64 (idsTm tm 0 ||| (2 ^ npin - 1))
  let dm := if dem = 0 then 0 else reachM s.hp 64 (idsTm ((genTm s.hp dem 0 0 ⟨0, s.hp.length, []⟩ s.tm).1) 0)
  let km := kb.foldl (fun m t => match s.tm[t]? with | some (.c (.ptr b _)) => m ||| 1 <<< b | _ => m) 0
  let (hp, g) := genHp s.hp keep dm km 0 g s.hp
  ⟨tm, hp ++ g.ex, g.n⟩

def Tgt.st (g : Tgt) : SSt := ⟨g.tm, g.hp, g.np⟩

/-! ### calls -/
def renA (d : Nat) : Atom → Atom
  | .v i => .v (d + i)
  | a => a

def renP (f : Nat → Nat) (g : Atom → Atom) : Cp → Cp
  | .int k a => .int k (g a)
  | .bool a => .bool (g a)
  | .str a => .str (g a)
  | .ptr b o => .ptr (f b) o

def renC (f : Nat → Nat) (g : Atom → Atom) : SC → SC
  | .int k a => .int k (g a)
  | .bool a => .bool (g a)
  | .str a => .str (g a)
  | .ptr b o => .ptr (f b) o
  | .eptr b a w o => .eptr (f b) (g a) w o
  | .slc b => .slc (f b)
  | .sub b lo n => .sub (f b) (g lo) (g n)
  | .csl b n w => .csl (f b) n w
  | .fn h a c => .fn h (a.map (renP f g)) (c.map (renP f g))
  | .gel h a => .gel h (g a)
  | c => c

def ren1 (f : Nat → Nat) (g : Atom → Atom) (s : S1) : S1 := ⟨s.agg, s.cs.map (renC f g)⟩

def renV (f : Nat → Nat) (g : Atom → Atom) : SV → SV
  | .c x => .c (renC f g x)
  | .agg l => .agg (l.map (renC f g))
  | .tup l => .tup (l.map (ren1 f g))

def renB (f : Nat → Nat) (g : Atom → Atom) : SB → SB
  | .cells cs => .cells (cs.map (renC f g))
  | .list ck wd a rw => .list ck wd (g a) rw

/-- parts of lists that are handed on become lists of their own, to be read -/
def viewC (s : SSt) (c : SC) : E (SC × SSt × List Ins × List Nat) :=
  match c with
  | .sub b lo n => do
    let (ck, wd, a, _) ← listAt s b
    .ok (.slc s.hp.length, { s with hp := s.hp.set b (some (.list ck wd a false)) ++ [some (.list ck wd (.v s.ne) false)], ne := s.ne + 1 }, [⟨.sl wd, [a, lo, n], 1⟩], [b])
  | c => .ok (c, s, [], [])

def viewL (s : SSt) : List SC → E (List SC × SSt × List Ins × List Nat)
  | [] => .ok ([], s, [], [])
  | c :: l => do
    let (c, s, is, r) ← viewC s c
    let (l, s, js, r') ← viewL s l
    .ok (c :: l, s, is ++ js, r ++ r')

def viewV (s : SSt) (v : SV) : E (SV × SSt × List Ins × List Nat) :=
  match v with
  | .c x => do let (x, r) ← viewC s x; .ok (.c x, r)
  | .agg l => do let (l, r) ← viewL s l; .ok (.agg l, r)
  | .tup _ => .error "view"

def viewVs (s : SSt) : List SV → E (List SV × SSt × List Ins × List Nat)
  | [] => .ok ([], s, [], [])
  | v :: l => do
    let (v, s, is, r) ← viewV s v
    let (l, s, js, r') ← viewVs s l
    .ok (v :: l, s, is ++ js, r ++ r')

/-- operands, each with its type -/
def opnds (P : Program) (s : SSt) : List Operand → List TypeId → E (List SV × SSt)
  | [], _ => .ok ([], s)
  | x :: l, ts => do
    let (v, bs) ← opnd P s (ts.headD 0) x
    let (r, s) ← opnds P { s with hp := s.hp ++ bs } l ts.tail
    .ok (v :: r, s)

def outIds (sg : Sig) (bl : List BM) (base : Nat) : Nat → Nat := fun c => if c < sg.heap.length then (match bm bl c with | .blk x => x | _ => 0) else base + (c - sg.heap.length)

/-- is this block one of those that the call sees? -/
def seen (sg : Sig) (bl : List BM) (x : Nat) (q : SB → Bool) (b : Nat) : Bool :=
  match hpf sg.heap b with
  | some t => bm bl b == .blk x && q t
  | none => false

def weakB : SB → SB
  | .list ck wd a _ => .list ck wd a false
  | b => b

/-- lists that the answer holds and that are only read: they may lie in lists that were lent -/
def leaks (sg : Sig) : Bool := sg.out.any fun o => match o with
  | some o => !o.rw
  | none => false

/-- what a call does to one of the caller's blocks: pinned ones as told, given ones are gone; lists that were lent to be read are not written any more, where the answer may hold them -/
def backAt (sg : Sig) (bl : List BM) (base d : Nat) (o : Option SB) (x : Nat) : Option SB :=
  match (List.range sg.heap.length).find? (seen sg bl x SB.rw) with
  | some b => if b < sg.npin then (hpf sg.out b).map (renB (outIds sg bl base) (renA d)) else none
  | none => if leaks sg && (List.range sg.heap.length).any (seen sg bl x (fun _ => true)) then o.map weakB else o

def goodId (sg : Sig) (b : Nat) : Bool := decide (b < sg.npin) || (decide (sg.heap.length ≤ b) && decide (b < sg.out.length))

def cpIds (q : Nat → Bool) : Cp → Bool
  | .ptr b _ => q b
  | _ => true

def scIds (q : Nat → Bool) : SC → Bool
  | .ptr b _ | .eptr b _ _ _ | .slc b | .sub b _ _ | .csl b _ _ => q b
  | .fn _ a c => a.all (cpIds q) && c.all (cpIds q)
  | _ => true

def svIds (q : Nat → Bool) : SV → Bool
  | .c x => scIds q x
  | .agg l => l.all (scIds q)
  | .tup l => l.all fun s => s.cs.all (scIds q)

def sbIds (q : Nat → Bool) : SB → Bool
  | .cells l => l.all (scIds q)
  | .list _ _ _ _ => true

/-- a shape of a function that a call can be told by -/
def wfSig (sg : Sig) : Bool :=
  decide (sg.npin ≤ sg.heap.length) && decide (sg.heap.length ≤ sg.out.length) && svIds (goodId sg) sg.res && sg.out.all (fun o => match o with | some o => sbIds (goodId sg) o | none => true) &&
  (List.range sg.npin).all (fun b => match hpf sg.heap b with | some t => t.rw | none => false) &&
  (List.range sg.heap.length).all (fun b => decide (b < sg.npin) || (hpf sg.out b).isNone)

/-- given blocks must be the caller's to give -/
def givenOk (sg : Sig) (bl : List BM) (npin : Nat) : Bool :=
  sg.heap.zipIdx.all fun (t, b) => match t with
    | some t => !t.rw || decide (b < sg.npin) || (match bm bl b with | .blk x => decide (npin ≤ x) | _ => true)
    | none => true

def blksOf (bl : List BM) (n : Nat) : List Nat := bl.filterMap fun b => match b with
  | .blk x => if x < n then some x else none
  | _ => none

def callHp (s : SSt) (sg : Sig) (bl : List BM) : List (Option SB) :=
  (s.hp.zipIdx.map fun (o, x) => backAt sg bl s.hp.length s.ne o x) ++ (sg.out.drop sg.heap.length).map (fun o => o.map (renB (outIds sg bl s.hp.length) (renA s.ne)))

def callEnt (s : SSt) (args : List SV) (sg : Sig) (i npin : Nat) : E Res := do
  let (bl, as) ← fit ⟨sg.args, sg.heap, sg.np⟩ args s.hp 0
  if !givenOk sg bl npin then .error "call: a block that isn't to give" else
  if !wfSig sg then .error "call: shape" else
  if !((List.range sg.npin).all fun b => match bm bl b with | .blk _ => true | _ => false) then .error "call: pins" else
  .ok ⟨renV (outIds sg bl s.hp.length) (renA s.ne) sg.res, callHp s sg bl, [⟨.call i, as, sg.nr⟩], blksOf bl s.hp.length⟩

def callTry (s : SSt) (args : List SV) (f npin : Nat) : Nat → List Ent → String → E Res
  | _, [], e => .error ("call of " ++ toString f ++ ": " ++ e)
  | i, e :: l, m =>
    if e.f = f then match callEnt s args e.sg i npin with
      | .ok r => .ok r
      | .error e => callTry s args f npin (i + 1) l e
    else callTry s args f npin (i + 1) l m

def sCallF (es : List Ent) (npin : Nat) (s0 s : SSt) (f : FuncId) (args : List SV) : E Res := do
  let (args, s, is, rd) ← viewVs s args
  let r ← callTry s args f npin 0 es "no such entry"
  .ok { r with ins := is ++ r.ins, rd := (rd ++ r.rd).filter (fun b => decide (b < s0.hp.length)) }

def cpC : Cp → SC
  | .int k a => .int k a
  | .bool a => .bool a
  | .str a => .str a
  | .ptr b o => .ptr b o

/-- what stands in a slice's list -/
def contentI (s : SSt) (v : SV) : E (CK × Nat × Atom × List Ins × List Nat) :=
  match v with
  | .c (.slc b) => do let (ck, wd, a, _) ← listAt s b; .ok (ck, wd, a, [], [b])
  | .c (.sub b lo n) => do let (ck, wd, a, _) ← listAt s b; .ok (ck, wd, .v s.ne, [⟨.sl wd, [a, lo, n], 1⟩], [b])
  | _ => .error "content"

def sAppend (P : Program) (npin : Nat) (s : SSt) (t : TypeId) (x y : SV) : E Res := do
  match x with
  | .c (.slc b) => do
    let (ck, wd, a, rw) ← listAt s b
    if !(rw && decide (npin ≤ b) && listT P t == some (ck, wd)) then .error "append: to a list that isn't to give" else
    match y with
    | .c .nils => .ok ⟨.c (.slc s.hp.length), s.hp.set b none ++ [some (.list ck wd a true)], [], [b]⟩
    | y => do
      let (ck', wd', c, is, rd) ← contentI s y
      if ck' ≠ ck ∨ wd' ≠ wd then .error "append: kinds" else
      .ok ⟨.c (.slc s.hp.length), s.hp.set b none ++ [some (.list ck wd (.v (s.ne + insN is)) true)], is ++ [⟨.app, [a, c], 1⟩], b :: rd⟩
  | _ => .error "append: to what"

def sLen (P : Program) (s : SSt) (t : TypeId) (x : SV) : E Res := do
  match x, P.underlying t with
  | .c (.slc b), some (.slice _) => do let (_, wd, a, _) ← listAt s b; if wd = 0 then .error "len: width" else .ok ⟨.c (.int .i64 (.v s.ne)), s.hp, [⟨.len wd, [a], 1⟩], [b]⟩
  | .c (.sub _ _ n), some (.slice _) => .ok (plain s (.c (.int .i64 n)))
  | .c (.csl _ n _), some (.slice _) => .ok (plain s (.c (.int .i64 (.i n))))
  | .c .nils, some (.slice _) => .ok (plain s (.c (.int .i64 (.i 0))))
  | _, some (.array n _) => .ok (plain s (.c (.int .i64 (.i n))))
  | _, _ => .error "len"

def minmax (s : SSt) (p : Prim) : List SV → SV → Nat → List Ins → E Res
  | [], v, _, is => .ok ⟨v, s.hp, is, []⟩
  | .c (.int k b) :: l, .c (.int k' a), ne, is =>
    if k ≠ k' then .error "min, max: kinds" else
    let (r, js) := prim1 ne p [a, b]
    minmax s p l (.c (.int k r)) (ne + insN js) (is ++ js)
  | _, _, _, _ => .error "min, max"

def sCopy (P : Program) (s : SSt) (t : TypeId) (x y : SV) : E Res := do
  match x with
  | .c (.slc b) => do
    let (ck, wd, a, rw) ← listAt s b
    let (ck', wd', c, is, rd) ← contentI s y
    if !(rw && ck == ck' && wd == wd' && listT P t == some (ck, wd)) then .error "copy" else
    let ne := s.ne + insN is
    .ok ⟨.c (.int .i64 (.v (ne + 2))), setAt s.hp b (.list ck wd (.v (ne + 4)) true),
      is ++ [⟨.len wd, [a], 1⟩, ⟨.len wd, [c], 1⟩, ⟨.mn, [.v (ne + 1), .v ne], 1⟩, ⟨.sl wd, [c, .i 0, .v (ne + 2)], 1⟩, ⟨.spl wd, [a, .i 0, .v (ne + 3)], 1⟩], b :: rd⟩
  | .c (.sub b lo n) => do
    let (ck, wd, a, rw) ← listAt s b
    let (ck', wd', c, is, rd) ← contentI s y
    if !(rw && ck == ck' && wd == wd' && listT P t == some (ck, wd)) then .error "copy" else
    let ne := s.ne + insN is
    .ok ⟨.c (.int .i64 (.v (ne + 1))), setAt s.hp b (.list ck wd (.v (ne + 3)) true),
      is ++ [⟨.len wd, [c], 1⟩, ⟨.mn, [.v ne, n], 1⟩, ⟨.sl wd, [c, .i 0, .v (ne + 1)], 1⟩, ⟨.spl wd, [a, lo, .v (ne + 2)], 1⟩], b :: rd⟩
  | _ => .error "copy"

def sClear (P : Program) (s : SSt) (t : TypeId) (x : SV) : E Res := do
  match x with
  | .c (.sub b lo n) => do
    let (ck, wd, a, rw) ← listAt s b
    if !(rw && listT P t == some (ck, wd)) then .error "clear" else
    .ok ⟨.tup [], setAt s.hp b (.list ck wd (.v s.ne) true), [⟨.zer wd, [a, lo, n], 1⟩], [b]⟩
  | _ => .error "clear"

def sCall (P : Program) (es : List Ent) (npin : Nat) (s : SSt) (c : Call) : E Res := do
  let (args, s1) ← opnds P s c.args.toList c.argTypes.toList
  let new := s1.hp.drop s.hp.length
  match c.callee with
  | .value g => do
    let v ← opn P s g
    match v with
    | .c (.fn f a b) => sCallF es npin s s1 f (a.map (fun x => .c (cpC x)) ++ args ++ b.map (fun x => .c (cpC x)))
    | _ => .error "call: of what"
  | .builtin b =>
    match c.argTypes[0]? with
    | none => .error "builtin: types"
    | some t =>
    match b, args, new with
    | .len, [x], [] => sLen P s t x
    | .append, [x, y], _ =>
      if c.argTypes != #[t, t] then .error "append: of what" else do
      let r ← sAppend P npin s1 t x y
      .ok { r with rd := r.rd.filter fun b => decide (b < s.hp.length) }
    | .min, x :: l, [] => minmax s .mn l x s.ne []
    | .max, x :: l, [] => minmax s .mx l x s.ne []
    | .copy, [x, y], [] => sCopy P s t x y
    | .clear, [x], [] => sClear P s t x
    | _, _, _ => .error "builtin"
  | _ => .error "invoke"

def stepO (P : Program) (gl : Nat → Option (CK × List Int)) (es : List Ent) (npin : Nat) (s : SSt) (o : Op) (ty : TypeId) : E Res :=
  match o with
  | .move x | .assign x => sMove P s ty x
  | .pick c a b => sPick P s c a b
  | .alloc t => sAlloc P s t
  | .box _ x => sBox P s x
  | .build t ps => sBuild P s t ps
  | .buildSlice t n ps => sBuildSlice P s t n ps
  | .load t x => sLoad P gl s t x
  | .store t x y => sStore P s t x y
  | .nilCheck x => sNilCheck P s x
  | .binOp op t x y _ => sBin P s op t x y
  | .unOp op _ x => sUn P s op x
  | .convert a b x => sConvert P s a b x
  | .makeFunc f a b => sMakeFunc P s f a b
  | .makeSlice t l c => sMakeSlice P s t l c
  | .slice t x lo hi mx => sSlice P s t x lo hi mx
  | .fieldAddr t x f => sFieldAddr P s t x f
  | .field t x f => sField P s t x f
  | .indexAddr t x i => sIndexAddr P gl s t x i
  | .index t x i => sIndex P s t x i
  | .extract x i => sExtract P s x i
  | .call c => sCall P es npin s c
  | _ => .error "operation"

/-- blocks are never taken off the list -/
def stepC (P : Program) (gl : Nat → Option (CK × List Int)) (es : List Ent) (npin : Nat) (s : SSt) (o : Op) (ty : TypeId) : E Res :=
  match stepO P gl es npin s o ty with
  | .ok r => if s.hp.length ≤ r.hp.length then .ok r else .error "blocks"
  | .error e => .error e

/-! ### regions -/
def putT (tm : List SV) (dst : Option Tmp) (v : SV) : List SV :=
  match dst with
  | some d => tm.set d v
  | none => tm

def after (s : SSt) (o : Oper) (r : Res) : SSt := ⟨putT s.tm o.dst r.val, r.hp, s.ne + insN r.ins⟩

def insT : List Ins → T → T
  | [], k => k
  | i :: l, k => .op i.p i.as i.n (insT l k)

/-- a guard: known, or an atom to be asked -/
inductive Gd where
  | go | skip | ask (a : Atom) (want : Bool) | bad
  deriving Inhabited

def guardS (ops : Array Oper) (s : SSt) (o : Oper) : Gd :=
  match o.guard with
  | none => .go
  | some (j, want) =>
    match (ops[j]?).bind (·.dst) with
    | none => .bad
    | some d => match s.tm[d]? with
      | some (.c (.bool (.b x))) => if x = want then .go else .skip
      | some (.c (.bool a)) => .ask a want
      | some (.tup []) => .skip
      | _ => .bad

def subC (a : Atom) (x : Bool) : SV → SV
  | .c (.bool b) => if b = a then .c (.bool (.b x)) else .c (.bool b)
  | v => v

/-- an atom is known now -/
def known (s : SSt) (a : Atom) (x : Bool) : SSt := { s with tm := s.tm.map (subC a x) }

/-- what was done so far in a region: which operation, where it began, what it left -/
structure Rec where
  i : Nat
  s : SSt
  r : Option Res
  deriving Inhabited

def tmpsOf (l : List Operand) : List Tmp := l.filterMap fun | .tmp t => some t | _ => none

/-- the slots that an operation looks at -/
def looks_ (ops : Array Oper) (o : Oper) : List Tmp :=
  tmpsOf o.op.operands.toList ++ (match o.guard with
    | some (j, _) => ((ops[j]?).bind (·.dst)).toList
    | none => [])

/-- the blocks that a step turned, or made -/
def touched (s : SSt) (r : Option Res) : List Nat :=
  match r with
  | none => []
  | some r => (List.range r.hp.length).filter fun b => !(hpf s.hp b == hpf r.hp b) || decide (s.hp.length ≤ b)

def rdOf (r : Option Res) : List Nat :=
  match r with
  | none => []
  | some r => r.rd

/-- two operations whose order is open don't meet -/
def free (ops : Array Oper) (x y : Rec) : Bool :=
  match ops[x.i]?, ops[y.i]? with
  | some o, some p =>
    (match o.dst with | some d => !(looks_ ops p).contains d && p.dst != some d | none => true) &&
    (match p.dst with | some d => !(looks_ ops o).contains d | none => true) &&
    (let tx := touched x.s x.r; let ty := touched y.s y.r
     tx.all (fun b => !ty.contains b && !(rdOf y.r).contains b) && ty.all (fun b => !(rdOf x.r).contains b))
  | _, _ => false

def freeAll (ops : Array Oper) (bits : Array Nat) : List Rec → Bool
  | [] => true
  | x :: l => l.all (fun y => (bits.getD y.i 0).testBit x.i || free ops x y) && freeAll ops bits l

/-- hints, unproved: loops to be unrolled; lists that are only read from a place on; cells that are let go; values to be parted by; may a return that doesn't fit fail? -/
structure Hints where
  un : List Nat := []
  dem : List (Nat × Nat) := []
  fg : List (Nat × Nat × Nat) := []
  split : List (Nat × Nat) := []
  kp : List Nat := []
  kb : List Nat := []
  al : List Nat := []
  fr : Bool := false
  deriving Inhabited

structure Cfg where
  P : Program
  gl : Nat → Option (CK × List Int)
  es : List Ent
  npin : Nat
  fn : Func
  sg : Sig
  h : Hints

def demOf (c : Cfg) (id : Nat) : Nat :=
  match c.h.dem.find? (·.1 == id) with
  | some p => p.2
  | none => 0

def fgOf (c : Cfg) (id : Nat) : List (Nat × Nat) := (c.h.fg.filter (·.1 == id)).map (·.2)

def genAt (c : Cfg) (s : SSt) (lv id : Nat) : Tgt := genT s (c.h.al.foldl (fun m t => m ||| 1 <<< t) lv) c.npin (demOf c id) (c.h.kp.foldl (fun m t => m ||| 1 <<< t) 0) (fgOf c id) c.h.kb

/-- the operations from one on, in the order of the text -/
def emitOps (c : Cfg) (ops : Array Oper) : List (Nat × Oper) → SSt → List Rec → (SSt → List Rec → E T) → E T
  | [], s, rs, k => k s rs
  | (i, o) :: l, s, rs, k =>
    match guardS ops s o with
    | .bad => .error "guard"
    | .skip => emitOps c ops l ⟨putT s.tm o.dst (.tup []), s.hp, s.ne⟩ (⟨i, s, none⟩ :: rs) k
    | .go => match stepC c.P c.gl c.es c.npin s o.op o.type with
      | .error e => .error (o.pos ++ " op " ++ toString i ++ ": " ++ e)
      | .ok r => do
        let t ← emitOps c ops l (after s o r) (⟨i, s, some r⟩ :: rs) k
        .ok (insT r.ins t)
    | .ask a want => do
      let s1 := known s a want
      let s0 := known s a (!want)
      let t1 ← match stepC c.P c.gl c.es c.npin s1 o.op o.type with
        | .error e => .error (o.pos ++ " op " ++ toString i ++ ": " ++ e)
        | .ok r => do
          let t ← emitOps c ops l (after s1 o r) (⟨i, s1, some r⟩ :: rs) k
          .ok (insT r.ins t)
      let t0 ← emitOps c ops l ⟨putT s0.tm o.dst (.tup []), s0.hp, s0.ne⟩ (⟨i, s0, none⟩ :: rs) k
      .ok (if want then .ite a t1 t0 else .ite a t0 t1)

/-- the state behind all operations, each guard met -/
def leafS (c : Cfg) (ops : Array Oper) : List (Nat × Oper) → SSt → E SSt
  | [], s => .ok s
  | (i, o) :: l, s =>
    match guardS ops s o with
    | .bad => .error "guard"
    | .skip => leafS c ops l ⟨putT s.tm o.dst (.tup []), s.hp, s.ne⟩
    | .go => match stepC c.P c.gl c.es c.npin s o.op o.type with
      | .error e => .error (o.pos ++ " op " ++ toString i ++ ": " ++ e)
      | .ok r => leafS c ops l (after s o r)
    | .ask a want => match stepC c.P c.gl c.es c.npin (known s a want) o.op o.type with
      | .error e => .error (o.pos ++ " op " ++ toString i ++ ": " ++ e)
      | .ok r => leafS c ops l (after (known s a want) o r)

/-- operations wait for earlier ones alone -/
def backEdges (ops : Array Oper) : Bool := ops.toList.zipIdx.all fun (o, i) => o.after.toList.all fun e => !Region.binds .any e || decide (e.on < i)

def hasAsk (ops : Array Oper) : Bool := ops.any fun o => o.guard.isSome

/-! ### what lives -/
def useM (l : List Tmp) (m : Nat) : Nat := l.foldl (fun m t => m ||| 1 <<< t) m

def liveOps (ops : Array Oper) : List Oper → Nat → Nat
  | [], m => m
  | o :: l, m =>
    let m := liveOps ops l m
    let m := match o.dst with
      | some d => if m.testBit d then m - 1 <<< d else m
      | none => m
    useM (looks_ ops o) m

inductive Lk where
  | exit (id : Nat) | back | cont
  deriving DecidableEq, Inhabited, Repr

structure Lab where
  key : Lk
  tgt : Tgt
  lv : Nat
  deriving Inhabited, Repr

def liveRes (fn : Func) : Nat := fn.results.toList.foldl (fun m r => match r with | .tmp t => m ||| 1 <<< t | .cell t _ => m ||| 1 <<< t) 0

def liveC (ret : Nat) : Code → List (Nat × Nat) → Nat → Nat
  | .skip, _, m => m
  | .label _, _, m => m
  | .region _ ops _, _, m => liveOps ops ops.toList m
  | .seq a b, ls, m => liveC ret a ls (liveC ret b ls m)
  | .cond c x y, ls, m => useM (tmpsOf [c]) (liveC ret x ls m ||| liveC ret y ls m)
  | .block id b, ls, m => liveC ret b ((id, m) :: ls) m
  | .loop b, ls, _ => liveC ret b ls (liveC ret b ls 0)
  | .exit id, ls, _ => match ls.find? (·.1 == id) with
    | some p => p.2
    | none => 0
  | .scope b, ls, m => liveC ret b ls m
  | .ret, _, _ => ret
  | _, _, m => m

/-- can it come to its end? -/
def falls : Code → Bool
  | .ret | .exit _ | .goto _ | .loop _ | .refuse _ => false
  | .seq a b => falls a && falls b
  | .cond _ x y => falls x || falls y
  | .block id b => falls b || leaves id b
  | .scope b => falls b
  | _ => true
  where leaves (id : Nat) : Code → Bool
  | .exit i => i == id
  | .seq a b => leaves id a || leaves id b
  | .cond _ x y => leaves id x || leaves id y
  | .block _ b => leaves id b
  | .loop b => leaves id b
  | .scope b => leaves id b
  | _ => false

def firstRegion : Code → Nat
  | .region id _ _ => id
  | .seq a b => match a with
    | .label _ => firstRegion b
    | .skip => firstRegion b
    | a => firstRegion a
  | .block _ b => firstRegion b
  | .loop b => firstRegion b
  | .scope b => firstRegion b
  | _ => 0

/-! ### code -/
def viewTm (s : SSt) : List SV → List SV → Nat → E (List SV × SSt × List Ins)
  | t :: ts, v :: vs, i =>
    match t, v with
    | .c .any, v => do
      let (r, s, is) ← viewTm s ts vs (i + 1)
      .ok (v :: r, s, is)
    | .c (.slc _), .c (.sub b lo n) => do
      let (x, s, is, _) ← viewV s (.c (.sub b lo n))
      let (r, s, js) ← viewTm s ts vs (i + 1)
      .ok (x :: r, s, is ++ js)
    | _, v => do
      let (r, s, is) ← viewTm s ts vs (i + 1)
      .ok (v :: r, s, is)
  | _, vs, _ => .ok (vs, s, [])

def jumpTo (c : Cfg) (l : Nat) (g : Tgt) (s : SSt) : E T := do
  let (tm, s, is) ← viewTm s g.tm s.tm 0
  match fit g tm s.hp c.npin with
  | .ok (_, as) => .ok (insT is (.jump l as))
  | .error e => .error e

def findLab (id : Nat) : List Lab → Nat → Option (Nat × Lab)
  | [], _ => none
  | l :: ls, i => if l.key = .exit id then some (i, l) else findLab id ls (i + 1)

/-- the results, as a shape -/
def resS (P : Program) (s : SSt) : ResultVar → E S1
  | .tmp t => match s.tm[t]? with
    | some (.c .any) => .error "result: unknown"
    | some (.c x) => .ok ⟨false, [x]⟩
    | some (.agg l) => .ok ⟨true, l⟩
    | _ => .error "result"
  | .cell t ty => match s.tm[t]? with
    | some (.c (.ptr b 0)) => do
      let cs ← cellsAt s b
      match inf P ty with
      | some i =>
        if isAggT P ty then (if cs.length = i.size then .ok ⟨true, cs⟩ else .error "result: size")
        else match cs with
          | [x] => .ok ⟨false, [x]⟩
          | _ => .error "result: cell"
      | none => .error "result: type"
    | _ => .error "result: cell"

def ressS (P : Program) (s : SSt) : List ResultVar → E (List S1)
  | [] => .ok []
  | r :: l => do
    let x ← resS P s r
    let xs ← ressS P s l
    .ok (x :: xs)

def retV : List S1 → SV
  | [s] => if s.agg then .agg s.cs else (match s.cs with | [x] => .c x | _ => .c .any)
  | l => .tup l

def view1s (s : SSt) : List S1 → E (List S1 × SSt × List Ins)
  | [] => .ok ([], s, [])
  | x :: l => do
    let (cs, s, is, _) ← viewL s x.cs
    let (r, s, js) ← view1s s l
    .ok (⟨x.agg, cs⟩ :: r, s, is ++ js)

def emitRet (c : Cfg) (s : SSt) : E T := do
  let rs ← ressS c.P s c.fn.results.toList
  let (rs, s, is) ← view1s s rs
  match fit ⟨[c.sg.res], c.sg.out, c.sg.nr⟩ [retV rs] s.hp c.npin with
  | .ok (_, as) => .ok (insT is (.ret as))
  | .error e => if c.h.fr then .ok .fail else .error ("ret: " ++ e)

def condAtom (s : SSt) : Operand → E Atom
  | .tmp t => match s.tm[t]? with
    | some (.c (.bool a)) => .ok a
    | _ => .error "cond"
  | .const (.bool b) => .ok (.b b)
  | _ => .error "cond"

/-- rounds of a loop, one behind the other -/
def rounds (body : SSt → (SSt → E T) → E T) : Nat → SSt → E T
  | 0, _ => .error "unroll: too many rounds"
  | n + 1, s => body s (fun s => rounds body n s)

/-- may the region's order be drawn? -/
def doneR (id : Nat) (ops : Array Oper) (draw : Bool) (s : SSt) (rs : List Rec) (k : SSt → E T) : E T :=
  if draw && !(backEdges ops && freeAll ops (Region.before ops) rs.reverse) then .error ("region " ++ toString id ++ ": its order matters") else k s

def goR (c : Cfg) (id : Nat) (ops : Array Oper) (draw : Bool) (lv : Nat) (s : SSt) (k : SSt → E T) : E T :=
  let l := ops.toList.zipIdx.map fun (o, i) => (i, o)
  if hasAsk ops then do
    let s1 ← leafS c ops l s
    let g := genAt c s1 lv id
    let a ← emitOps c ops l s [] (fun s rs => doneR id ops draw s rs (jumpTo c 0 g))
    let b ← k g.st
    .ok (.seq a b)
  else emitOps c ops l s [] (fun s rs => doneR id ops draw s rs k)

def emitR (c : Cfg) (id : Nat) (ops : Array Oper) (draw : Bool) (lv : Nat) (s : SSt) (k : SSt → E T) : E T :=
  if ops.any (fun o => match o.op with | .panic _ => true | _ => false) then .ok .fail else
  match c.h.split.find? (·.1 == id) with
  | some (_, t) => match s.tm[t]? with
    | some (.c (.bool (.v x))) => do
      let t1 ← goR c id ops draw lv (known s (.v x) true) k
      let t0 ← goR c id ops draw lv (known s (.v x) false) k
      .ok (.ite (.v x) t1 t0)
    | _ => goR c id ops draw lv s k
  | none => goR c id ops draw lv s k

def emit (c : Cfg) : Code → SSt → List Lab → Nat → (SSt → E T) → E T
  | .skip, s, _, _, k => k s
  | .label _, s, _, _, k => k s
  | .region id ops draw, s, _, lv, k => emitR c id ops draw lv s k
  | .seq a b, s, ls, lv, k => emit c a s ls (liveC (liveRes c.fn) b (ls.filterMap fun l => match l.key with | .exit i => some (i, l.lv) | _ => none) lv) (fun s => emit c b s ls lv k)
  | .cond x a b, s, ls, lv, k => do
    let at_ ← condAtom s x
    match at_ with
    | .b true => emit c a s ls lv k
    | .b false => emit c b s ls lv k
    | at_ =>
      if falls a && falls b then
        let g := genAt c s lv (10000 + firstRegion a)
        let lab : Lab := ⟨.cont, g, lv⟩
        let ta ← emit c a (known s at_ true) (lab :: ls) lv (jumpTo c 0 g)
        let tb ← emit c b (known s at_ false) (lab :: ls) lv (jumpTo c 0 g)
        let tk ← k g.st
        .ok (.seq (.ite at_ ta tb) tk)
      else do
        let ta ← emit c a (known s at_ true) ls lv k
        let tb ← emit c b (known s at_ false) ls lv k
        .ok (.ite at_ ta tb)
  | .block id b, s, ls, lv, k => do
    let g := genAt c s lv (firstRegion b + 20000)
    let ta ← emit c b s (⟨.exit id, g, lv⟩ :: ls) lv (jumpTo c 0 g)
    let tk ← k g.st
    .ok (.seq ta tk)
  | .loop b, s, ls, _, _ =>
    let lsl := ls.filterMap fun l => match l.key with | .exit i => some (i, l.lv) | _ => none
    let lv := liveC (liveRes c.fn) (.loop b) lsl 0
    if c.h.un.contains (firstRegion b) then rounds (fun s k => emit c b s ls lv k) 64 s else do
      let g := genAt c s lv (firstRegion b)
      let (tm, s, is) ← viewTm s g.tm s.tm 0
      match fit g tm s.hp c.npin with
      | .error e => .error ("loop " ++ toString (firstRegion b) ++ ": " ++ e)
      | .ok (_, as) => do
        let tb ← emit c b g.st (⟨.back, g, lv⟩ :: ls) lv (jumpTo c 0 g)
        .ok (insT is (.loop as tb))
  | .scope b, s, ls, lv, k => emit c b s ls lv k
  | .exit id, s, ls, _, _ => match findLab id ls 0 with
    | some (i, l) => jumpTo c i l.tgt s
    | none => .error "exit"
  | .ret, s, _, _, _ => emitRet c s
  | _, _, _, _, _ => .error "code"

def compile (c : Cfg) : E T :=
  if !(wfSig c.sg && c.npin == c.sg.npin) then .error "shape" else
  match c.fn.body with
  | none => .error "no body"
  | some b =>
    let tm := c.sg.args ++ List.replicate (c.fn.ntmps - c.sg.args.length) (.c .any)
    emit c b ⟨tm, c.sg.heap, c.sg.np⟩ [] 0 (emitRet c)

/-! ### signatures, made of types -/
inductive Md where
  | r | w | o
  deriving DecidableEq, Inhabited, Repr

/-- what is gathered: blocks with their modes, the number of the next atom, the modes that are left -/
structure Gat where
  bs : List (SB × Md)
  n : Nat
  ms : List Md
  deriving Inhabited

def fieldTys (P : Program) (t : TypeId) : Option (List TypeId) :=
  match P.underlying t with
  | some (.struct fs) => some (fs.toList.map (·.type))
  | some (.array n e) => some (List.replicate n e)
  | _ => none

/-- the cells of a type as an argument: fresh atoms; nil: pointers are nil -/
def gatC (P : Program) (nilp : Bool) : Nat → TypeId → Gat → List SC × Gat
  | 0, _, g => ([], g)
  | d + 1, t, g =>
    match P.underlying t with
    | some (.int k) => ([.int k (.v g.n)], { g with n := g.n + 1 })
    | some .bool => ([.bool (.v g.n)], { g with n := g.n + 1 })
    | some .string => ([.str (.v g.n)], { g with n := g.n + 1 })
    | some (.slice e) => match flatK P e with
      | some (ck, wd) =>
        let m := g.ms.headD .r
        ([.slc g.bs.length], ⟨g.bs ++ [(.list ck wd (.v g.n) (m != .r), m)], g.n + 1, g.ms.tail⟩)
      | none => ([.nils], g)
    | some (.pointer e) =>
      if nilp then ([.nilp], g) else
      let b := g.bs.length
      let (cs, g) := gatC P false d e { g with bs := g.bs ++ [(.cells [], .w)] }
      ([.ptr b 0], { g with bs := g.bs.set b (.cells cs, .w) })
    | some (.struct fs) => fs.toList.foldl (fun (acc : List SC × Gat) f => let (cs, g) := gatC P false d f.type acc.2; (acc.1 ++ cs, g)) ([], g)
    | some (.array n e) => (List.replicate n e).foldl (fun (acc : List SC × Gat) e => let (cs, g) := gatC P false d e acc.2; (acc.1 ++ cs, g)) ([], g)
    | _ => ([.any], g)

def gatV (P : Program) (nilp : Bool) (t : TypeId) (g : Gat) : SV × Gat :=
  let (cs, g) := gatC P nilp 8 t g
  if isAggT P t then (.agg cs, g) else (match cs with | [x] => (.c x, g) | _ => (.c .any, g))

def gatVs (P : Program) (nils : List Nat) : Nat → List TypeId → Gat → List SV × Gat
  | _, [], g => ([], g)
  | i, t :: l, g =>
    let (v, g) := gatV P (nils.contains i) t g
    let (vs, g) := gatVs P nils (i + 1) l g
    (v :: vs, g)

/-- pinned blocks first -/
def order (ms : List Md) : List Nat :=
  let is := ms.zipIdx
  (is.filter (·.1 == .w)).map (·.2) ++ (is.filter (·.1 != .w)).map (·.2)

def posIn (l : List Nat) (x : Nat) : Nat := l.idxOf x

/-- a pinned block behind the call: new atoms; lists that were given come back as new blocks -/
def outC (ms : List Md) (pos : Nat → Nat) : List SC → Nat → List (SB × Md) → List (Nat × SB) → Nat → Nat → List SC × List (Nat × SB) × Nat × Nat
  | [], _, _, acc, n, nb => ([], acc, n, nb)
  | c :: l, i, bs, acc, n, nb =>
    match c with
    | .int k _ => let (r, x) := outC ms pos l i bs acc (n + 1) nb; (.int k (.v n) :: r, x)
    | .bool _ => let (r, x) := outC ms pos l i bs acc (n + 1) nb; (.bool (.v n) :: r, x)
    | .str _ => let (r, x) := outC ms pos l i bs acc (n + 1) nb; (.str (.v n) :: r, x)
    | .slc b =>
      if ms[b]? == some .w then let (r, x) := outC ms pos l i bs acc n nb; (.slc (pos b) :: r, x)
      else match bs[b]? with
        | some (.list ck wd _ _, m) => let (r, x) := outC ms pos l i bs (acc ++ [(nb, .list ck wd (.v n) (m == .o))]) (n + 1) (nb + 1); (.slc nb :: r, x)
        | _ => let (r, x) := outC ms pos l i bs acc n nb; (.any :: r, x)
    | c => let (r, x) := outC ms pos l i bs acc n nb; (c :: r, x)

/-- the signature of a function: which pointers are nil, the modes of the lists among its arguments, and of those in its results -/
def mkSig (P : Program) (fn : Func) (nils : List Nat) (ms rs : List Md) (caps : List (Bool × TypeId) := []) (lits : List (Nat × Atom) := []) (rv : Option SV := none) : Sig :=
  let (as, g) := gatVs P nils 0 fn.params.toList ⟨[], 0, ms⟩
  let (as, g) := caps.foldl (fun (x : List SV × Gat) c =>
    if c.1 then
      let b := x.2.bs.length
      let (cs, g) := gatC P false 8 c.2 { x.2 with bs := x.2.bs ++ [(.cells [], .w)] }
      (x.1 ++ [.c (.ptr b 0)], { g with bs := g.bs.set b (.cells cs, .w) })
    else let (v, g) := gatV P false c.2 x.2; (x.1 ++ [v], g)) (as, g)
  let mds := g.bs.map (·.2)
  let ord := order mds
  let pos := posIn ord
  let at_ : Atom → Atom := fun a => match a with
    | .v i => match lits.find? (·.1 == i) with
      | some p => p.2
      | none => .v (i - (lits.filter (fun p => decide (p.1 < i))).length)
    | a => a
  let heap := ord.map fun b => (g.bs[b]?).map fun x => renB pos at_ x.1
  let npin := (mds.filter (· == .w)).length
  -- the results
  let (vs, h) := gatVs P [] 0 fn.resultTypes.toList ⟨[], 0, rs⟩
  let base := heap.length
  let f : Nat → Nat := fun b => base + b
  let res : SV := match rv with | some v => v | none => match vs with
    | [v] => renV f id v
    | l => .tup (l.map fun v => match renV f id v with | .c x => ⟨false, [x]⟩ | .agg l => ⟨true, l⟩ | .tup _ => ⟨false, []⟩)
  let new := h.bs.map fun x => some (renB f id x.1)
  -- pinned blocks behind the call
  let (pins, acc, n, _) := (ord.take npin).foldl (fun (x : List (Option SB) × List (Nat × SB) × Nat × Nat) (b : Nat) =>
    let (l, acc, n, nb) := x
    match (g.bs[b]? : Option (SB × Md)) with
    | some (.cells cs, _) => let (r, acc, n, nb) := outC mds pos cs 0 g.bs acc n nb; (l ++ [some (.cells r)], acc, n, nb)
    | some (.list ck wd _ _, _) => (l ++ [some (.list ck wd (.v n) true)], acc, n + 1, nb)
    | none => (l ++ [none], acc, n, nb)) ([], [], h.n, base + h.bs.length)
  ⟨as.map (renV pos at_), heap, npin, g.n - lits.length, res, pins ++ List.replicate (base - npin) none ++ new ++ acc.map (fun x => some x.2), n⟩

end Gm

/- The abstract machine: a deterministic evaluator of loaded programs over abstract values (no tape, no addresses). -/
import GoSem.Dispatch
import GoSem.Machine.Frame
set_option linter.unusedSimpArgs false
set_option linter.unusedVariables false
set_option linter.unusedSectionVars false
namespace Go.AM

/-! ### tries -/
inductive Trie (α : Type) where
  | leaf
  | node (l : Trie α) (v : Option α) (r : Trie α)

def Trie.get {α : Type} : Trie α → Nat → Option α
  | .leaf, _ => none
  | .node l v r, k => cond (Nat.beq k 0) v (cond (Nat.beq (k % 2) 1) (l.get ((k - 1) / 2)) (r.get ((k - 1) / 2)))

def Trie.setF {α : Type} : Nat → Trie α → Nat → Option α → Trie α
  | 0, t, _, _ => t
  | n + 1, .leaf, k, x => cond (Nat.beq k 0) (.node .leaf x .leaf)
      (cond (Nat.beq (k % 2) 1) (.node (Trie.setF n .leaf ((k - 1) / 2) x) none .leaf) (.node .leaf none (Trie.setF n .leaf ((k - 1) / 2) x)))
  | n + 1, .node l v r, k, x => cond (Nat.beq k 0) (.node l x r)
      (cond (Nat.beq (k % 2) 1) (.node (Trie.setF n l ((k - 1) / 2) x) v r) (.node l v (Trie.setF n r ((k - 1) / 2) x)))

def Trie.set {α : Type} (t : Trie α) (k : Nat) (x : Option α) : Trie α := Trie.setF (k + 1) t k x

def Trie.tab {α : Type} : Nat → (Nat → Option α) → Trie α
  | 0, _ => .leaf
  | d + 1, f => .node (Trie.tab d fun k => f (2 * k + 1)) (f 0) (Trie.tab d fun k => f (2 * k + 2))

/-! ### values -/
structure AAddr where
  id : Nat
  idx : Nat
  off : Nat
  deriving DecidableEq, Repr, Inhabited

/-- Where a slice begins: the row, the element, the cells of an element. -/
structure SAddr where
  id : Nat
  st : Nat
  z : Nat
  deriving DecidableEq, Repr, Inhabited

inductive AV where
  | int (k : IntKind) (n : Int)
  | bool (b : Bool)
  | str (s : List Nat)
  | ptr (a : Option AAddr)
  | iptr (v : AV) (off : Nat)
  | slice (a : Option SAddr) (len : Nat) (cap : Option Nat)
  | isl (z : Nat) (xs : List AV)
  | map (r : Option Nat)
  | func (fn : Fn) (first captured : List AV)
  | nilFunc
  | iface (t : TypeId) (v : AV)
  | nilIface
  | agg (cells : List AV)
  | tuple (vs : List AV)
  deriving Repr, Inhabited

def aundef : AV := .tuple []
def AV.cells : AV → List AV
  | .agg cs => cs
  | v => [v]

def AV.atom : AV → Bool
  | .agg _ | .tuple _ => false
  | _ => true

inductive AObj where
  | arr (size : Nat) (elems : List AV)
  | map (es : List (AV × AV))
  deriving Repr, Inhabited

structure AS where
  heap : Trie AObj
  next : Nat

def AS.get (s : AS) (i : Nat) : Option AObj := s.heap.get i
def AS.put (s : AS) (i : Nat) (o : AObj) : AS := { s with heap := s.heap.set i (some o) }
def AS.kill (s : AS) (i : Nat) : AS := { s with heap := s.heap.set i none }
def AS.new (s : AS) (o : AObj) : Nat × AS := (s.next, { heap := s.heap.set s.next (some o), next := s.next + 1 })

/-! temporaries: sixteen times sixteen; beyond them a trie -/
inductive D16 where
  | d0 | d1 | d2 | d3 | d4 | d5 | d6 | d7 | d8 | d9 | da | db | dc | dd | de | df

structure N16 (α : Type) where
  c0 : α
  c1 : α
  c2 : α
  c3 : α
  c4 : α
  c5 : α
  c6 : α
  c7 : α
  c8 : α
  c9 : α
  ca : α
  cb : α
  cc : α
  cd : α
  ce : α
  cf : α

def N16.get {α : Type} : D16 → N16 α → α
  | .d0, n => n.c0
  | .d1, n => n.c1
  | .d2, n => n.c2
  | .d3, n => n.c3
  | .d4, n => n.c4
  | .d5, n => n.c5
  | .d6, n => n.c6
  | .d7, n => n.c7
  | .d8, n => n.c8
  | .d9, n => n.c9
  | .da, n => n.ca
  | .db, n => n.cb
  | .dc, n => n.cc
  | .dd, n => n.cd
  | .de, n => n.ce
  | .df, n => n.cf

def N16.set {α : Type} : D16 → N16 α → α → N16 α
  | .d0, n, x => { n with c0 := x }
  | .d1, n, x => { n with c1 := x }
  | .d2, n, x => { n with c2 := x }
  | .d3, n, x => { n with c3 := x }
  | .d4, n, x => { n with c4 := x }
  | .d5, n, x => { n with c5 := x }
  | .d6, n, x => { n with c6 := x }
  | .d7, n, x => { n with c7 := x }
  | .d8, n, x => { n with c8 := x }
  | .d9, n, x => { n with c9 := x }
  | .da, n, x => { n with ca := x }
  | .db, n, x => { n with cb := x }
  | .dc, n, x => { n with cc := x }
  | .dd, n, x => { n with cd := x }
  | .de, n, x => { n with ce := x }
  | .df, n, x => { n with cf := x }

def N16.all {α : Type} (x : α) : N16 α := N16.mk x x x x x x x x x x x x x x x x

def digitOf (m : Nat) : D16 :=
  cond (Nat.ble 8 m) (cond (Nat.ble 12 m) (cond (Nat.ble 14 m) (cond (Nat.ble 15 m) .df .de) (cond (Nat.ble 13 m) .dd .dc)) (cond (Nat.ble 10 m) (cond (Nat.ble 11 m) .db .da) (cond (Nat.ble 9 m) .d9 .d8))) (cond (Nat.ble 4 m) (cond (Nat.ble 6 m) (cond (Nat.ble 7 m) .d7 .d6) (cond (Nat.ble 5 m) .d5 .d4)) (cond (Nat.ble 2 m) (cond (Nat.ble 3 m) .d3 .d2) (cond (Nat.ble 1 m) .d1 .d0)))
/-- The lowest digit to the base of sixteen. -/
def digit (k : Nat) : D16 := digitOf (k % 16)

structure ATmps where
  n : Nat
  t : N16 (N16 AV)
  far : Trie AV

def ATmps.new (n : Nat) : ATmps := { n := n, t := N16.all (N16.all aundef), far := .leaf }
def ATmps.get (t : ATmps) (i : Nat) : AV := cond (Nat.ble 256 i) ((t.far.get i).getD aundef) (N16.get (digit i) (N16.get (digit (i / 16)) t.t))
def ATmps.put (t : ATmps) (i : Nat) (v : AV) : ATmps :=
  cond (Nat.ble 256 i) { n := t.n, t := t.t, far := t.far.set i (some v) } { n := t.n, t := N16.set (digit (i / 16)) t.t (N16.set (digit i) (N16.get (digit (i / 16)) t.t) v), far := t.far }
def ATmps.set (t : ATmps) (i : Nat) (v : AV) : ATmps := cond (Nat.blt i t.n) (t.put i v) t

/-! ### types -/
def avOf : Nat → Value → Option AV
  | 0, _ => none
  | _ + 1, .int k n => some (.int k n)
  | _ + 1, .bool b => some (.bool b)
  | _ + 1, .string s => some (.str (s.data.toList.map UInt8.toNat))
  | _ + 1, .pointer none => some (.ptr none)
  | _ + 1, .slice none 0 0 => some (.slice none 0 (some 0))
  | _ + 1, .map none => some (.map none)
  | _ + 1, .nilFunc => some .nilFunc
  | _ + 1, .nilIface => some .nilIface
  | d + 1, .agg cs => (cs.toList.mapM (avOf d)).map .agg
  | d + 1, .tuple cs => (cs.toList.mapM (avOf d)).map .tuple
  | _ + 1, _ => none

structure AField where
  type : TypeId
  offset : Nat
  blank : Bool

inductive TK where
  | bool | int (k : IntKind) | str | ptr (e : TypeId) | slice (e : TypeId) | array (n : Nat) (e : TypeId) | map (k e : TypeId)
  | struct (fs : List AField) | func | iface (ms : Bool) | other

structure TI where
  kind : TK
  size : Nat
  bytes : Nat
  zero : Option AV
  held : Bool

def TI.isAgg (t : TI) : Bool := match t.kind with | .struct _ | .array _ _ => true | _ => false

def kindOf (p : Program) (t : TypeId) : TK :=
  match p.underlying t with
  | some .bool => .bool
  | some (.int k) => .int k
  | some .string => .str
  | some (.pointer e) => .ptr e
  | some (.slice e) => .slice e
  | some (.array n e) => .array n e
  | some (.map k e) => .map k e
  | some (.struct fs) => .struct (fs.toList.map fun f => { type := f.type, offset := f.offset, blank := f.name == "_" })
  | some (.func ..) => .func
  | some (.interface ms) => .iface (!ms.isEmpty)
  | _ => .other

def tiOf (p : Program) (t : TypeId) : Option TI :=
  match p.info? t with
  | some i => some { kind := kindOf p t, size := i.size, bytes := i.bytes, zero := i.zero.bind (avOf 4), held := p.stoodInHeld t }
  | none => none

structure AProg where
  types : Trie TI
  funcs : Trie Func
  p : Program

def AProg.of (p : Program) : AProg := { types := Trie.tab 12 (tiOf p), funcs := Trie.tab 12 (fun f => p.funcs[f]?), p }
def AProg.ti (P : AProg) (t : TypeId) : Option TI := P.types.get t
def AProg.fn (P : AProg) (f : FuncId) : Option Func := P.funcs.get f

/-! ### operations -/
inductive ARes where
  | val (v : AV) (s : AS)
  | skip (s : AS)
  | enter (f : FuncId) (args : List AV)
  | defer (f : FuncId) (args : List AV)
  | yield (y : Nat) (args : List AV)
  | recover

def aconst : Value → Option AV := avOf 4

def aeval (t : ATmps) : Operand → Option AV
  | .tmp i => some (t.get i)
  | .const v => aconst v
  | .global _ => none
  | .func f => some (.func (.func f) [] [])

def wrapi (k : IntKind) (n : Int) : Int := k.wrap n

def part (P : AProg) (t : TypeId) (cs : List AV) (off : Nat) : Option AV := do
  let i ← P.ti t
  match i.kind with
  | .other => none
  | _ => if i.isAgg then some (.agg ((cs.drop off).take i.size)) else cs[off]?

/-- Whole numbers, truths, strings, and structs of such. -/
def plainTy (P : AProg) : Nat → TypeId → Bool
  | 0, _ => false
  | d + 1, t =>
    match P.ti t with
    | none => false
    | some i =>
      match i.kind with
      | .bool | .int _ | .str => true
      | .struct fs => !i.held && fs.all fun f => plainTy P d f.type
      | _ => false

def aeqFields (P : AProg) (eq : TypeId → AV → AV → Option Bool) (xs ys : List AV) : List AField → Option Bool
  | [] => some true
  | f :: fs =>
    if f.blank then aeqFields P eq xs ys fs else
    match part P f.type xs f.offset, part P f.type ys f.offset with
    | some a, some b =>
      match eq f.type a b with
      | some true => aeqFields P eq xs ys fs
      | some false => some false
      | none => none
    | _, _ => none

/-- '==' by type: what is compared must be plain. -/
def aeq (P : AProg) (s : AS) : Nat → TypeId → AV → AV → Option Bool
  | 0, _, _, _ => none
  | d + 1, t, x, y =>
    match P.ti t with
    | none => none
    | some i =>
    match i.kind, x, y with
    | .bool, .bool a, .bool b => some (a == b)
    | .int _, .int k a, .int k' b => if k = k' then some (a == b) else none
    | .str, .str a, .str b => some (a == b)
    | .ptr _, .ptr none, .ptr b => some b.isNone
    | .ptr _, .ptr (some _), .ptr none => some false
    | .ptr e, .ptr (some a), .ptr (some b) =>
      match P.ti e with
      | some j =>
        match s.get a.id, s.get b.id with
        | some (.arr y _), some (.arr z _) => if j.size ≠ 0 ∧ a.off < y ∧ b.off < z then some (decide (a = b)) else none
        | _, _ => none
      | none => none
    | .slice _, .slice none _ _, .slice b _ _ => some b.isNone
    | .slice _, .slice (some _) _ _, .slice none _ _ => some false
    | .slice _, .isl _ _, .slice none _ _ => some false
    | .slice _, .slice none _ _, .isl _ _ => some false
    | .map _ _, .map none, .map b => some b.isNone
    | .map _ _, .map (some _), .map none => some false
    | .func, .nilFunc, .nilFunc => some true
    | .func, .func .., .nilFunc => some false
    | .func, .nilFunc, .func .. => some false
    | .iface _, .iface .., .nilIface => some false
    | .iface _, .nilIface, .iface .. => some false
    | .struct fs, .agg xs, .agg ys => if plainTy P (d + 1) t then aeqFields P (aeq P s d) xs ys fs else none
    | _, _, _ => none

/-- May two nil values of an interface type be compared: where one of them is the literal nil. -/
def nilLit (P : AProg) (t : TypeId) (x y : Operand) (a b : AV) : Bool :=
  match a, b with
  | .nilIface, .nilIface =>
    (match P.ti t with | some i => (match i.kind with | .iface _ => true | _ => false) | none => false) &&
      ((match x with | .const _ => true | _ => false) || (match y with | .const _ => true | _ => false))
  | _, _ => false

def aint (op : BinOp) (k : IntKind) (a : Int) (k' : IntKind) (b : Int) : Option AV :=
  match op with
  | .shl => if b < 0 then none else some (.int k (wrapi k (a * 2 ^ (min b.toNat k.bits))))
  | .shr => if b < 0 then none else some (.int k (a.fdiv (2 ^ (min b.toNat k.bits))))
  | .add => if k = k' then some (.int k (wrapi k (a + b))) else none
  | .sub => if k = k' then some (.int k (wrapi k (a - b))) else none
  | .mul => if k = k' then some (.int k (wrapi k (a * b))) else none
  | .quo => if k = k' then (if b = 0 then none else some (.int k (wrapi k (a.tdiv b)))) else none
  | .rem => if k = k' then (if b = 0 then none else some (.int k (a.tmod b))) else none
  | .and => if k = k' then some (.int k (k.wrap (BitVec.ofInt k.bits a &&& BitVec.ofInt k.bits b).toNat)) else none
  | .or => if k = k' then some (.int k (k.wrap (BitVec.ofInt k.bits a ||| BitVec.ofInt k.bits b).toNat)) else none
  | .xor => if k = k' then some (.int k (k.wrap (BitVec.ofInt k.bits a ^^^ BitVec.ofInt k.bits b).toNat)) else none
  | .andNot => if k = k' then some (.int k (k.wrap (BitVec.ofInt k.bits a &&& ~~~BitVec.ofInt k.bits b).toNat)) else none
  | .eql => if k = k' then some (.bool (a == b)) else none
  | .neq => if k = k' then some (.bool (a != b)) else none
  | .lss => if k = k' then some (.bool (decide (a < b))) else none
  | .leq => if k = k' then some (.bool (decide (a ≤ b))) else none
  | .gtr => if k = k' then some (.bool (decide (b < a))) else none
  | .geq => if k = k' then some (.bool (decide (b ≤ a))) else none

def astr (op : BinOp) (a b : List Nat) : Option AV :=
  match op with
  | .add => if a.length + b.length ≤ 9223372036854775807 then some (.str (a ++ b)) else none
  | .eql => some (.bool (a == b))
  | .neq => some (.bool !(a == b))
  | _ => none

def abin (P : AProg) (s : AS) (op : BinOp) (t : TypeId) (x y : AV) : Option AV :=
  match x, y with
  | .int k a, .int k' b => aint op k a k' b
  | .str a, .str b => astr op a b
  | x, y =>
    match op with
    | .eql => (aeq P s 6 t x y).map .bool
    | .neq => (aeq P s 6 t x y).map fun b => .bool !b
    | _ => none

def aun (op : UnOp) (x : AV) : Option AV :=
  match op, x with
  | .neg, .int k n => some (.int k (wrapi k (0 - n)))
  | .not, .bool b => some (.bool !b)
  | _, _ => none

/-- A part of a variable: all of it must lie there. -/
def partM (P : AProg) (t : TypeId) (cs : List AV) (off : Nat) : Option AV := do
  let i ← P.ti t
  if off + i.size ≤ cs.length then part P t cs off else none

def aload (P : AProg) (s : AS) (t : TypeId) (a : AV) : Option AV :=
  match a with
  | .ptr (some a) =>
    match s.get a.id with
    | some (.arr _ es) =>
      match es[a.idx]? with
      | some e => partM P t e.cells a.off
      | none => none
    | _ => none
  | .iptr v off => partM P t v.cells off
  | _ => none

/-- A list with some of its cells replaced. -/
def splice (cs : List AV) (off : Nat) (vs : List AV) : List AV := cs.take off ++ vs ++ cs.drop (off + vs.length)

/-- A variable with some of its cells stored into. -/
def stored (e : AV) (off : Nat) (v : AV) : AV :=
  match e with
  | .agg cs => .agg (splice cs off v.cells)
  | _ => v

def astore (P : AProg) (s : AS) (t : TypeId) (a v : AV) : Option AS :=
  match a with
  | .ptr (some a) =>
    match s.get a.id, P.ti t with
    | some (.arr z es), some i =>
      match es[a.idx]? with
      | some e =>
        if v.cells.length = i.size ∧ a.off + v.cells.length ≤ e.cells.length ∧ v.cells.all AV.atom = true ∧ 0 < v.cells.length then
          some (s.put a.id (.arr z (es.set a.idx (stored e a.off v))))
        else none
      | none => none
    | _, _ => none
  | _ => none

def afieldAddr (P : AProg) (t : TypeId) (x : AV) (f : Nat) : Option AV := do
  let i ← P.ti t
  let .struct fs := i.kind | none
  let g ← fs[f]?
  let j ← P.ti g.type
  if j.size = 0 then none else
  match x with
  | .ptr (some a) => some (.ptr (some { a with off := a.off + g.offset }))
  | .iptr v off => some (.iptr v (off + g.offset))
  | _ => none

def afield (P : AProg) (t : TypeId) (x : AV) (f : Nat) : Option AV := do
  let i ← P.ti t
  let .struct fs := i.kind | none
  let g ← fs[f]?
  let .agg cs := x | none
  part P g.type cs g.offset

def aindexAddr (P : AProg) (t : TypeId) (x ix : AV) : Option AV := do
  let i ← P.ti t
  let .slice e := i.kind | none
  let j ← P.ti e
  let .int _ n := ix | none
  match x with
  | .slice (some a) len _ => if 0 ≤ n ∧ n < len ∧ a.z = j.size then some (.ptr (some ⟨a.id, a.st + n.toNat, 0⟩)) else none
  | .isl z xs => if 0 ≤ n ∧ z = j.size then (xs[n.toNat]?).map fun v => .iptr v 0 else none
  | _ => none

def aindex (P : AProg) (t : TypeId) (x ix : AV) : Option AV := do
  let i ← P.ti t
  let .int _ n := ix | none
  match i.kind, x with
  | .str, .str s => if 0 ≤ n then (match s[n.toNat]? with | some b => some (.int .u8 (Int.ofNat b)) | none => none) else none
  | .array len e, .agg cs => do
    let j ← P.ti e
    if 0 ≤ n ∧ n < len then part P e cs (n.toNat * j.size) else none
  | _, _ => none

def bound (v : AV) (y : Nat) : Option Nat :=
  match v with
  | .int _ n => if 0 ≤ n ∧ n ≤ y then some n.toNat else none
  | _ => none

def obound (v : Option AV) (y d : Nat) : Option Nat :=
  match v with
  | some v => bound v y
  | none => some d

def hbound (v : Option AV) (y : Nat) : Option Nat :=
  match v with
  | some v => bound v y
  | none => none

/-- A slice of a row: from l on, h - l long, its capacity c (none: whatever it was, less l). -/
def cut (a : Option SAddr) (l n : Nat) (c : Option Nat) : AV :=
  .slice (if c = some 0 then a else a.map fun a => { a with st := a.st + l }) n c

def sized (a : Option SAddr) (z : Nat) : Bool := match a with | some a => Nat.beq a.z z | none => true

def aslice (P : AProg) (t : TypeId) (x : AV) (lo hi mx : Option AV) : Option AV := do
  let i ← P.ti t
  match i.kind, x, mx with
  | .str, .str s, none =>
    let h ← obound hi s.length s.length
    let l ← obound lo h 0
    some (.str ((s.drop l).take (h - l)))
  | .slice e, .slice a len (some c), none =>
    let j ← P.ti e
    let h ← obound hi c len
    let l ← obound lo h 0
    if sized a j.size then some (cut a l (h - l) (some (c - l))) else none
  | .slice e, .slice a len none, none =>
    let j ← P.ti e
    let h ← obound hi len len
    let l ← obound lo h 0
    if sized a j.size then some (cut a l (h - l) none) else none
  | .slice e, .slice a len c, some m =>
    let j ← P.ti e
    let m ← bound m (c.getD len)
    let h ← hbound hi m
    let l ← obound lo h 0
    if sized a j.size then some (cut a l (h - l) (some (m - l))) else none
  | .slice e, .isl z xs, none =>
    let j ← P.ti e
    let h ← obound hi xs.length xs.length
    let l ← obound lo h 0
    if z = j.size then some (.isl z ((xs.drop l).take (h - l))) else none
  | .slice e, .isl _ _, some m =>
    let _ ← P.ti e
    let m ← bound m 0
    let h ← hbound hi m
    let _ ← obound lo h 0
    some (.slice (some ⟨0, 0, 0⟩) 0 (some 0))
  | _, _, _ => none

/-- What a slice's elements are, of z cells each. -/
def aelems (s : AS) (z : Nat) (x : AV) : Option (List AV) :=
  match x with
  | .slice none _ _ => some []
  | .slice (some a) len _ =>
    if len = 0 then some [] else
    match s.get a.id with
    | some (.arr _ es) => if a.st + len ≤ es.length ∧ a.z = z then some ((es.drop a.st).take len) else none
    | _ => none
  | .isl y xs => if y = z then some xs else none
  | _ => none

def reach : Nat := 140737488355328

/-- Whole elements of z cells each, each cell an atom. -/
def wholes (z : Nat) (es : List AV) : Bool := es.all fun e => Nat.beq e.cells.length z && e.cells.all AV.atom

/-- What an append appends; the Bool: is it a slice that was made in place? -/
def anew (P : AProg) (s : AS) (u : TypeId) (j : TI) (y : AV) : Option (List AV × Bool) := do
  let ui ← P.ti u
  match ui.kind, y with
  | .int _, .int _ n =>
    match j.zero with
    | some z => if 0 ≤ n ∧ n * j.bytes ≤ reach ∧ n ≤ 9223372036854775807 ∧ z.cells.length = j.size then some (List.replicate n.toNat z, true) else none
    | none => none
  | .slice _, y =>
    match aelems s j.size y with
    | some es => some (es, false)
    | none => none
  | .str, .str l => if j.size = 1 then some (l.map fun b => .int .u8 (Int.ofNat b), false) else none
  | _, _ => none

def zeroOk (j : TI) : Bool := match j.zero with | some z => Nat.beq z.cells.length j.size | none => false

def appendAt (s : AS) (j : TI) (a : SAddr) (len : Nat) (c : Nat) (new : List AV) : Option (AV × AS) :=
  match s.get a.id with
  | some (.arr z es) =>
    if a.st + len + new.length ≤ es.length ∧ z = j.size ∧ a.z = j.size then
      some (.slice (some a) (len + new.length) (some c), s.put a.id (.arr z (es.take (a.st + len) ++ new ++ es.drop (a.st + len + new.length))))
    else none
  | _ => none

def appendNew (s : AS) (j : TI) (x : AV) (len : Nat) (kill : Option Nat) (new : List AV) : Option (AV × AS) :=
  match aelems s j.size x with
  | some old =>
    some (.slice (some ⟨s.next, 0, j.size⟩) (len + new.length) none,
      ((match kill with | some i => s.kill i | none => s).new (.arr j.size (old ++ new))).2)
  | none => none

def aappend (P : AProg) (s : AS) (argTypes : Array TypeId) (x y : AV) : Option (AV × AS) := do
  let t ← argTypes[0]?
  let u ← argTypes[1]?
  let i ← P.ti t
  let .slice e := i.kind | none
  let j ← P.ti e
  let (new, made) ← anew P s u j y
  let .slice a len cap := x | none
  if new.length = 0 then some (x, s) else
  if (len + new.length) * j.bytes > reach ∨ j.size = 0 ∨ wholes j.size new = false ∨ len + new.length > 9223372036854775807 ∨ argTypes.size ≠ 2 ∨ zeroOk j = false then none else
  match cap, a with
  | some c, a =>
    if c < len + new.length then appendNew s j x len none new
    else
      match a, made with
      | some a, false => appendAt s j a len c new
      | _, _ => none
  | none, some a =>
    match s.get a.id, made with
    | some (.arr z _), false => if z = j.size ∧ a.z = j.size then appendNew s j x len (some a.id) new else none
    | _, _ => none
  | none, none => none

def isU8 (P : AProg) (e : TypeId) : Bool :=
  match P.ti e with
  | some i => match i.kind with | .int .u8 => true | _ => false
  | none => false

def aconvert (P : AProg) (src dst : TypeId) (x : AV) : Option AV :=
  match P.ti src, P.ti dst with
  | some i, some j =>
    match i.kind, j.kind, x with
    | .int _, .int k, .int _ n => some (.int k (k.wrap n))
    | .str, .str, .str s => some (.str s)
    | .str, .slice e, .str s => if isU8 P e then some (.isl 1 (s.map fun b => .int .u8 (Int.ofNat b))) else none
    | _, _, _ => none
  | _, _ => none

def entriesOf (s : AS) (x : AV) : Option (List (AV × AV)) :=
  match x with
  | .map none => some []
  | .map (some r) => match s.get r with | some (.map es) => some es | _ => none
  | _ => none

def alenOp (P : AProg) (s : AS) (ats : Array TypeId) (x : AV) : Option AV :=
  match ats[0]? with
  | none => none
  | some t =>
    match P.ti t with
    | none => none
    | some i =>
      match i.kind, x with
      | .str, .str l => some (.int .i64 (Int.ofNat l.length))
      | .slice _, .slice _ n _ => some (.int .i64 (Int.ofNat n))
      | .slice _, .isl _ xs => some (.int .i64 (Int.ofNat xs.length))
      | .map _ _, x => match entriesOf s x with | some es => some (.int .i64 (Int.ofNat es.length)) | none => none
      | _, _ => none

def acapOp (P : AProg) (ats : Array TypeId) (x : AV) : Option AV :=
  match ats[0]? with
  | none => none
  | some t =>
    match P.ti t with
    | none => none
    | some i =>
      match i.kind, x with
      | .slice _, .slice _ _ (some c) => some (.int .i64 (Int.ofNat c))
      | _, _ => none

def keyEq : AV → AV → Option Bool
  | .int k a, .int k' b => if k = k' then some (a == b) else none
  | .str a, .str b => some (a == b)
  | .bool a, .bool b => some (a == b)
  | _, _ => none

def afind (k : AV) : List (AV × AV) → Nat → Option (Option (Nat × AV))
  | [], _ => some none
  | e :: es, i => do
    match ← keyEq k e.1 with
    | true => some (some (i, e.2))
    | false => afind k es (i + 1)

def plainKey (P : AProg) (t : TypeId) (k : AV) : Bool :=
  match P.ti t with
  | none => false
  | some i =>
    match i.kind, k with
    | .int _, .int _ _ => true
    | .str, .str _ => true
    | .bool, .bool _ => true
    | _, _ => false

def okPair (ok : Bool) (v : AV) (b : Bool) : AV := if ok then .tuple [v, .bool b] else v

def alookup (P : AProg) (s : AS) (t : TypeId) (x k : AV) (ok : Bool) : Option AV :=
  match P.ti t with
  | none => none
  | some i =>
    match i.kind with
    | .map kt e =>
      if plainKey P kt k then
        match entriesOf s x with
        | none => none
        | some es =>
          match afind k es 0 with
          | none => none
          | some (some q) => some (okPair ok q.2 true)
          | some none =>
            match P.ti e with
            | none => none
            | some j =>
              match j.zero with
              | none => none
              | some z => some (okPair ok z false)
      else none
    | _ => none

def amapUpdate (P : AProg) (s : AS) (t : TypeId) (x k v : AV) : Option AS :=
  match P.ti t with
  | none => none
  | some i =>
    match i.kind with
    | .map kt _ =>
      if plainKey P kt k then
        match x with
        | .map (some r) =>
          match s.get r with
          | some (.map es) =>
            match afind k es 0 with
            | none => none
            | some (some q) => some (s.put r (.map (es.set q.1 (k, v))))
            | some none => some (s.put r (.map (es ++ [(k, v)])))
          | _ => none
        | _ => none
      else none
    | _ => none

def afill (place : Nat → Option (Nat × Nat)) (cells : List AV) : List (Nat × AV) → Option (List AV)
  | [] => some cells
  | (i, v) :: rest =>
    match place i with
    | none => none
    | some (off, size) =>
      if v.cells.length ≠ size ∨ off + v.cells.length > cells.length then none
      else afill place (splice cells off v.cells) rest

def aopt (t : ATmps) : Option Operand → Option (Option AV)
  | some x => (aeval t x).map some
  | none => some none

def mapOpt {α β : Type} (f : α → Option β) : List α → Option (List β)
  | [] => some []
  | a :: as => do
    let b ← f a
    let bs ← mapOpt f as
    some (b :: bs)

def abuild (P : AProg) (t : TypeId) (parts : List (Nat × AV)) : Option AV := do
  let i ← P.ti t
  let z ← i.zero
  match i.kind with
  | .struct fs =>
    let places ← mapOpt (fun (f : AField) => (P.ti f.type).map fun j => (f.offset, j.size)) fs
    (afill (places[·]?) z.cells parts).map .agg
  | .array _ e =>
    let j ← P.ti e
    (afill (fun i => some (i * j.size, j.size)) z.cells parts).map .agg
  | _ => none

def setAll (l : List AV) : List (Nat × AV) → List AV
  | [] => l
  | (i, v) :: r => setAll (l.set i v) r

def abuildSlice (P : AProg) (s : AS) (t : TypeId) (len : Nat) (parts : List (Nat × AV)) : Option (AV × AS) := do
  let i ← P.ti t
  let .slice e := i.kind | none
  let j ← P.ti e
  if len * j.size > 2 ^ 24 ∨ j.size = 0 then none else
  let z ← j.zero
  if parts.any (fun (i, v) => decide (len ≤ i) || decide (v.cells.length ≠ j.size)) then none else
  if z.cells.length ≠ j.size then none else
  some (.slice (some ⟨s.next, 0, j.size⟩) len (some len), (s.new (.arr j.size (setAll (List.replicate len z) parts))).2)

def amakeSlice (P : AProg) (s : AS) (t : TypeId) (len cap : AV) : Option (AV × AS) := do
  let i ← P.ti t
  let .slice e := i.kind | none
  let j ← P.ti e
  let .int _ l := len | none
  let .int _ c := cap | none
  if l < 0 ∨ l > c ∨ c > 9223372036854775807 ∨ j.bytes * c > 2 ^ 47 ∨ j.size = 0 then none else
  let z ← j.zero
  if z.cells.length ≠ j.size then none else
  some (.slice (some ⟨s.next, 0, j.size⟩) l.toNat (some c.toNat), (s.new (.arr j.size (List.replicate c.toNat z))).2)

def atypeAssert (P : AProg) (x : AV) (asserted : TypeId) (commaOk : Bool) : Option AV :=
  match P.ti asserted with
  | none => none
  | some i =>
    match i.kind, x with
    | .iface _, _ => none
    | .other, _ => none
    | _, .nilIface => match commaOk, i.zero with | true, some z => some (.tuple [z, .bool false]) | _, _ => none
    | _, .iface t v =>
      if t = asserted then some (okPair commaOk v true)
      else match commaOk, i.zero with | true, some z => some (.tuple [z, .bool false]) | _, _ => none
    | _, _ => none

def amakeInterface (P : AProg) (t : TypeId) (x : AV) : Option AV :=
  match P.ti t with
  | none => none
  | some i =>
    match i.kind with
    | .iface _ => none
    | .other => none
    | _ => some (.iface t x)

def minmax2 (mx : Bool) : AV → AV → Option AV
  | .int k a, .int _ b => some (.int k (if mx then (if a < b then b else a) else (if b < a then b else a)))
  | _, _ => none

def minmaxGo (mx : Bool) : AV → List AV → Option AV
  | x, [] => some x
  | x, y :: r =>
    match minmax2 mx x y with
    | some z => minmaxGo mx z r
    | none => none

def aminmax (mx : Bool) : List AV → Option AV
  | [] => none
  | x :: r => minmaxGo mx x r

def callee (P : AProg) (v : AV) (args : List AV) : Option (FuncId × List AV) :=
  match v with
  | .func (.func f) first captured =>
    match P.fn f with
    | some fn => if fn.body.isSome ∧ fn.name ≠ "runtime.NumGoroutine" then some (f, first ++ args ++ captured) else none
    | none => none
  | _ => none

def evOp (P : AProg) (t : ATmps) (s : AS) (o : Oper) : Option ARes :=
  let ev := aeval t
  let v (x : Option AV) : Option ARes := x.map fun v => .val v s
  let w (x : Option (AV × AS)) : Option ARes := x.map fun (v, s) => .val v s
  let u (x : Option AS) : Option ARes := x.map .skip
  match o.op with
  | .move x | .assign x => v (ev x)
  | .pick c a b => do
    match ← ev c with
    | .bool c => v (if c then ev a else ev b)
    | _ => none
  | .alloc e => do
    let j ← P.ti e
    let z ← j.zero
    if z.cells.length ≠ j.size then none else
    some (.val (.ptr (some ⟨s.next, 0, 0⟩)) (s.new (.arr z.cells.length [z])).2)
  | .box _ x => do
    let x ← ev x
    some (.val (.ptr (some ⟨s.next, 0, 0⟩)) (s.new (.arr x.cells.length [x])).2)
  | .build t parts => do
    let ps ← mapOpt (fun (i, x) => (ev x).map fun v => (i, v)) parts.toList
    v (abuild P t ps)
  | .buildSlice t len parts => do
    let ps ← mapOpt (fun (i, x) => (ev x).map fun v => (i, v)) parts.toList
    w (abuildSlice P s t len ps)
  | .load t a => do v (aload P s t (← ev a))
  | .store t a x => do u (astore P s t (← ev a) (← ev x))
  | .nilCheck x => do
    match ← ev x with
    | .ptr (some a) => some (.val (.ptr (some a)) s)
    | .iptr a o => some (.val (.iptr a o) s)
    | .func (.func f) a b => some (.val (.func (.func f) a b) s)
    | _ => none
  | .binOp op xt x y _ => do
    let a ← ev x
    let b ← ev y
    if nilLit P xt x y a b then
      match op with
      | .eql => v (some (.bool true))
      | .neq => v (some (.bool false))
      | _ => none
    else v (abin P s op xt a b)
  | .unOp op _ x => do v (aun op (← ev x))
  | .convert a b x => do v (aconvert P a b (← ev x))
  | .makeInterface xt x => do v (amakeInterface P xt (← ev x))
  | .makeFunc fn a b => do
    let a ← mapOpt ev a.toList
    let b ← mapOpt ev b.toList
    match fn with
    | .yield _ => none
    | fn => some (.val (.func fn a b) s)
  | .makeMap _ r => do
    match r with
    | some _ => none
    | none =>
      some (.val (.map (some s.next)) (s.new (.map [])).2)
  | .makeSlice t l c => do w (amakeSlice P s t (← ev l) (← ev c))
  | .slice ty x lo hi mx => do
    let lo ← aopt t lo
    let hi ← aopt t hi
    let mx ← aopt t mx
    v (aslice P ty (← ev x) lo hi mx)
  | .fieldAddr t x f => do v (afieldAddr P t (← ev x) f)
  | .field t x f => do v (afield P t (← ev x) f)
  | .indexAddr t x i => do v (aindexAddr P t (← ev x) (← ev i))
  | .index t x i => do v (aindex P t (← ev x) (← ev i))
  | .lookup t x i ok => do v (alookup P s t (← ev x) (← ev i) ok)
  | .mapUpdate t m k x | .insert t m k x => do u (amapUpdate P s t (← ev m) (← ev k) (← ev x))
  | .typeAssert x _ t ok => do v (atypeAssert P (← ev x) t ok)
  | .extract x i => do
    match ← ev x with
    | .tuple vs => v vs[i]?
    | _ => none
  | .call c => do
    let args ← mapOpt ev c.args.toList
    match c.callee with
    | .value f =>
      match ← ev f with
      | .func (.yield y) [] [] => some (.yield y args)
      | f => do
        let (g, as) ← callee P f args
        some (.enter g as)
    | .builtin .len =>
      match args with
      | [x] => v (alenOp P s c.argTypes x)
      | _ => none
    | .builtin .cap =>
      match args with
      | [x] => v (acapOp P c.argTypes x)
      | _ => none
    | .builtin .append =>
      match args with
      | [x, y] => if c.argTypes.size = 2 then w (aappend P s c.argTypes x y) else none
      | _ => none
    | .builtin .min => v (aminmax false args)
    | .builtin .max => v (aminmax true args)
    | .builtin .recover => some .recover
    | _ => none
  | .defer c => do
    let args ← mapOpt ev c.args.toList
    match c.callee with
    | .value f =>
      let (g, as) ← callee P (← ev f) args
      some (.defer g as)
    | _ => none
  | _ => none

/-! ### code -/
inductive AExit where
  | normal
  | exit (id : Nat)
  | ret
  deriving DecidableEq, Repr

structure AAct where
  tmps : ATmps
  defers : List (FuncId × List AV)
  marks : Nat

def AAct.put (a : AAct) (d : Option Tmp) (v : AV) : AAct :=
  match d with
  | some d => { a with tmps := a.tmps.set d v }
  | none => a

def ayielded (ops : List Oper) (t : ATmps) (j : Nat) : Option Bool :=
  match (ops[j]?).bind (·.dst) with
  | some d => match t.get d with | .bool b => some b | _ => none
  | none => none

def awanted (ops : List Oper) (t : ATmps) (o : Oper) : Bool :=
  match o.guard with
  | none => true
  | some (j, want) => match ayielded ops t j with | some b => b == want | none => false

abbrev CallF := FuncId → List AV → AS → Option (AV × AS)
abbrev YieldF := Nat → List AV → AS → Option (AV × AS)
abbrev BodyF := AAct → AS → Option (AExit × AAct × AS)

/-- One operation, and what it leaves. -/
def step1 (P : AProg) (call : CallF) (yh : YieldF) (a : AAct) (s : AS) (o : Oper) : Option (AAct × AS) :=
  match evOp P a.tmps s o with
  | some (.val v s) => some (a.put o.dst v, s)
  | some (.skip s) => some (a.put o.dst aundef, s)
  | some (.enter f args) =>
    match call f args s with
    | some (v, s) => some (a.put o.dst v, s)
    | none => none
  | some (.yield y args) =>
    match yh y args s with
    | some (v, s) => some (a.put o.dst v, s)
    | none => none
  | some (.defer f args) => some ({ a with defers := (f, args) :: a.defers }.put o.dst aundef, s)
  | _ => none

def evOps (P : AProg) (call : CallF) (yh : YieldF) (ops : List Oper) : List Oper → AAct → AS → Option (AAct × AS)
  | [], a, s => some (a, s)
  | o :: rest, a, s =>
    if awanted ops a.tmps o then
      match step1 P call yh a s o with
      | some (a, s) => evOps P call yh ops rest a s
      | none => none
    else evOps P call yh ops rest (a.put o.dst aundef) s

/-! regions that draw their order: those that act first, as early as they may -/
def acts : Op → Bool
  | .store .. | .mapUpdate .. | .insert .. | .defer _ => true
  | .call { callee := .builtin .len, .. } | .call { callee := .builtin .cap, .. } | .call { callee := .builtin .min, .. } | .call { callee := .builtin .max, .. } => false
  | .call _ => true
  | _ => false

def reads : Op → Bool
  | .load .. | .lookup .. | .binOp .eql .. | .binOp .neq .. => true
  | .call { callee := .builtin .len, .. } => true
  | _ => false

def canonGo (bef : List Nat) : List (Oper × Nat) → Nat → List Nat → List Nat
  | [], _, acc => acc
  | (o, i) :: rest, seen, acc =>
    if acts o.op then
      let need := bef.getD i 0
      let more := (List.range i).filter fun j => need.testBit j && !seen.testBit j
      canonGo bef rest (more.foldl (fun s j => s ||| 2 ^ j) (seen ||| 2 ^ i)) (acc ++ more ++ [i])
    else canonGo bef rest seen acc

def canon (ops : Array Oper) : List Nat :=
  let bef := (Region.before ops).toList
  let early := canonGo bef ops.toList.zipIdx 0 []
  early ++ (List.range ops.size).filter fun i => !early.contains i

/-- What a reading operation reads in a state. -/
def readAgain (P : AProg) (t : ATmps) (s : AS) (o : Oper) : Option AV :=
  match evOp P t s o with
  | some (.val v _) => some v
  | _ => none

/-- The states before each act, by the act's place. -/
abbrev Snaps := List (Nat × AS)

def sameAll (f : AV → AV → Bool) : List AV → List AV → Bool
  | [], [] => true
  | x :: xs, y :: ys => f x y && sameAll f xs ys
  | _, _ => false

/-- Equality of values, as far as it is needed. -/
def same : Nat → AV → AV → Bool
  | 0, _, _ => false
  | d + 1, x, y =>
    match x, y with
    | .int k a, .int k' b => decide (k = k') && a == b
    | .bool a, .bool b => a == b
    | .str a, .str b => a == b
    | .ptr a, .ptr b => decide (a = b)
    | .iptr v o, .iptr u p => same d v u && Nat.beq o p
    | .slice a l c, .slice b m e => decide (a = b) && Nat.beq l m && decide (c = e)
    | .isl y xs, .isl z ys => Nat.beq y z && sameAll (same d) xs ys
    | .map a, .map b => decide (a = b)
    | .func f a b, .func g x y => decide (f = g) && sameAll (same d) a x && sameAll (same d) b y
    | .nilFunc, .nilFunc => true
    | .iface t v, .iface u w => Nat.beq t u && same d v w
    | .nilIface, .nilIface => true
    | .agg xs, .agg ys => sameAll (same d) xs ys
    | .tuple xs, .tuple ys => sameAll (same d) xs ys
    | _, _ => false

/-- Equality, tried first by looking. -/
noncomputable def alike (x y : AV) : Bool := same 100 x y || @decide (x = y) (Classical.propDecidable _)

/-- Is what is read the same in each state before an act that the reading isn't bound to follow? -/
noncomputable def unturned (P : AProg) (t : ATmps) (o : Oper) (need : Nat) (v : AV) : Snaps → Bool
  | [] => true
  | (j, s) :: rest =>
    (need.testBit j || (match readAgain P t s o with | some u => alike u v | none => false)) && unturned P t o need v rest

/-- What acts and what reads goes by the states; the rest makes at most one object, whose number goes by its place in the region. -/
noncomputable def evDraw (P : AProg) (call : CallF) (yh : YieldF) (ops : List Oper) (bef : List Nat) (base : Nat) : List Nat → Snaps → AAct → AS → Option (AAct × AS)
  | [], _, a, s => some (a, s)
  | i :: rest, sn, a, s =>
    match ops[i]? with
    | none => none
    | some o =>
      if awanted ops a.tmps o then
        if acts o.op then
          match step1 P call yh a s o with
          | some (a', s') => evDraw P call yh ops bef base rest ((i, s) :: sn) a' s'
          | none => none
        else if reads o.op then
          match evOp P a.tmps s o with
          | some (.val v _) => if unturned P a.tmps o (bef.getD i 0) v sn then evDraw P call yh ops bef base rest sn (a.put o.dst v) s else none
          | _ => none
        else
          match evOp P a.tmps { s with next := base + i } o with
          | some (.val v s') => evDraw P call yh ops bef base rest sn (a.put o.dst v) { s' with next := s.next }
          | _ => none
      else evDraw P call yh ops bef base rest sn (a.put o.dst aundef) s

def loopN (body : BodyF) : Nat → AAct → AS → Option (AExit × AAct × AS)
  | 0, _, _ => none
  | n + 1, a, s =>
    match body a s with
    | some (.normal, a, s) => loopN body n a s
    | r => r

def setParams (t : ATmps) : List (Tmp × AV) → ATmps
  | [] => t
  | (i, v) :: r => setParams (t.set i v) r

/-- A round of a range over a function: a body that comes to its end. -/
def oneRound (assign body : BodyF) (t : ATmps) (params : List Tmp) (args : List AV) (s : AS) : Option AS :=
  if args.length = params.length then
    match assign { tmps := setParams t (params.zip args), defers := [], marks := 0 } s with
    | some (.normal, a, s) =>
      match body a s with
      | some (.normal, _, s) => some s
      | _ => none
    | _ => none
  else none

noncomputable def evCode (P : AProg) (call : YieldF → CallF) (fuel : Nat) (yh : YieldF) : Code → BodyF
  | .skip, a, s => some (.normal, a, s)
  | .region _ ops draw, a, s =>
    match draw with
    | true =>
      match evDraw P (call fun _ _ _ => none) yh ops.toList (Region.before ops).toList s.next (canon ops) [] a { s with next := s.next + ops.size } with
      | some (a, s) => some (.normal, a, s)
      | none => none
    | false =>
      match evOps P (call fun _ _ _ => none) yh ops.toList ops.toList a s with
      | some (a, s) => some (.normal, a, s)
      | none => none
  | .seq x y, a, s =>
    match evCode P call fuel yh x a s with
    | some (.normal, a, s) => evCode P call fuel yh y a s
    | r => r
  | .cond c x y, a, s =>
    match aeval a.tmps c with
    | some (.bool true) => evCode P call fuel yh x a s
    | some (.bool false) => evCode P call fuel yh y a s
    | _ => none
  | .block id x, a, s =>
    match evCode P call fuel yh x a s with
    | some (.exit j, a, s) => if Nat.beq j id then some (.normal, a, s) else some (.exit j, a, s)
    | r => r
  | .loop x, a, s => loopN (evCode P call fuel yh x) fuel a s
  | .exit id, a, s => some (.exit id, a, s)
  | .ret, a, s => some (.ret, a, s)
  | .rangeFunc f params assign body, a, s =>
    match aeval a.tmps f with
    | some (.func (.func g) [] captured) =>
      match callee P (.func (.func g) [] captured) [.func (.yield s.next) [] []] with
      | some (g, args) =>
        match call (fun y args s' => if Nat.beq y s.next then
            match oneRound (evCode P call fuel (fun _ _ _ => none) assign) (evCode P call fuel (fun _ _ _ => none) body) a.tmps params.toList args s' with
            | some s' => some (.bool true, s')
            | none => none
          else none) g args { s.kill s.next with next := s.next + 1 } with
        | some (_, s') => some (.normal, { a with marks := a.marks + 1 }, s')
        | none => none
      | none => none
    | _ => none
  | .scope _, _, _ => none
  | .label _, _, _ => none
  | .goto _, _, _ => none
  | .refuse _, _, _ => none

def initGo : List AV → Nat → ATmps → ATmps
  | [], _, t => t
  | v :: vs, i, t => initGo vs (i + 1) (t.set i v)

def initTmps (n : Nat) (args : List AV) : ATmps := initGo args 0 (ATmps.new (max n args.length))

def results1 (P : AProg) (t : ATmps) (s : AS) : ResultVar → Option AV
  | .tmp i => some (t.get i)
  | .cell a ty => aload P s ty (t.get a)

def tupled : List AV → AV
  | [v] => v
  | vs => .tuple vs

def aresults (P : AProg) (fn : Func) (t : ATmps) (s : AS) : Option AV := (mapOpt (results1 P t s) fn.results.toList).map tupled

/-! deferred calls, in a frame that returns: nothing panics -/
def stepD (P : AProg) (call : CallF) (a : AAct) (s : AS) (o : Oper) : Option (AAct × AS) :=
  match evOp P a.tmps s o with
  | some (.val v s) => some (a.put o.dst v, s)
  | some (.skip s) => some (a.put o.dst aundef, s)
  | some (.enter f args) =>
    match call f args s with
    | some (v, s) => some (a.put o.dst v, s)
    | none => none
  | some .recover => some (a.put o.dst .nilIface, s)
  | _ => none

def evOpsD (P : AProg) (call : CallF) (ops : List Oper) : List Oper → AAct → AS → Option (AAct × AS)
  | [], a, s => some (a, s)
  | o :: rest, a, s =>
    if awanted ops a.tmps o then
      match stepD P call a s o with
      | some (a, s) => evOpsD P call ops rest a s
      | none => none
    else evOpsD P call ops rest (a.put o.dst aundef) s

def evCodeD (P : AProg) (call : CallF) : Code → BodyF
  | .skip, a, s => some (.normal, a, s)
  | .ret, a, s => some (.ret, a, s)
  | .region _ ops draw, a, s =>
    match draw with
    | true => none
    | false =>
      match evOpsD P call ops.toList ops.toList a s with
      | some (a, s) => some (.normal, a, s)
      | none => none
  | .seq x y, a, s =>
    match evCodeD P call x a s with
    | some (.normal, a, s) => evCodeD P call y a s
    | r => r
  | .cond c x y, a, s =>
    match aeval a.tmps c with
    | some (.bool true) => evCodeD P call x a s
    | some (.bool false) => evCodeD P call y a s
    | _ => none
  | _, _, _ => none

def endsD : Option (AExit × AAct × AS) → Option (AAct × AS)
  | some (.normal, a, s) => if a.defers.isEmpty && Nat.beq a.marks 0 then some (a, s) else none
  | some (.ret, a, s) => if a.defers.isEmpty && Nat.beq a.marks 0 then some (a, s) else none
  | _ => none

def runDefers (P : AProg) (call : CallF) : List (FuncId × List AV) → AS → Option AS
  | [], s => some s
  | (f, args) :: r, s =>
    match P.fn f with
    | some fn =>
      match fn.body with
      | some c =>
        match endsD (evCodeD P call c { tmps := initTmps fn.ntmps args, defers := [], marks := 0 } s) with
        | some (a, s) =>
          match aresults P fn a.tmps s with
          | some _ => runDefers P call r s
          | none => none
        | none => none
      | none => none
    | none => none

def leave (P : AProg) (call : CallF) (fn : Func) (a : AAct) (s : AS) : Option (AV × AS) :=
  if Nat.beq a.marks 0 || a.defers.isEmpty then
    match runDefers P call a.defers s with
    | some s =>
      match aresults P fn a.tmps s with
      | some v => some (v, s)
      | none => none
    | none => none
  else none

noncomputable def evCall (P : AProg) (fuel : Nat) : Nat → YieldF → CallF
  | 0, _, _, _, _ => none
  | n + 1, yh, f, args, s =>
    match P.fn f with
    | some fn =>
      match fn.body with
      | some c =>
        match evCode P (evCall P fuel n) fuel yh c { tmps := initTmps fn.ntmps args, defers := [], marks := 0 } s with
        | some (.normal, a, s) => leave P (evCall P fuel n fun _ _ _ => none) fn a s
        | some (.ret, a, s) => leave P (evCall P fuel n fun _ _ _ => none) fn a s
        | _ => none
      | none => none
    | none => none

/-! what is asked of the program's text, once -/
def namesOf (ops : List Oper) (o : Oper) : List Tmp :=
  o.dst.toList ++ o.op.operands.toList.filterMap (fun | .tmp t => some t | _ => none) ++
    (match o.guard with | some (j, _) => ((ops[j]?).bind (·.dst)).toList | none => [])

/-- Is every place that a mask holds one that binds, by the operations' own edges? -/
def maskOk (l : List Oper) (bef : List Nat) : Bool :=
  (List.range l.length).all fun i => (List.range l.length).all fun j => !(bef.getD i 0).testBit j ||
    (match l[i]? with
    | some o => o.after.toList.any fun e => Region.binds .any e && decide (e.on < i) && (Nat.beq e.on j || (bef.getD e.on 0).testBit j)
    | none => false)

def dstOf (l : List Oper) (j : Nat) : Option Tmp := (l[j]?).bind (·.dst)

/-- The order that is played is one of those that may be; nothing stands ahead of an act that isn't bound to; a temporary is written once, and what names it is bound to follow. -/
def canonOk (l : List Oper) (bef : List Nat) : List Nat → List Nat → Bool
  | _, [] => true
  | done, i :: rest =>
    (match l[i]? with
    | none => false
    | some o =>
      (o.after.toList.all fun e => !Region.binds .any e || done.contains e.on) &&
      (!acts o.op || done.all fun j => (bef.getD i 0).testBit j) &&
      (done.all fun j => match dstOf l j with | some d => !(namesOf l o).contains d || ((bef.getD i 0).testBit j && decide (o.dst ≠ some d)) | none => true) &&
      (rest.all fun j => match dstOf l j with | some d => !(namesOf l o).contains d | none => true)) &&
    !done.contains i && canonOk l bef (i :: done) rest

def drawOk (ops : Array Oper) : Bool :=
  let bef := (Region.before ops).toList
  let c := canon ops
  maskOk ops.toList bef && canonOk ops.toList bef [] c && ((List.range ops.size).all fun i => c.contains i)

/-- No defer statement, no range over a function: what the body of such a loop is made of. -/
def plainCode : Code → Bool
  | .region _ ops _ => ops.toList.all fun o => match o.op with | .defer _ => false | _ => true
  | .seq a b => plainCode a && plainCode b
  | .cond _ a b => plainCode a && plainCode b
  | .block _ a => plainCode a
  | .loop a => plainCode a
  | .scope a => plainCode a
  | .rangeFunc .. => false
  | _ => true

def codeOk : Code → Bool
  | .region _ ops draw => !draw || drawOk ops
  | .seq a b => codeOk a && codeOk b
  | .cond _ a b => codeOk a && codeOk b
  | .block _ a => codeOk a
  | .loop a => codeOk a
  | .scope a => codeOk a
  | .rangeFunc _ _ a b => codeOk a && codeOk b && plainCode a && plainCode b
  | _ => true

end Go.AM

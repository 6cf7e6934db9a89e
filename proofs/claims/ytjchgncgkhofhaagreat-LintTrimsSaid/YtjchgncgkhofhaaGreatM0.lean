/- The A-logic, definitions: abstract values, memories, and what an operation, a region and a body ask of them. No statement of the seat is proved here. -/
import Derived.Calls
import Derived.Laws.World
import GoSem.ClaimData
namespace Go.Proofs.YtjchgncgkhofhaaGreat.AL
open Go

/-- Where a mutable thing lies: in the frame (named by the slot that made it) or among the objects that calls share. -/
inductive Loc where
  | loc (d : Nat)
  | obj (id : Nat)
  deriving DecidableEq

/-- Abstract values. 'vec own es len cs': a slice that is not nil, of len elements of es cells each; own: it may be appended to. -/
inductive AV where
  | undef
  | sc (v : Value)
  | vec (own : Bool) (es len : Nat) (cs : List AV)
  | agg (cs : List AV)
  | tup (vs : List AV)
  | fn (fn : Fn) (first caps : List AV)
  | ifc (t : TypeId) (v : AV)
  | pp (l : Loc) (off : Nat)
  | cp (cs : List AV) (off : Nat)
  | mp (l : Loc)
  | ap (l : Loc) (ver off len : Nat)

inductive AObj where
  | dead
  | cells (ver : Nat) (cs : List AV)
  | map (es : List (AV × AV))

structure Mem where
  bx : Nat → AObj
  gs : List AObj

structure ASt where
  f : Nat → AV
  m : Mem

/-- What a cell of a comparable type holds. -/
inductive FK where
  | int (k : IntKind) | str | bool

inductive Ty where
  | other | bool | int (k : IntKind) | str | slice (e : Nat) | ptr (e : Nat) | struct (fs : List (Nat × Nat)) | arr (n e : Nat) | map (k e : Nat) | func

structure TI where
  ty : Ty
  size : Nat
  bytes : Nat
  zero : Option (List Value)
  eqc : Option (List FK)

def zeroOk (t : TI) : Bool := match t.zero with
  | some l => Nat.beq l.length t.size
  | none => false

/-- The cells of a type that can be held against each other cell by cell. -/
def eqcFields (P : Program) (rc : TypeId → Option (List FK)) : Nat → List Field → Option (List FK)
  | _, [] => some []
  | off, f :: fs => if f.name == "_" || f.offset != off then none else match rc f.type with
    | some r => if (P.info? f.type).map (·.size) == some r.length then (match eqcFields P rc (off + r.length) fs with | some s => some (r ++ s) | none => none) else none
    | none => none
def eqcOf (P : Program) : Nat → TypeId → Option (List FK)
  | 0, _ => none
  | n + 1, t => match P.underlying t with
    | some (.int k) => some [.int k]
    | some .bool => some [.bool]
    | some .string => some [.str]
    | some (.struct fs) => if P.stoodInHeld t then none else eqcFields P (eqcOf P n) 0 fs.toList
    | _ => none

def tyOf (P : Program) (t : TypeId) : TI :=
  match P.info? t, P.underlying t with
  | some i, some d => ⟨match d with
      | .bool => .bool
      | .int k => .int k
      | .string => .str
      | .slice e => .slice e
      | .pointer e => .ptr e
      | .struct fs => .struct (fs.toList.map fun f => (f.offset, f.type))
      | .array n e => .arr n e
      | .map k e => .map k e
      | .func _ _ _ => .func
      | _ => .other, i.size, i.bytes, (match d, i.zero with
      | .tuple _, _ => none
      | .struct _, some (.agg cs) | .array _ _, some (.agg cs) => some cs.toList
      | .struct _, _ | .array _ _, _ => none
      | _, some (.agg _) => none
      | _, some v => some [v]
      | _, none => none), (if P.eqGuardType P.depth t then none else eqcOf P 40 t)⟩
  | _, _ => ⟨.other, 0, 0, none, none⟩

/-- What the evaluation is told: the types, which boxes escape, which functions take their first argument over for appending, which leave the shared objects alone, which slots are loaded, with the right to append, out of shared objects; the calls. -/
structure Env where
  T : Nat → TI
  esc : Nat → Bool
  oa : Nat → Bool
  ro : Nat → Bool
  ob : Nat → Bool
  C : FuncId → List AV → List AObj → (AV → List AObj → Prop) → Prop

def upd {α : Type} (f : Nat → α) (i : Nat) (v : α) : Nat → α := fun j => if j = i then v else f j

def ofV : Value → AV
  | .agg cs => .agg (cs.toList.map .sc)
  | .func f a b => .fn f (a.toList.map .sc) (b.toList.map .sc)
  | v => .sc v

def AV.cells : AV → List AV
  | .agg cs => cs
  | v => [v]

/-- Without the right to append. -/
def dm : AV → AV
  | .vec _ e l c => .vec false e l c
  | v => v

/-- The cells that a store lays: parts of an aggregate bear no right to append. -/
def AV.stc : AV → List AV
  | .agg cs => cs.map dm
  | v => [v]

/-- May it lie in memory or leave the frame? -/
def okv : AV → Bool
  | .pp (.loc _) _ | .mp (.loc _) | .ap (.loc _) _ _ _ => false
  | .tup _ => false
  | _ => true
def okc : AV → Bool
  | .undef | .agg _ | .sc (.agg _) | .sc (.tuple _) => false
  | v => okv v

/-- Forced to a constructor ahead of going on: evaluation alone. -/
def frc : AV → (AV → Prop) → Prop
  | .undef, K => K .undef
  | .sc v, K => K (.sc v)
  | .vec o e l c, K => K (.vec o e l c)
  | .agg c, K => K (.agg c)
  | .tup c, K => K (.tup c)
  | .fn a b c, K => K (.fn a b c)
  | .ifc a b, K => K (.ifc a b)
  | .pp a b, K => K (.pp a b)
  | .cp a b, K => K (.cp a b)
  | .mp a, K => K (.mp a)
  | .ap a b c d, K => K (.ap a b c d)
def frcL : List AV → (List AV → Prop) → Prop
  | [], K => K []
  | v :: vs, K => frc v fun v => frcL vs fun vs => K (v :: vs)
theorem frc_eq (v : AV) (K : AV → Prop) : frc v K = K v := by cases v <;> rfl
theorem frcL_eq (l : List AV) (K : List AV → Prop) : frcL l K = K l := by
  induction l generalizing K with
  | nil => rfl
  | cons v vs ih => simp only [frcL, frc_eq, ih]
/-- Only as many cells as are told are forced. -/
def frcN : Nat → List AV → (List AV → Prop) → Prop
  | 0, l, K => K l
  | n + 1, l, K => match l with
    | [] => K []
    | v :: vs => frc v fun v => frcN n vs fun vs => K (v :: vs)
theorem frcN_eq (n : Nat) (l : List AV) (K : List AV → Prop) : frcN n l K = K l := by
  induction n generalizing l K with
  | zero => rfl
  | succ n ih => cases l with
    | nil => rfl
    | cons v vs => simp only [frcN, frc_eq, ih]

section
variable (E : Env)

def isAgg (t : Nat) : Bool := match (E.T t).ty with | .struct _ | .arr _ _ => true | _ => false

/-- A value of type t out of cells, from off on. -/
def ldc (t : Nat) (cs : List AV) (off : Nat) (K : AV → Prop) : Prop :=
  if (E.T t).size = 0 then False
  else if isAgg E t then if off + (E.T t).size ≤ cs.length then frcN (E.T t).size ((cs.drop off).take (E.T t).size) fun c => K (.agg (c.map dm)) else False
  else match cs.drop off with
    | v :: _ => frc v K
    | [] => False

/-- Cells with others laid over them, from off on. -/
def lay (cs : List AV) (off : Nat) (vs : List AV) : List AV := cs.take off ++ vs ++ cs.drop (off + vs.length)

def isFK : FK → AV → Bool
  | .int k, .sc (.int k' _) => decide (k = k')
  | .str, .sc (.string _) => true
  | .bool, .sc (.bool _) => true
  | _, _ => false

def fkEq : FK → AV → AV → Option Bool
  | .int k, .sc (.int k1 a), .sc (.int k2 b) => if k1 = k ∧ k2 = k then some (decide (a = b)) else none
  | .str, .sc (.string a), .sc (.string b) => some (decide (a = b))
  | .bool, .sc (.bool a), .sc (.bool b) => some (a == b)
  | _, _, _ => none
def fksEq : List FK → List AV → List AV → Option Bool
  | [], [], [] => some true
  | [k], [x], [y] => fkEq k x y
  | k :: ks, x :: xs, y :: ys => match fkEq k x y with
    | some b => match fksEq ks xs ys with | some c => some (b && c) | none => none
    | none => none
  | _, _, _ => none

/-- '==' at type t. -/
def avEq (t : Nat) (x y : AV) : Option Bool :=
  match (E.T t).ty, x, y with
  | .slice _, .sc (.slice none _ _), .sc (.slice none _ _) => some true
  | .slice _, .ap _ _ _ _, .sc (.slice none _ _) => some false
  | .struct _, .agg a, .agg b => match (E.T t).eqc with
    | some ks => fksEq ks a b
    | none => none
  | .int k, x, y => fkEq (.int k) x y
  | .str, x, y => fkEq .str x y
  | .bool, x, y => fkEq .bool x y
  | _, _, _ => none

/-- A key of a map type. -/
def keyOk (t : Nat) (x : AV) : Bool :=
  match (E.T t).ty, x with
  | .int k, x => isFK (.int k) x
  | .str, x => isFK .str x
  | .bool, x => isFK .bool x
  | _, _ => false

def abin (op : BinOp) (t : Nat) (x y : AV) (K : AV → Prop) : Prop :=
  match op with
  | .eql => match avEq E t x y with | some b => K (.sc (.bool b)) | none => False
  | .neq => match avEq E t x y with | some b => K (.sc (.bool (!b))) | none => False
  | .add => match x, y with
    | .sc (.int k a), .sc (.int k' b) => if k = k' then K (.sc (.int k (k.wrap (a + b)))) else False
    | .sc (.string a), .sc (.string b) => a.size + b.size ≤ 9223372036854775807 ∧ K (.sc (.string (a ++ b)))
    | _, _ => False
  | .sub => match x, y with | .sc (.int k a), .sc (.int k' b) => if k = k' then K (.sc (.int k (k.wrap (a - b)))) else False | _, _ => False
  | .mul => match x, y with | .sc (.int k a), .sc (.int k' b) => if k = k' then K (.sc (.int k (k.wrap (a * b)))) else False | _, _ => False
  | .quo => match x, y with | .sc (.int k a), .sc (.int k' b) => if k = k' then b ≠ 0 ∧ K (.sc (.int k (k.wrap (a.tdiv b)))) else False | _, _ => False
  | .rem => match x, y with | .sc (.int k a), .sc (.int k' b) => if k = k' then b ≠ 0 ∧ K (.sc (.int k (a.tmod b))) else False | _, _ => False
  | .lss => match x, y with
    | .sc (.int k a), .sc (.int k' b) => if k = k' then K (.sc (.bool (decide (a < b)))) else False
    | .sc (.string a), .sc (.string b) => K (.sc (.bool (Op.bytesLess a.toList b.toList)))
    | _, _ => False
  | .leq => match x, y with | .sc (.int k a), .sc (.int k' b) => if k = k' then K (.sc (.bool (decide (a ≤ b)))) else False | _, _ => False
  | .gtr => match x, y with
    | .sc (.int k a), .sc (.int k' b) => if k = k' then K (.sc (.bool (decide (a > b)))) else False
    | .sc (.string a), .sc (.string b) => K (.sc (.bool (!(Op.bytesLess a.toList b.toList || (a.toList == b.toList)))))
    | _, _ => False
  | .geq => match x, y with | .sc (.int k a), .sc (.int k' b) => if k = k' then K (.sc (.bool (decide (a ≥ b)))) else False | _, _ => False
  | _ => False

/-- A slice held against nil: an empty one may be nil. -/
def nilC (op : BinOp) (t : Nat) (xs : List AV) : Option Nat :=
  match op with
  | .eql => match (E.T t).ty, xs with
    | .slice _, [.vec _ _ n _, .sc (.slice none 0 0)] => some n
    | _, _ => none
  | _ => none

/-- The parts of a struct literal laid over the zero value. -/
def buildC (fs : List (Nat × Nat)) : List AV → List (Nat × AV) → Option (List AV)
  | cs, [] => some cs
  | cs, (i, v) :: r => match fs[i]? with
    | some (off, t) => if v.cells.length = (E.T t).size ∧ off + v.cells.length ≤ cs.length ∧ v.cells.all okc = true then buildC fs (lay cs off (v.cells.map dm)) r else none
    | none => none
/-- The elements of a slice literal, each told once, in order. -/
def elemsC (es : Nat) : Nat → List (Nat × AV) → Option (List AV)
  | _, [] => some []
  | k, (i, v) :: r => if i = k ∧ v.cells.length = es ∧ v.cells.all okc = true then match elemsC es (k + 1) r with | some l => some (v.cells.map dm ++ l) | none => none else none

/-- A load that takes the right to append out of a shared object must be told. -/
def noTk (d : Option Nat) (tkm : Bool) : Bool := tkm && (match d with | some d => !E.ob d | none => true)

/-- Zero values, n of them. -/
def zsC (n : Nat) (z : List Value) : List AV := ((Builtin.zeroCells z.toArray n).toList).map .sc
/-- May this append be one to a shared slice? -/
def apOk (d : Option Nat) : Bool := match d with | some d => E.ob d | none => false

/-- What an operation does with its operands' values in a memory. -/
def aopC (d : Option Nat) (tkm : Bool) (op : Op) (xs : List AV) (m : Mem) (K : AV → Mem → Prop) : Prop :=
  match op with
  | .move _ | .assign _ => match xs with | [x] => frc x fun x => K x m | _ => False
  | .pick .. => match xs with | [.sc (.bool t), a, b] => (match t with | true => frc a fun a => K a m | false => frc b fun b => K b m) | _ => False
  | .alloc t => match d, (E.T t).zero with
    | some d, some z => if E.esc d then match m with | ⟨bx, gs⟩ => K (.pp (.obj gs.length) 0) ⟨bx, gs ++ [.cells 0 (z.map .sc)]⟩
      else match m with | ⟨bx, gs⟩ => K (.pp (.loc d) 0) ⟨upd bx d (.cells 0 (z.map .sc)), gs⟩
    | _, _ => False
  | .box _ _ => match d, xs with
    | some d, [x] => frcL (x.cells.map dm) fun cs => if cs.all okc = false then False else
      if E.esc d then match m with | ⟨bx, gs⟩ => K (.pp (.obj gs.length) 0) ⟨bx, gs ++ [.cells 0 cs]⟩
      else match m with | ⟨bx, gs⟩ => K (.pp (.loc d) 0) ⟨upd bx d (.cells 0 cs), gs⟩
    | _, _ => False
  | .build t parts => match (E.T t).ty, (E.T t).zero with
    | .struct fs, some z => if (fs.all fun p => (E.T p.2).size != 0) = false then False else match buildC E fs (z.map .sc) ((parts.toList.map (·.1)).zip xs) with
      | some cs => frcL cs fun cs => K (.agg cs) m
      | none => False
    | _, _ => False
  | .buildSlice t len parts => match (E.T t).ty with
    | .slice e => match elemsC (E.T e).size 0 ((parts.toList.map (·.1)).zip xs) with
      | some cs => if parts.size = len ∧ len * (E.T e).size ≤ 16777216 ∧ (E.T e).size ≠ 0 ∧ (E.T e).zero.isSome = true then K (.vec true (E.T e).size len cs) m else False
      | none => False
    | _ => False
  | .load t _ => match xs with
    | [.cp cs off] => ldc E t cs off fun v => K (dm v) m
    | [.pp (.loc p) off] => match m with
      | ⟨bx, gs⟩ => match bx p with
        | .cells ver cs => ldc E t cs off fun v => match v with
          | .vec true e l c => if tkm then K (.vec true e l c) ⟨upd bx p (.cells ver (lay cs off [.vec false e l c])), gs⟩ else K (.vec false e l c) ⟨bx, gs⟩
          | v => K v ⟨bx, gs⟩
        | _ => False
    | [.pp (.obj id) off] => if noTk E d tkm = true then False else ∃ cs, m.gs[id]? = some (.cells 0 cs) ∧ ldc E t cs off fun v => match v with
          | .vec true e l c => if tkm then match m with | ⟨bx, gs⟩ => K (.vec true e l c) ⟨bx, gs.set id (.cells 0 (lay cs off [.vec false e l c]))⟩ else K (.vec false e l c) m
          | v => K v m
    | _ => False
  | .store t _ _ => match xs with
    | [.pp (.loc p) off, x] => if (E.T t).size = 0 then False else frcL x.stc fun vs => if vs.length = (E.T t).size ∧ vs.all okc = true then match m with
      | ⟨bx, gs⟩ => match bx p with
        | .cells ver cs => if off + vs.length ≤ cs.length then frcL (lay cs off vs) fun cs => K .undef ⟨upd bx p (.cells ver cs), gs⟩ else False
        | _ => False
      else False
    | [.pp (.obj id) off, x] => if (E.T t).size = 0 then False else frcL x.stc fun vs => if vs.length = (E.T t).size ∧ vs.all okc = true then (match m with
      | ⟨bx, gs⟩ => ∃ cs, gs[id]? = some (.cells 0 cs) ∧ off + vs.length ≤ cs.length ∧ K .undef ⟨bx, gs.set id (.cells 0 (lay cs off vs))⟩) else False
    | _ => False
  | .nilCheck _ => match xs with
    | [.pp l o] => K (.pp l o) m
    | [.cp c o] => K (.cp c o) m
    | [.fn (.func f) a b] => K (.fn (.func f) a b) m
    | _ => False
  | .binOp op t _ _ _ => match nilC E op t xs with
    | some n => (n = 0 → K (.sc (.bool true)) m) ∧ K (.sc (.bool false)) m
    | none => match xs with | [x, y] => abin E op t x y fun v => K v m | _ => False
  | .unOp .not _ _ => match xs with | [.sc (.bool b)] => K (.sc (.bool (!b))) m | _ => False
  | .unOp .neg _ _ => match xs with | [.sc (.int k a)] => K (.sc (.int k (k.wrap (0 - a)))) m | _ => False
  | .convert s t _ => match (E.T s).ty, (E.T t).ty, xs with
    | .int _, .int k, [.sc (.int _ a)] => K (.sc (.int k (k.wrap a))) m
    | .str, .str, [.sc (.string a)] => K (.sc (.string a)) m
    | .str, .slice e, [.sc (.string a)] => match (E.T e).ty with
      | .int .u8 => if (E.T e).size = 1 then a.size ≤ 9223372036854775807 ∧ K (.vec false 1 a.size (a.toList.map fun b => .sc (.int .u8 b.toNat))) m else False
      | _ => False
    | .slice e, .str, [.vec _ es _ cs] => match (E.T e).ty with
      | .int .u8 => if es = 1 then ∃ l : List UInt8, cs = (l.map fun b => AV.sc (.int .u8 b.toNat)) ∧ K (.sc (.string ⟨l.toArray⟩)) m else False
      | _ => False
    | _, _, _ => False
  | .makeFunc fn first caps => match fn with
    | .func f => if xs.all okv = true ∧ xs.length = first.size + caps.size then frcL (xs.map dm) fun xs => K (.fn (.func f) (xs.take first.size) (xs.drop first.size)) m else False
    | _ => False
  | .makeMap _ none => match d with
    | some d => if E.esc d then match m with | ⟨bx, gs⟩ => K (.mp (.obj gs.length)) ⟨bx, gs ++ [.map []]⟩
      else match m with | ⟨bx, gs⟩ => K (.mp (.loc d)) ⟨upd bx d (.map []), gs⟩
    | none => False
  | .fieldAddr t _ i => match (E.T t).ty with
    | .struct fs => match fs[i]? with
      | some (fo, ft) => if (E.T ft).size = 0 then False else match xs with
        | [.pp l o] => K (.pp l (o + fo)) m
        | [.cp c o] => K (.cp c (o + fo)) m
        | _ => False
      | none => False
    | _ => False
  | .field t _ i => match (E.T t).ty, xs with
    | .struct fs, [.agg cs] => match fs[i]? with
      | some (fo, ft) => ldc E ft cs fo fun v => K (dm v) m
      | none => False
    | _, _ => False
  | .indexAddr t _ _ => match (E.T t).ty, xs with
    | .slice e, [.vec _ es len cs, .sc (.int _ i)] => if es ≠ (E.T e).size ∨ es = 0 then False else (0 ≤ i ∧ i < len) ∧ ∃ c, (cs.drop (i.toNat * es)).take es = c ∧ K (.cp c 0) m
    | .slice e, [.ap (.obj id) _ off len, .sc (.int _ i)] => if (E.T e).size = 0 then False else (0 ≤ i ∧ i < len) ∧ K (.pp (.obj id) (off + i.toNat * (E.T e).size)) m
    | _, _ => False
  | .index t _ _ => match (E.T t).ty, xs with
    | .str, [.sc (.string s), .sc (.int _ i)] => (0 ≤ i ∧ i < s.size) ∧ ∃ b : UInt8, s[i.toNat]? = some b ∧ K (.sc (.int .u8 b.toNat)) m
    | _, _ => False
  | .slice t _ lo hi mx => match mx, (E.T t).ty, xs with
    | none, .str, .sc (.string s) :: r =>
      match (match lo, hi, r with
        | none, none, [] => some ((0 : Int), (s.size : Int))
        | some _, none, [.sc (.int _ l)] => some (l, (s.size : Int))
        | none, some _, [.sc (.int _ h)] => some (0, h)
        | some _, some _, [.sc (.int _ l), .sc (.int _ h)] => some (l, h)
        | _, _, _ => none) with
      | some (l, h) => (0 ≤ l ∧ l ≤ h ∧ h ≤ s.size) ∧ K (.sc (.string (s.extract l.toNat h.toNat))) m
      | none => False
    | none, .slice e, .vec _ es len cs :: r =>
      match (match lo, hi, r with
        | none, none, [] => some ((0 : Int), (len : Int))
        | some _, none, [.sc (.int _ l)] => some (l, (len : Int))
        | none, some _, [.sc (.int _ h)] => some (0, h)
        | some _, some _, [.sc (.int _ l), .sc (.int _ h)] => some (l, h)
        | _, _, _ => none) with
      | some (l, h) => if es ≠ (E.T e).size ∨ es = 0 then False else (0 ≤ l ∧ l ≤ h ∧ h ≤ len) ∧ K (.vec false es (h.toNat - l.toNat) ((cs.drop (l.toNat * es)).take ((h.toNat - l.toNat) * es))) m
      | none => False
    | none, .slice e, .ap (.obj id) cap off len :: r =>
      match (match lo, hi, r with
        | none, none, [] => some ((0 : Int), (len : Int))
        | some _, none, [.sc (.int _ l)] => some (l, (len : Int))
        | none, some _, [.sc (.int _ h)] => some (0, h)
        | some _, some _, [.sc (.int _ l), .sc (.int _ h)] => some (l, h)
        | _, _, _ => none) with
      | some (l, h) => if (E.T e).size = 0 then False else (0 ≤ l ∧ l ≤ h ∧ h ≤ cap) ∧ K (.ap (.obj id) (cap - l.toNat) (if cap = l.toNat then off else off + l.toNat * (E.T e).size) (h.toNat - l.toNat)) m
      | none => False
    | _, _, _ => False
  | .makeSlice t _ _ => match d, (E.T t).ty, xs with
    | some _, .slice e, [.sc (.int _ l), .sc (.int _ c)] => match (E.T e).zero with
      | some z => if (E.T e).size = 0 ∨ zeroOk (E.T e) = false then False else (0 ≤ l ∧ l ≤ c ∧ c * ((E.T e).bytes : Int) ≤ 140737488355328 ∧ c ≤ 9223372036854775807) ∧ (match m with
        | ⟨bx, gs⟩ => K (.ap (.obj gs.length) c.toNat 0 l.toNat) ⟨bx, gs ++ [.cells 0 (zsC c.toNat z)]⟩)
      | none => False
    | _, _, _ => False
  | .extract _ i => match xs with
    | [.tup vs] => match vs[i]? with | some v => frc (dm v) fun v => K v m | none => False
    | _ => False
  | .lookup t _ _ ok => match (E.T t).ty, xs with
    | .map k e, [.mp l, key] => match (E.T e).zero with
      | some z => ∃ es, (match l with | .loc d => m.bx d = .map es | .obj id => m.gs[id]? = some (.map es)) ∧
        (keyOk E k key = true ∧ ∀ p ∈ es, keyOk E k p.1 = true) ∧
        ∃ r, (match es.find? fun p => avEq E k key p.1 == some true with
          | some p => (dm p.2, true)
          | none => ((if isAgg E e then AV.agg (z.map .sc) else (z.map AV.sc).headD .undef), false)) = r ∧
        frc r.1 fun v => if ok then K (.tup [v, .sc (.bool r.2)]) m else K v m
      | none => False
    | _, _ => False
  | .mapUpdate t _ _ _ => match (E.T t).ty, xs with
    | .map k _, [.mp l, key, v] => ∃ es, (match l with | .loc d => m.bx d = .map es | .obj id => m.gs[id]? = some (.map es)) ∧
        (keyOk E k key = true ∧ okv v = true ∧ ∀ p ∈ es, keyOk E k p.1 = true) ∧
        ∃ es', (match es.findIdx? fun p => avEq E k key p.1 == some true with
          | some i => es.set i (key, dm v)
          | none => es ++ [(key, dm v)]) = es' ∧
        (match m, l with
          | ⟨bx, gs⟩, .loc d => K .undef ⟨upd bx d (.map es'), gs⟩
          | ⟨bx, gs⟩, .obj id => K .undef ⟨bx, gs.set id (.map es')⟩)
    | _, _ => False
  | .call { callee := .builtin .len, argTypes, .. } => match argTypes[0]? with
    | some t => match (E.T t).ty, xs with
      | .slice _, [.vec _ _ n _] => K (.sc (.int .i64 n)) m
      | .slice _, [.ap _ _ _ n] => K (.sc (.int .i64 n)) m
      | .slice _, [.sc (.slice none 0 _)] => K (.sc (.int .i64 0)) m
      | .str, [.sc (.string s)] => K (.sc (.int .i64 s.size)) m
      | .map _ _, [.mp (.loc d)] => match m.bx d with | .map es => K (.sc (.int .i64 es.length)) m | _ => False
      | .map _ _, [.mp (.obj id)] => ∃ es, m.gs[id]? = some (.map es) ∧ K (.sc (.int .i64 es.length)) m
      | _, _ => False
    | none => False
  | .call { callee := .builtin .append, argTypes, .. } => match d, argTypes.toList with
    | some _, [t, t'] => if t ≠ t' then False else match (E.T t).ty with
      | .slice e =>
        let es := (E.T e).size
        match xs with
        | [.sc (.slice none 0 0), .sc (.slice none 0 0)] => if es = 0 ∨ zeroOk (E.T e) = false then False else K (.sc (.slice none 0 0)) m
        | [.sc (.slice none 0 0), .vec _ es' n cs] => if es' ≠ es ∨ es = 0 ∨ zeroOk (E.T e) = false then False else (n ≤ 9223372036854775807 ∧ n * (E.T e).bytes ≤ 140737488355328) ∧ K (.vec true es n cs) m
        | [.vec true es1 n1 c1, .sc (.slice none 0 0)] => if es = 0 ∨ zeroOk (E.T e) = false then False else K (.vec true es1 n1 c1) m
        | [.vec true es1 n1 c1, .vec _ es2 n2 c2] => if es1 ≠ es ∨ es2 ≠ es ∨ es = 0 ∨ zeroOk (E.T e) = false then False else (n1 + n2 ≤ 9223372036854775807 ∧ (n1 + n2) * (E.T e).bytes ≤ 140737488355328 ∧ c2.all okc = true) ∧ K (.vec true es (n1 + n2) (c1 ++ c2)) m
        | [.ap (.obj id) cap off n1, .vec _ es2 n2 c2] => if apOk E d = false ∨ es2 ≠ es ∨ es = 0 ∨ zeroOk (E.T e) = false then False else match m with
          | ⟨bx, gs⟩ => ∃ cs, gs[id]? = some (.cells 0 cs) ∧ (0 < n2 ∧ n1 + n2 ≤ cap ∧ off + n1 * es + n2 * es ≤ cs.length ∧ c2.all okc = true ∧ c2.map dm = c2) ∧ K (.ap (.obj id) cap off (n1 + n2)) ⟨bx, gs.set id (.cells 0 (lay cs (off + n1 * es) c2))⟩
        | _ => False
      | _ => False
    | _, _ => False
  | .call { callee := .builtin .delete, argTypes, .. } => match argTypes[0]? with
    | some t => match (E.T t).ty, xs with
      | .map k _, [.mp l, key] => ∃ es, (match l with | .loc d => m.bx d = .map es | .obj id => m.gs[id]? = some (.map es)) ∧
        (keyOk E k key = true ∧ ∀ p ∈ es, keyOk E k p.1 = true) ∧
        ∃ es', (match es.findIdx? fun p => avEq E k key p.1 == some true with
          | some i => es.eraseIdx i
          | none => es) = es' ∧
        (match m, l with
          | ⟨bx, gs⟩, .loc d => K .undef ⟨upd bx d (.map es'), gs⟩
          | ⟨bx, gs⟩, .obj id => K .undef ⟨bx, gs.set id (.map es')⟩)
      | _, _ => False
    | none => False
  | .call { callee := .builtin .clear, argTypes, .. } => match argTypes[0]? with
    | some t => match (E.T t).ty, xs with
      | .slice e, [.ap (.obj id) _ off n] => match (E.T e).zero with
        | some z => if (E.T e).size = 0 ∨ zeroOk (E.T e) = false ∨ (z.map AV.sc).all okc = false then False else match m with
          | ⟨bx, gs⟩ => ∃ cs, gs[id]? = some (.cells 0 cs) ∧ off + n * (E.T e).size ≤ cs.length ∧ K .undef ⟨bx, gs.set id (.cells 0 (lay cs off (zsC n z)))⟩
        | none => False
      | _, _ => False
    | none => False
  | .call { callee := .value _, .. } => match xs with
    | .fn (.func g) first caps :: args => if args.all okv = true then frcL args fun args => E.C g (first.map dm ++ args ++ caps.map dm) m.gs fun v gs => if E.ro g then gs = m.gs ∧ frc v fun v => K v m else match m with | ⟨bx, _⟩ => frc v fun v => K v ⟨bx, gs⟩ else False
    | _ => False
  | _ => False

/-- Is slot d the first of these operands? -/
def firstIs (args : Array Operand) (d : Option Nat) : Bool :=
  match args.toList, d with
  | .tmp t :: _, some d => t == d
  | _, _ => false
/-- Is slot d appended to by this operation? -/
def takesIt (d : Option Nat) (o : Oper) : Bool :=
  match o.op with
  | .call { callee := .builtin .append, args, .. } => firstIs args d
  | .call { callee := .value (.func g), args, .. } => E.oa g && firstIs args d
  | _ => false
/-- Which operand an operation takes over, with the right to append. -/
def tki (all : List Oper) (o : Oper) : Option Nat :=
  match o.op with
  | .assign _ => match (E.T o.type).ty with | .slice _ => some 0 | _ => none
  | .store _ _ _ => some 1
  | .move _ => if all.any (takesIt E o.dst) || (match o.dst with | some d => E.ob d | none => false) then some 0 else none
  | .call { callee := .builtin .append, .. } => some 0
  | .call { callee := .value (.func g), .. } => if E.oa g then some 1 else none
  | _ => none
/-- Is what is loaded appended to? -/
def tkl (all : List Oper) (o : Oper) : Bool :=
  match o.op with
  | .load _ _ => all.any (takesIt E o.dst)
  | _ => false

def evo (f : Nat → AV) : Operand → AV
  | .tmp t => f t
  | .const v => ofV v
  | .func g => .fn (.func g) [] []
  | .global _ => .undef

/-- The operands' values: one of them with the right to append. -/
def opvs (f : Nat → AV) (tk : Option Nat) : Nat → List Operand → List AV
  | _, [] => []
  | k, x :: r => (if tk = some k then evo f x else dm (evo f x)) :: opvs f tk (k + 1) r

/-- The slot that is taken from holds its value still, but not the right. -/
def clr (f : Nat → AV) (tk : Option Nat) (xs : List Operand) : Nat → AV :=
  match tk with
  | some k => match xs[k]? with
    | some (.tmp t) => match f t with
      | .vec true e l c => upd f t (.vec false e l c)
      | _ => f
    | _ => f
  | none => f

def isMk : Op → Bool
  | .alloc _ | .box _ _ | .makeMap _ _ => true
  | _ => false
/-- A box that is made anew: who pointed into the elder one points nowhere. -/
def killV (d : Nat) : AV → AV
  | .pp (.loc p) o => if p = d then .undef else .pp (.loc p) o
  | .mp (.loc p) => if p = d then .undef else .mp (.loc p)
  | .ap (.loc p) a b c => if p = d then .undef else .ap (.loc p) a b c
  | v => v
def killF (d : Nat) (f : Nat → AV) : Nat → AV := fun t => killV d (f t)
/-- The slots behind an operation: who pointed into a box that is made anew is struck, the result is put. -/
def fin (mk : Bool) (bx : Nat → AObj) (d : Option Nat) (v : AV) (f : Nat → AV) (K : (Nat → AV) → Prop) : Prop :=
  match d with
  | none => K f
  | some d => match mk with
    | false => K (upd f d v)
    | true => match bx d with
      | .dead => K (upd f d v)
      | _ => K (upd (killF d f) d v)
def finF (mk : Bool) (bx : Nat → AObj) (d : Option Nat) (v : AV) (f : Nat → AV) : Nat → AV :=
  match d with
  | none => f
  | some d => match mk with
    | false => upd f d v
    | true => match bx d with
      | .dead => upd f d v
      | _ => upd (killF d f) d v
theorem fin_eq (mk : Bool) (bx : Nat → AObj) (d : Option Nat) (v : AV) (f : Nat → AV) (K : (Nat → AV) → Prop) : fin mk bx d v f K = K (finF mk bx d v f) := by
  unfold fin finF; cases d with
  | none => rfl
  | some d => cases mk with
    | false => rfl
    | true => dsimp only; cases bx d <;> rfl
def clrK (f : Nat → AV) (tk : Option Nat) (xs : List Operand) (K : (Nat → AV) → Prop) : Prop :=
  match tk with
  | none => K f
  | some k => match xs[k]? with
    | some (.tmp t) => match f t with
      | .vec true e l c => K (upd f t (.vec false e l c))
      | _ => K f
    | _ => K f
theorem clrK_eq (f : Nat → AV) (tk : Option Nat) (xs : List Operand) (K : (Nat → AV) → Prop) : clrK f tk xs K = K (clr f tk xs) := by
  unfold clrK clr
  cases tk with
  | none => rfl
  | some k =>
    dsimp only
    cases xs[k]? with
    | none => rfl
    | some x => cases x with
      | tmp t => dsimp only; split <;> rfl
      | _ => rfl

def aop (all : List Oper) (o : Oper) (st : ASt) (K : ASt → Prop) : Prop :=
  match st with
  | ⟨f, m⟩ => aopC E o.dst (tkl E all o) o.op (opvs f (tki E all o) 0 o.op.operands.toList) m fun v m' =>
      clrK f (tki E all o) o.op.operands.toList fun f' => fin (isMk o.op) m.bx o.dst v f' fun f'' => K ⟨f'', m'⟩

def gslot (all : List Oper) (j : Nat) : Option Nat := match all[j]? with | some o => o.dst | none => none

/-- What a slot holds whose operation was passed over. -/
def skipV : AV := .sc (.tuple #[])

def astep (all : List Oper) (o : Oper) (st : ASt) (K : ASt → Prop) : Prop :=
  match o.guard with
  | none => aop E all o st K
  | some (j, want) => match gslot all j, st with
    | some g, ⟨f, m⟩ => match f g with
      | .sc (.bool b) => (match b with
        | true => match want with
          | true => aop E all o ⟨upd f g (.sc (.bool true)), m⟩ K
          | false => fin false m.bx o.dst (.sc (.tuple #[])) (upd f g (.sc (.bool true))) fun f => K ⟨f, m⟩
        | false => match want with
          | false => aop E all o ⟨upd f g (.sc (.bool false)), m⟩ K
          | true => fin false m.bx o.dst (.sc (.tuple #[])) (upd f g (.sc (.bool false))) fun f => K ⟨f, m⟩)
      | .sc (.tuple _) => fin false m.bx o.dst (.sc (.tuple #[])) f fun f => K ⟨f, m⟩
      | _ => False
    | none, _ => False

def aops (all : List Oper) : List Oper → ASt → (ASt → Prop) → Prop
  | [], st, K => K st
  | o :: os, st, K => astep E all o st fun st => aops all os st K

/-- The same, with calls that answer one value in one memory. -/
def Env.exact (E : Env) : Env := { E with C := fun g args gs K => ∃ v gs', E.C g args gs (fun a b => a = v ∧ b = gs') ∧ K v gs' }

end
end Go.Proofs.YtjchgncgkhofhaaGreat.AL
/- The A-logic: what it says of real memory that a value stands for an abstract one. -/
namespace Go.Proofs.YtjchgncgkhofhaaGreat.AL
open Go

/-- Where frozen things are read: a world, the cells that never change again, the blocks of the shared objects by number and version. -/
structure Wz where
  w : World
  Z : Nat → Nat → Prop
  H : Nat → Nat → Nat → Prop

mutual
def R (c : Wz) : AV → Value → Prop
  | .undef, _ => True
  | .sc v, v' => v' = v
  | .vec own es len cs, v' => (∃ a cap, v' = .slice (some a) len cap ∧ a.spot = none ∧ len ≤ cap ∧ cap ≤ maxLen ∧ cs.length = len * es ∧ RZ c a.block a.off cs) ∨ (len = 0 ∧ cs = [] ∧ ∃ A, v' = .slice A 0 0 ∧ (own = true → A = none))
  | .agg cs, v' => ∃ vs : List Value, v' = .agg vs.toArray ∧ RL c cs vs
  | .tup cs, v' => ∃ vs : List Value, v' = .tuple vs.toArray ∧ RL c cs vs
  | .fn f fs cs, v' => ∃ as bs : List Value, v' = .func f as.toArray bs.toArray ∧ RL c fs as ∧ RL c cs bs
  | .ifc t x, v' => ∃ v, v' = .iface t v ∧ R c x v
  | .pp (.obj id) off, v' => ∃ b, v' = .pointer (some ⟨b, off, none⟩) ∧ c.H id 0 b
  | .pp (.loc _) _, _ => False
  | .cp cs off, v' => ∃ a, v' = .pointer (some a) ∧ a.spot = none ∧ off ≤ a.off ∧ RZ c a.block (a.off - off) cs
  | .mp (.obj id), v' => ∃ b, v' = .map (some b) ∧ c.H id 0 b
  | .mp (.loc _), _ => False
  | .ap (.obj id) cap off len, v' => ∃ b, v' = .slice (some ⟨b, off, none⟩) len cap ∧ len ≤ cap ∧ cap ≤ maxLen ∧ c.H id 0 b
  | .ap (.loc _) _ _ _, _ => False
def RL (c : Wz) : List AV → List Value → Prop
  | [], vs => vs = []
  | x :: xs, vs => ∃ v r, vs = v :: r ∧ R c x v ∧ RL c xs r
def RZ (c : Wz) : Nat → Nat → List AV → Prop
  | _, _, [] => True
  | b, o, x :: xs => (∃ v, c.w.cell? ⟨b, o, none⟩ = some v ∧ c.Z b o ∧ R c x v) ∧ RZ c b (o + 1) xs
end

/-- What is frozen stays, objects keep their blocks. -/
structure Wz.le (c c' : Wz) : Prop where
  z : ∀ b o, c.Z b o → c'.Z b o ∧ c'.w.cell? ⟨b, o, none⟩ = c.w.cell? ⟨b, o, none⟩
  h : ∀ i v b, c.H i v b → c'.H i v b

theorem Wz.le.refl (c : Wz) : Wz.le c c := ⟨fun _ _ h => ⟨h, rfl⟩, fun _ _ _ h => h⟩
theorem Wz.le.trans {a b c : Wz} (h : Wz.le a b) (k : Wz.le b c) : Wz.le a c :=
  ⟨fun x o hz => ⟨(k.z x o (h.z x o hz).1).1, ((k.z x o (h.z x o hz).1).2).trans (h.z x o hz).2⟩, fun i v b hh => k.h i v b (h.h i v b hh)⟩

mutual
theorem R_mono {c c' : Wz} (hc : Wz.le c c') : ∀ (x : AV) (v : Value), R c x v → R c' x v
  | .undef, _, _ => by simp [R]
  | .sc _, _, h => by simpa [R] using h
  | .vec _ _ _ cs, _, h => by
    simp only [R] at h ⊢
    rcases h with ⟨a, cap, h1, h2, h3, h4, h5, h6⟩ | h
    · exact .inl ⟨a, cap, h1, h2, h3, h4, h5, RZ_mono hc cs _ _ h6⟩
    · exact .inr h
  | .agg cs, _, h => by
    simp only [R] at h ⊢
    obtain ⟨vs, h1, h2⟩ := h
    exact ⟨vs, h1, RL_mono hc cs _ h2⟩
  | .tup cs, _, h => by
    simp only [R] at h ⊢
    obtain ⟨vs, h1, h2⟩ := h
    exact ⟨vs, h1, RL_mono hc cs _ h2⟩
  | .fn _ fs cs, _, h => by
    simp only [R] at h ⊢
    obtain ⟨as, bs, h1, h2, h3⟩ := h
    exact ⟨as, bs, h1, RL_mono hc fs _ h2, RL_mono hc cs _ h3⟩
  | .ifc _ x, _, h => by
    simp only [R] at h ⊢
    obtain ⟨v, h1, h2⟩ := h
    exact ⟨v, h1, R_mono hc x _ h2⟩
  | .pp (.obj _) _, _, h => by
    simp only [R] at h ⊢
    obtain ⟨b, h1, h2⟩ := h
    exact ⟨b, h1, hc.h _ _ _ h2⟩
  | .pp (.loc _) _, _, h => by simp [R] at h
  | .cp cs _, _, h => by
    simp only [R] at h ⊢
    obtain ⟨a, h1, h2, h3, h4⟩ := h
    exact ⟨a, h1, h2, h3, RZ_mono hc cs _ _ h4⟩
  | .mp (.obj _), _, h => by
    simp only [R] at h ⊢
    obtain ⟨b, h1, h2⟩ := h
    exact ⟨b, h1, hc.h _ _ _ h2⟩
  | .mp (.loc _), _, h => by simp [R] at h
  | .ap (.obj _) _ _ _, _, h => by
    simp only [R] at h ⊢
    obtain ⟨b, h1, h2, h3, h4⟩ := h
    exact ⟨b, h1, h2, h3, hc.h _ _ _ h4⟩
  | .ap (.loc _) _ _ _, _, h => by simp [R] at h
theorem RL_mono {c c' : Wz} (hc : Wz.le c c') : ∀ (xs : List AV) (vs : List Value), RL c xs vs → RL c' xs vs
  | [], _, h => by simpa [RL] using h
  | x :: xs, _, h => by
    simp only [RL] at h ⊢
    obtain ⟨v, r, h1, h2, h3⟩ := h
    exact ⟨v, r, h1, R_mono hc x _ h2, RL_mono hc xs _ h3⟩
theorem RZ_mono {c c' : Wz} (hc : Wz.le c c') : ∀ (xs : List AV) (b o : Nat), RZ c b o xs → RZ c' b o xs
  | [], _, _, _ => by simp [RZ]
  | x :: xs, b, o, h => by
    simp only [RZ] at h ⊢
    obtain ⟨⟨v, h1, h2, h3⟩, h4⟩ := h
    exact ⟨⟨v, (hc.z b o h2).2.trans h1, (hc.z b o h2).1, R_mono hc x _ h3⟩, RZ_mono hc xs _ _ h4⟩
end

/-! ### Lists of values -/
theorem RL_length {c : Wz} : ∀ (xs : List AV) (vs : List Value), RL c xs vs → vs.length = xs.length
  | [], _, h => by simp only [RL] at h; subst h; rfl
  | x :: xs, _, h => by
    simp only [RL] at h
    obtain ⟨v, r, rfl, _, h3⟩ := h
    simp [RL_length xs r h3]
theorem RL_cons {c : Wz} {x : AV} {xs : List AV} {v : Value} {vs : List Value} : RL c (x :: xs) (v :: vs) ↔ R c x v ∧ RL c xs vs := by
  constructor
  · intro h; simp only [RL] at h; obtain ⟨v', r, e, h1, h2⟩ := h; injection e with e1 e2; subst e1; subst e2; exact ⟨h1, h2⟩
  · rintro ⟨h1, h2⟩; simp only [RL]; exact ⟨v, vs, rfl, h1, h2⟩
theorem RL_nil {c : Wz} : RL c [] [] := by simp [RL]
theorem RL_get {c : Wz} : ∀ (xs : List AV) (vs : List Value), RL c xs vs → ∀ (i : Nat) (x : AV), xs[i]? = some x → ∃ v : Value, vs[i]? = some v ∧ R c x v
  | [], _, _, i, x, hx => by simp at hx
  | y :: xs, _, h, i, x, hx => by
    simp only [RL] at h
    obtain ⟨v, r, rfl, h2, h3⟩ := h
    cases i with
    | zero => simp at hx; subst hx; exact ⟨v, rfl, h2⟩
    | succ i => simpa using RL_get xs r h3 i x (by simpa using hx)
theorem RL_append {c : Wz} : ∀ (xs ys : List AV) (vs ws : List Value), RL c xs vs → RL c ys ws → RL c (xs ++ ys) (vs ++ ws)
  | [], _, _, _, h, k => by simp only [RL] at h; subst h; simpa using k
  | x :: xs, ys, _, ws, h, k => by
    simp only [RL] at h
    obtain ⟨v, r, rfl, h2, h3⟩ := h
    exact RL_cons.2 ⟨h2, RL_append xs ys r ws h3 k⟩
theorem RL_take {c : Wz} : ∀ (n : Nat) (xs : List AV) (vs : List Value), RL c xs vs → RL c (xs.take n) (vs.take n)
  | 0, _, _, _ => by simp [RL]
  | n + 1, [], _, h => by simp only [RL] at h; subst h; simp [RL]
  | n + 1, x :: xs, _, h => by
    simp only [RL] at h
    obtain ⟨v, r, rfl, h2, h3⟩ := h
    exact RL_cons.2 ⟨h2, RL_take n xs r h3⟩
theorem RL_drop {c : Wz} : ∀ (n : Nat) (xs : List AV) (vs : List Value), RL c xs vs → RL c (xs.drop n) (vs.drop n)
  | 0, _, _, h => h
  | n + 1, [], _, h => by simp only [RL] at h; subst h; simp [RL]
  | n + 1, x :: xs, _, h => by
    simp only [RL] at h
    obtain ⟨v, r, rfl, h2, h3⟩ := h
    exact RL_drop n xs r h3
theorem RL_split {c : Wz} : ∀ (xs ys : List AV) (vs : List Value), RL c (xs ++ ys) vs → ∃ a b, vs = a ++ b ∧ RL c xs a ∧ RL c ys b
  | [], ys, vs, h => ⟨[], vs, rfl, by simp [RL], h⟩
  | x :: xs, ys, _, h => by
    simp only [List.cons_append, RL] at h
    obtain ⟨v, r, rfl, h2, h3⟩ := h
    obtain ⟨a, b, rfl, h4, h5⟩ := RL_split xs ys r h3
    exact ⟨v :: a, b, rfl, RL_cons.2 ⟨h2, h4⟩, h5⟩

/-! ### Without the right to append -/
theorem R_dm {c : Wz} {x : AV} {v : Value} (h : R c x v) : R c (dm x) v := by
  cases x with
  | vec b e n cs =>
    simp only [R, dm] at h ⊢
    rcases h with h | ⟨h1, h2, A, h3, _⟩
    · exact .inl h
    · exact .inr ⟨h1, h2, A, h3, fun e => by cases e⟩
  | _ => first | exact h | simpa [dm, R] using h
theorem RL_dm {c : Wz} : ∀ (xs : List AV) (vs : List Value), RL c xs vs → RL c (xs.map dm) vs
  | [], _, h => h
  | x :: xs, _, h => by
    simp only [RL] at h
    obtain ⟨v, r, rfl, h2, h3⟩ := h
    exact RL_cons.2 ⟨R_dm h2, RL_dm xs r h3⟩
theorem RL_sc {c : Wz} : ∀ vs : List Value, RL c (vs.map .sc) vs
  | [] => RL_nil
  | v :: vs => RL_cons.2 ⟨by simp [R], RL_sc vs⟩

/-! ### Frozen cells -/
theorem RZ_get {c : Wz} : ∀ (xs : List AV) (b o : Nat), RZ c b o xs → ∀ (i : Nat) (x : AV), xs[i]? = some x → ∃ v, c.w.cell? ⟨b, o + i, none⟩ = some v ∧ c.Z b (o + i) ∧ R c x v
  | [], _, _, _, _, _, hx => by simp at hx
  | y :: xs, b, o, h, i, x, hx => by
    simp only [RZ] at h
    obtain ⟨h1, h2⟩ := h
    cases i with
    | zero => simp at hx; subst hx; exact h1
    | succ i =>
      have := RZ_get xs b (o + 1) h2 i x (by simpa using hx)
      rwa [show o + (i + 1) = o + 1 + i from by omega]
theorem RZ_drop {c : Wz} : ∀ (n : Nat) (xs : List AV) (b o : Nat), RZ c b o xs → RZ c b (o + n) (xs.drop n)
  | 0, _, _, _, h => h
  | n + 1, [], _, _, _ => by simp [RZ]
  | n + 1, x :: xs, b, o, h => by
    simp only [RZ] at h
    have := RZ_drop n xs b (o + 1) h.2
    rwa [show o + (n + 1) = o + 1 + n from by omega, List.drop_succ_cons]
theorem RZ_take {c : Wz} : ∀ (n : Nat) (xs : List AV) (b o : Nat), RZ c b o xs → RZ c b o (xs.take n)
  | 0, _, _, _, _ => by simp [RZ]
  | n + 1, [], _, _, _ => by simp [RZ]
  | n + 1, x :: xs, b, o, h => by
    simp only [RZ, List.take_succ_cons] at h ⊢
    exact ⟨h.1, RZ_take n xs b (o + 1) h.2⟩
theorem RZ_append {c : Wz} : ∀ (xs ys : List AV) (b o : Nat), RZ c b o xs → RZ c b (o + xs.length) ys → RZ c b o (xs ++ ys)
  | [], _, _, _, _, k => by simpa using k
  | x :: xs, ys, b, o, h, k => by
    simp only [RZ, List.cons_append] at h ⊢
    exact ⟨h.1, RZ_append xs ys b (o + 1) h.2 (by rwa [show o + 1 + xs.length = o + (x :: xs).length from by simp; omega])⟩
/-- The values that frozen cells hold. -/
theorem RZ_vals {c : Wz} : ∀ (xs : List AV) (b o : Nat), RZ c b o xs → ∃ vs, RL c xs vs ∧ ∀ (i : Nat) (v : Value), vs[i]? = some v → c.w.cell? ⟨b, o + i, none⟩ = some v
  | [], _, _, _ => ⟨[], RL_nil, by simp⟩
  | x :: xs, b, o, h => by
    simp only [RZ] at h
    obtain ⟨⟨v, h1, _, h3⟩, h4⟩ := h
    obtain ⟨vs, k1, k2⟩ := RZ_vals xs b (o + 1) h4
    refine ⟨v :: vs, RL_cons.2 ⟨h3, k1⟩, fun i u hu => ?_⟩
    cases i with
    | zero => simp at hu; subst hu; exact h1
    | succ i =>
      have := k2 i u (by simpa using hu)
      rwa [show o + (i + 1) = o + 1 + i from by omega]
theorem RZ_dm {c : Wz} : ∀ (xs : List AV) (b o : Nat), RZ c b o xs → RZ c b o (xs.map dm)
  | [], _, _, _ => by simp [RZ]
  | x :: xs, b, o, h => by
    simp only [RZ, List.map_cons] at h ⊢
    obtain ⟨⟨v, h1, h2, h3⟩, h4⟩ := h
    exact ⟨⟨v, h1, h2, R_dm h3⟩, RZ_dm xs b (o + 1) h4⟩
/-- Cells that are frozen now and hold such values. -/
theorem RZ_of {c : Wz} : ∀ (xs : List AV) (vs : List Value) (b o : Nat), RL c xs vs → (∀ (i : Nat) (v : Value), vs[i]? = some v → c.w.cell? ⟨b, o + i, none⟩ = some v) → (∀ i, i < vs.length → c.Z b (o + i)) → RZ c b o xs
  | [], _, _, _, _, _, _ => by simp [RZ]
  | x :: xs, _, b, o, h, hw, hz => by
    simp only [RL] at h
    obtain ⟨v, r, rfl, h2, h3⟩ := h
    simp only [RZ]
    refine ⟨⟨v, by simpa using hw 0 v rfl, by simpa using hz 0 (by simp), h2⟩, RZ_of xs r b (o + 1) h3 (fun i u hu => ?_) (fun i hi => ?_)⟩
    · have := hw (i + 1) u (by simpa using hu)
      rwa [show o + (i + 1) = o + 1 + i from by omega] at this
    · have := hz (i + 1) (by simpa using hi)
      rwa [show o + (i + 1) = o + 1 + i from by omega] at this

/-! ### Constants -/
theorem R_const {c : Wz} (v : Value) : R c (ofV v) v := by
  unfold ofV
  split
  · rename_i cs; simp only [R]; exact ⟨cs.toList, by simp, RL_sc _⟩
  · rename_i f a b; simp only [R]; exact ⟨a.toList, b.toList, by simp, RL_sc _, RL_sc _⟩
  · simp [R]
end Go.Proofs.YtjchgncgkhofhaaGreat.AL
/- The A-logic: what it says of a frame and of memory that they stand for an abstract state; how that is kept. -/
set_option linter.unusedVariables false
set_option linter.unusedSimpArgs false
namespace Go.Proofs.YtjchgncgkhofhaaGreat.AL
open Go

structure Gh where
  Z : Nat → Nat → Prop
  H : Nat → Nat → Nat → Prop
  F : Nat → Prop
def Gh.wz (G : Gh) (w : World) : Wz := ⟨w, G.Z, G.H⟩

inductive Pos where
  | blk (l : Loc)
  | slot (t : Nat)
  | cell (l : Loc) (j : Nat)

def look (m : Mem) : Loc → AObj
  | .loc d => m.bx d
  | .obj id => m.gs.getD id .dead
def alive : AObj → Prop
  | .dead => False
  | _ => True
def Blk (L : Nat → Nat) (H : Nat → Nat → Nat → Prop) : Loc → AObj → Nat → Prop
  | .loc d, _, b => b = L d
  | .obj id, .cells ver _, b => H id ver b
  | .obj id, .map _, b => H id 0 b
  | .obj _, .dead, _ => False

/-- What a slot holds. -/
def RS (c : Wz) (bx : Nat → AObj) (L : Nat → Nat) (x : AV) (v : Value) : Prop :=
  match x with
  | .pp (.loc d) off => (∃ ver cs, bx d = .cells ver cs) ∧ v = .pointer (some ⟨L d, off, none⟩)
  | .mp (.loc d) => (∃ es, bx d = .map es) ∧ v = .map (some (L d))
  | .ap (.loc _) _ _ _ => False
  | x => R c x v
theorem RS_of_R {c : Wz} {bx : Nat → AObj} {L : Nat → Nat} {x : AV} {v : Value} (h : R c x v) : RS c bx L x v := by
  unfold RS
  split
  · simp [R] at h
  · simp [R] at h
  · simp [R] at h
  · exact h
theorem R_of_RS {c : Wz} {bx : Nat → AObj} {L : Nat → Nat} {x : AV} {v : Value} (h : RS c bx L x v) (hx : okv x = true) : R c x v := by
  unfold RS at h
  split at h
  · simp [okv] at hx
  · simp [okv] at hx
  · exact h.elim
  · exact h
theorem RS_dm {c : Wz} {bx : Nat → AObj} {L : Nat → Nat} {x : AV} {v : Value} (h : RS c bx L x v) : RS c bx L (dm x) v := by
  cases x with
  | vec b e n cs =>
    simp only [RS, R, dm] at h ⊢
    rcases h with h | ⟨h1, h2, A, h3, _⟩
    · exact .inl h
    · exact .inr ⟨h1, h2, A, h3, fun e => by cases e⟩
  | _ => exact h

def RM (c : Wz) : List (AV × AV) → List MapEntry → Prop
  | [], l => l = []
  | p :: es, l => ∃ e r, l = e :: r ∧ R c p.1 e.key ∧ R c p.2 e.val ∧ RM c es r
theorem RM_mono {c c' : Wz} (hc : Wz.le c c') : ∀ es l, RM c es l → RM c' es l
  | [], _, h => h
  | p :: es, _, h => by
    obtain ⟨e, r, rfl, h1, h2, h3⟩ := h
    exact ⟨e, r, rfl, R_mono hc _ _ h1, R_mono hc _ _ h2, RM_mono hc es r h3⟩

def ORel (c : Wz) (b : Nat) : AObj → Prop
  | .dead => True
  | .cells _ cs => ∃ (vs : Array Value) (T : TypeId), c.w.heap[b]? = some (.cells vs T (0, 0)) ∧ cs.length ≤ vs.size ∧ RL c cs (vs.toList.take cs.length)
  | .map es => ∃ (ents : Array MapEntry) (clock : Nat), c.w.heap[b]? = some (.map ents clock) ∧ RM c es ents.toList

/-- A slice that may be appended to: its block is owned from that place, nothing behind its length is frozen. -/
def VOk (w : World) (Z : Nat → Nat → Prop) (ow : Nat → Option Pos) (p : Pos) (x : AV) (v : Value) : Prop :=
  ∀ e n cs a k, x = .vec true e n cs → v = .slice (some a) n k → ow a.block = some p ∧
    ∃ (vs : Array Value) (T : TypeId), w.heap[a.block]? = some (.cells vs T (0, 0)) ∧ a.off + k * e ≤ vs.size ∧ ∀ o, Z a.block o → o < a.off + n * e

def notFl : AV → Prop
  | .vec true _ _ _ => False
  | _ => True
theorem notFl_dm (x : AV) : notFl (dm x) := by cases x <;> simp [dm, notFl]
theorem VOk_plain {w : World} {Z : Nat → Nat → Prop} {ow : Nat → Option Pos} {p : Pos} {x : AV} {v : Value} (h : notFl x) : VOk w Z ow p x v := by
  intro e n cs a k hx
  subst hx
  exact absurd h (by simp [notFl])

structure HRel (m : Mem) (S : Nat → AV) (V : Nat → Value) (w : World) (L : Nat → Nat) (G : Gh) (ow : Nat → Option Pos) : Prop where
  sl : ∀ t, RS (G.wz w) m.bx L (S t) (V t)
  ob : ∀ l, alive (look m l) → ∃ b, Blk L G.H l (look m l) b ∧ ORel (G.wz w) b (look m l) ∧ b < w.heap.size ∧ ow b = some (.blk l) ∧ ∀ o, ¬ G.Z b o
  so : ∀ t, VOk w G.Z ow (.slot t) (S t) (V t)
  co : ∀ l ver cs b vs T j x v, look m l = .cells ver cs → Blk L G.H l (look m l) b → w.heap[b]? = some (.cells vs T (0, 0)) → cs[j]? = some x → vs[j]? = some v → VOk w G.Z ow (.cell l j) x v
  zb : ∀ b o, G.Z b o → b < w.heap.size
  fb : ∀ b, G.F b → b < w.heap.size ∧ ow b = none
  hd : ∀ i v b, G.H i v b → i < m.gs.length ∧ b < w.heap.size
  hf : ∀ i v b b', G.H i v b → G.H i v b' → b = b'

/-- The world has grown: what was there is as it was. -/
structure Grow (w w' : World) : Prop where
  size : w.heap.size ≤ w'.heap.size
  old : ∀ b, b < w.heap.size → w'.heap[b]? = w.heap[b]?
  os : w'.os = w.os
  output : w'.output = w.output
  tape : w'.tape = w.tape
theorem Grow.refl (w : World) : Grow w w := ⟨Nat.le_refl _, fun _ _ => rfl, rfl, rfl, rfl⟩
theorem Grow.trans {a b c : World} (h : Grow a b) (k : Grow b c) : Grow a c :=
  ⟨Nat.le_trans h.size k.size, fun i hi => (k.old i (Nat.lt_of_lt_of_le hi h.size)).trans (h.old i hi), k.os.trans h.os, k.output.trans h.output, k.tape.trans h.tape⟩
theorem Grow.alloc (w : World) (o : Obj) : Grow w (w.alloc o) :=
  ⟨by show w.heap.size ≤ (w.heap.push o).size; simp, fun b hb => by show (w.heap.push o)[b]? = _; rw [Array.getElem?_push, if_neg (by omega)], rfl, rfl, rfl⟩
theorem Grow.drew (w : World) : Grow w w.drew := ⟨Nat.le_refl _, fun _ _ => rfl, rfl, rfl, rfl⟩
theorem Grow.cell {w w' : World} (h : Grow w w') {a : Addr} (ha : a.block < w.heap.size) : w'.cell? a = w.cell? a := by
  unfold World.cell?; rw [h.old _ ha]

/-- How a call or an operation may turn the world: what is frozen stays, the foreign blocks stay whole. -/
structure Ext (w : World) (G : Gh) (w' : World) (G' : Gh) : Prop where
  le : Wz.le (G.wz w) (G'.wz w')
  F : G'.F = G.F
  keep : ∀ b, G.F b → w'.heap[b]? = w.heap[b]?
  zf : ∀ b o, G.F b → G'.Z b o → G.Z b o
  size : w.heap.size ≤ w'.heap.size
  os : w'.os = w.os
  output : w'.output = w.output
  tape : w'.tape = w.tape
theorem Ext.refl (w : World) (G : Gh) : Ext w G w G := ⟨.refl _, rfl, fun _ _ => rfl, fun _ _ _ h => h, Nat.le_refl _, rfl, rfl, rfl⟩
theorem Ext.trans {w1 w2 w3 : World} {G1 G2 G3 : Gh} (h : Ext w1 G1 w2 G2) (k : Ext w2 G2 w3 G3) : Ext w1 G1 w3 G3 :=
  ⟨h.le.trans k.le, k.F.trans h.F, fun b hb => (k.keep b (by rw [h.F]; exact hb)).trans (h.keep b hb), fun b o hb hz => h.zf b o hb (k.zf b o (by rw [h.F]; exact hb) hz), Nat.le_trans h.size k.size, k.os.trans h.os, k.output.trans h.output, k.tape.trans h.tape⟩
theorem Grow.le {w w' : World} (h : Grow w w') {G : Gh} (hz : ∀ b o, G.Z b o → b < w.heap.size) : Wz.le (G.wz w) (G.wz w') :=
  ⟨fun b o k => ⟨k, h.cell (hz b o k)⟩, fun _ _ _ k => k⟩
theorem Grow.ext {w w' : World} (h : Grow w w') {G : Gh} (hz : ∀ b o, G.Z b o → b < w.heap.size) (hf : ∀ b, G.F b → b < w.heap.size) : Ext w G w' G :=
  ⟨h.le hz, rfl, fun b hb => h.old b (hf b hb), fun _ _ _ k => k, h.size, h.os, h.output, h.tape⟩

section
variable {m : Mem} {S : Nat → AV} {V : Nat → Value} {w : World} {L : Nat → Nat} {G : Gh} {ow : Nat → Option Pos}

theorem RS_mono {c c' : Wz} (hc : Wz.le c c') {bx : Nat → AObj} {L : Nat → Nat} {x : AV} {v : Value} (h : RS c bx L x v) : RS c' bx L x v := by
  match x, h with
  | .pp (.loc _) _, h => exact h
  | .mp (.loc _), h => exact h
  | .ap (.loc _) _ _ _, h => exact h
  | .pp (.obj _) _, h => exact R_mono hc _ _ h
  | .mp (.obj _), h => exact R_mono hc _ _ h
  | .ap (.obj _) _ _ _, h => exact R_mono hc _ _ h
  | .undef, h => exact R_mono hc _ _ h
  | .sc _, h => exact R_mono hc _ _ h
  | .vec _ _ _ _, h => exact R_mono hc _ _ h
  | .agg _, h => exact R_mono hc _ _ h
  | .tup _, h => exact R_mono hc _ _ h
  | .fn _ _ _, h => exact R_mono hc _ _ h
  | .ifc _ _, h => exact R_mono hc _ _ h
  | .cp _ _, h => exact R_mono hc _ _ h

theorem ORel_mono {c c' : Wz} (hc : Wz.le c c') {b : Nat} (hb : c'.w.heap[b]? = c.w.heap[b]?) : ∀ o, ORel c b o → ORel c' b o
  | .dead, h => h
  | .cells _ cs, h => by
    obtain ⟨vs, T, h1, h2, h3⟩ := h
    exact ⟨vs, T, hb.trans h1, h2, RL_mono hc _ _ h3⟩
  | .map es, h => by
    obtain ⟨e, k, h1, h2⟩ := h
    exact ⟨e, k, hb.trans h1, RM_mono hc _ _ h2⟩

/-- A state is kept when the world grows. -/
theorem HRel.grow (h : HRel m S V w L G ow) {w' : World} (g : Grow w w') : HRel m S V w' L G ow where
  sl t := RS_mono (g.le h.zb) (h.sl t)
  ob l hl := by
    obtain ⟨b, h1, h2, h3, h4, h5⟩ := h.ob l hl
    exact ⟨b, h1, ORel_mono (g.le h.zb) (g.old b h3) _ h2, Nat.lt_of_lt_of_le h3 g.size, h4, h5⟩
  so t := by
    intro e n cs a k hx hv
    obtain ⟨h1, vs, T, h2, h3⟩ := h.so t e n cs a k hx hv
    exact ⟨h1, vs, T, (g.old _ (Array.getElem?_eq_some_iff.1 h2).1).trans h2, h3⟩
  co l ver cs b vs T j x v hl hb hw hx hv := by
    have hal : alive (look m l) := by rw [hl]; trivial
    obtain ⟨b', h1, _, h3, _⟩ := h.ob l hal
    have hbb : b < w.heap.size := by
      cases l with
      | loc d => simp only [Blk] at hb h1; subst hb; subst h1; exact h3
      | obj id => rw [hl] at hb; exact (h.hd _ _ _ hb).2
    rw [g.old b hbb] at hw
    intro e n c a k hx' hv'
    obtain ⟨k1, us, T', k2, k3⟩ := h.co l ver cs b vs T j x v hl hb hw hx hv e n c a k hx' hv'
    exact ⟨k1, us, T', (g.old _ (Array.getElem?_eq_some_iff.1 k2).1).trans k2, k3⟩
  zb b o k := Nat.lt_of_lt_of_le (h.zb b o k) g.size
  fb b k := ⟨Nat.lt_of_lt_of_le (h.fb b k).1 g.size, (h.fb b k).2⟩
  hd i v b k := ⟨(h.hd i v b k).1, Nat.lt_of_lt_of_le (h.hd i v b k).2 g.size⟩
  hf := h.hf

/-- A slot that gets a value without the right to append. -/
theorem HRel.set (h : HRel m S V w L G ow) (t : Nat) {x : AV} {v : Value} (hx : RS (G.wz w) m.bx L x v) (hn : notFl x) : HRel m (upd S t x) (upd V t v) w L G ow :=
  { h with
    sl := fun u => by
      unfold upd; split
      · exact hx
      · exact h.sl u
    so := fun u => by
      unfold upd; split
      · exact VOk_plain hn
      · exact h.so u }

/-- A slot that gets a value whose right to append says nothing. -/
theorem HRel.setNil (h : HRel m S V w L G ow) (t : Nat) {x : AV} {v : Value} (hx : RS (G.wz w) m.bx L x v) (hn : ∀ a n k, v ≠ .slice (some a) n k) : HRel m (upd S t x) (upd V t v) w L G ow :=
  { h with
    sl := fun u => by
      unfold upd; split
      · exact hx
      · exact h.sl u
    so := fun u => by
      unfold upd; split
      · exact fun e n cs a k _ hv => absurd hv (hn _ _ _)
      · exact h.so u }

/-- A slot loses the right to append, its value stays. -/
theorem HRel.clear (h : HRel m S V w L G ow) (t : Nat) : HRel m (upd S t (dm (S t))) V w L G ow :=
  { h with
    sl := fun u => by
      unfold upd; split
      · rename_i e; subst e; exact RS_dm (h.sl _)
      · exact h.sl u
    so := fun u => by
      unfold upd; split
      · exact VOk_plain (notFl_dm _)
      · exact h.so u }

theorem upd_same {α : Type} (f : Nat → α) (i : Nat) : upd f i (f i) = f := by
  funext j; unfold upd; split
  · rename_i e; rw [e]
  · rfl
theorem upd_at {α : Type} (f : Nat → α) (i : Nat) (v : α) : upd f i v i = v := by simp [upd]
theorem upd_ne {α : Type} (f : Nat → α) {i j : Nat} (v : α) (h : j ≠ i) : upd f i v j = f j := by simp [upd, h]

/-- The right to append goes from one slot to another, with the value. -/
theorem HRel.move (h : HRel m S V w L G ow) (s t : Nat) {e n : Nat} {cs : List AV} (hs : S s = .vec true e n cs) :
    ∃ ow', HRel m (upd (upd S s (.vec false e n cs)) t (.vec true e n cs)) (upd V t (V s)) w L G ow' := by
  have hsl := h.sl s
  rw [hs] at hsl
  have hsl' := hsl
  simp only [RS, R] at hsl
  rcases hsl with ⟨a, cap, hv, _⟩ | ⟨_, _, A, hv, hA⟩
  rotate_left
  · rw [hA trivial] at hv
    refine ⟨ow, ?_⟩
    have hc := h.clear s
    rw [hs] at hc
    exact hc.setNil t hsl' (by rw [hv]; simp)
  obtain ⟨ho, vs, T, hh⟩ := h.so s e n cs a cap hs hv
  refine ⟨upd ow a.block (some (.slot t)), { h with sl := ?_, ob := ?_, so := ?_, co := ?_, fb := ?_ }⟩
  · intro u
    by_cases ht : u = t
    · subst ht; rw [upd_at, upd_at]; exact hsl'
    · rw [upd_ne _ _ ht, upd_ne _ _ ht]
      by_cases hu : u = s
      · subst hu; rw [upd_at]
        have := RS_dm (h.sl u); rw [hs] at this; exact this
      · rw [upd_ne _ _ hu]; exact h.sl u
  · intro l hl
    obtain ⟨b, h1, h2, h3, h4, h5⟩ := h.ob l hl
    refine ⟨b, h1, h2, h3, ?_, h5⟩
    have : b ≠ a.block := by intro e; subst e; rw [h4] at ho; simp at ho
    rw [upd_ne _ _ this]; exact h4
  · intro u e' n' cs' a' k' hx hv'
    by_cases ht : u = t
    · subst ht
      rw [upd_at] at hx hv'
      rw [hv] at hv'
      injection hx with _ e1 e2 e3
      injection hv' with e4 e5 e6
      injection e4 with e4
      subst e1; subst e2; subst e4; subst e6
      exact ⟨upd_at _ _ _, vs, T, hh⟩
    · rw [upd_ne _ _ ht] at hx hv'
      by_cases hu : u = s
      · subst hu; rw [upd_at] at hx; simp at hx
      · rw [upd_ne _ _ hu] at hx
        obtain ⟨k1, k2⟩ := h.so u e' n' cs' a' k' hx hv'
        have : a'.block ≠ a.block := by intro e; rw [e, ho] at k1; injection k1 with k1; injection k1 with k1; exact hu k1.symm
        exact ⟨by rw [upd_ne _ _ this]; exact k1, k2⟩
  · intro l ver cs' b vs' T' j x v hl hb hw hx hv' e' n' c a' k' h1 h2
    obtain ⟨k1, k2⟩ := h.co l ver cs' b vs' T' j x v hl hb hw hx hv' e' n' c a' k' h1 h2
    have : a'.block ≠ a.block := by intro e; rw [e, ho] at k1; simp at k1
    exact ⟨by rw [upd_ne _ _ this]; exact k1, k2⟩
  · intro b hb
    have := h.fb b hb
    refine ⟨this.1, ?_⟩
    have hne : b ≠ a.block := by intro e; rw [e, ho] at this; simp at this
    rw [upd_ne _ _ hne]; exact this.2
end
end Go.Proofs.YtjchgncgkhofhaaGreat.AL

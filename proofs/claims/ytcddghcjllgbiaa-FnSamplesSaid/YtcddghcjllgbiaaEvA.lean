/-
  An abstract interpreter for the model's code over plain data: what it reads, makes and writes, in continuation form. Definitions alone.
-/
import Derived.Calls
import Derived.Orders
import Derived.Tactics
import Derived.Laws.AppendOwn
import Derived.KernelRfl
namespace Go.Ev

/-! ### Floats up to the bits of a not-a-number -/

/-- The word that stands for all not-a-numbers. -/
def nanW : FloatKind → Nat
  | .f32 => 2143289344
  | .f64 => 9221120237041090560

def isNaNW (k : FloatKind) (x : Nat) : Bool := (k.format.read x).isNaN

/-- A word, all not-a-numbers being one. -/
def can (k : FloatKind) (x : Nat) : Nat := if isNaNW k x then nanW k else x

def orNaN (k : FloatKind) : Option Nat → Nat
  | some r => r
  | none => nanW k

def fadd (k : FloatKind) (x y : Nat) : Nat := orNaN k (k.format.add x y)
def fsub (k : FloatKind) (x y : Nat) : Nat := orNaN k (k.format.sub x y)
def fmul (k : FloatKind) (x y : Nat) : Nat := orNaN k (k.format.mul x y)
def fdiv (k : FloatKind) (x y : Nat) : Nat := orNaN k (k.format.div x y)
def fneg (k : FloatKind) (x : Nat) : Nat := if isNaNW k x then nanW k else Op.negFloat k x
def flt (k : FloatKind) (x y : Nat) : Bool := k.format.order x y == some .lt
def fle (k : FloatKind) (x y : Nat) : Bool := k.format.order x y == some .lt || k.format.order x y == some .eq
def feq (k : FloatKind) (x y : Nat) : Bool := k.format.order x y == some .eq
def fne (k : FloatKind) (x y : Nat) : Bool := k.format.order x y != some .eq
def fgt (k : FloatKind) (x y : Nat) : Bool := k.format.order x y == some .gt
def fge (k : FloatKind) (x y : Nat) : Bool := k.format.order x y == some .gt || k.format.order x y == some .eq
/-- From one kind to another; none where the number is too great for the other kind. -/
def fconv (s : FloatKind) (x : Nat) (d : FloatKind) : Option Nat :=
  if s = d then some x else
  match s.decode x with
  | .nan _ _ => some (nanW d)
  | .infinity n => some (d.encode (.infinity n))
  | .number n m e => if (d.decode (d.encode (.number n m e))).isInfinity then none else some (d.encode (.number n m e))
/-- To an integer; none where there is no answer in range. -/
def ftoi (s : FloatKind) (x : Nat) (d : IntKind) : Option Int :=
  match (s.decode x).toInt .zero with
  | some n => if d.min ≤ n ∧ n ≤ d.max then some n else none
  | none => none
def itof (d : FloatKind) (n : Int) : Nat := d.nearest n
def fmax (k : FloatKind) (x y : Nat) : Nat :=
  match k.format.order x y with
  | none => nanW k
  | some .lt => y
  | some .gt => x
  | some .eq => if (k.decode x).neg then y else x
def fmin (k : FloatKind) (x y : Nat) : Nat :=
  match k.format.order x y with
  | none => nanW k
  | some .lt => x
  | some .gt => y
  | some .eq => if (k.decode x).neg then x else y
def fsqrt (x : Nat) : Nat := orNaN .f64 (FloatKind.f64.format.sqrt x)

/-! ### Data -/

inductive Ty where
  | bool | int (k : IntKind) | flt (k : FloatKind) | cpx (k : FloatKind) | str
  | slice (e : Ty) | unit | pair (a b : Ty)
  deriving DecidableEq, Inhabited

@[reducible] def Ty.den : Ty → Type
  | .bool => Bool
  | .int _ => Int
  | .flt _ => Nat
  | .cpx _ => Nat × Nat
  | .str => ByteArray
  | .slice e => List e.den
  | .unit => Unit
  | .pair a b => a.den × b.den

/-- Cells of a value. -/
def Ty.size : Ty → Nat
  | .unit => 0
  | .pair a b => a.size + b.size
  | _ => 1

def Ty.zero : (τ : Ty) → τ.den
  | .bool => false
  | .int _ => (0 : Int)
  | .flt _ => (0 : Nat)
  | .cpx _ => ((0 : Nat), (0 : Nat))
  | .str => ByteArray.empty
  | .slice _ => []
  | .unit => ()
  | .pair a b => (a.zero, b.zero)

/-! ### Abstract values -/

inductive AV where
  | any
  | bool (b : Bool)
  | int (k : IntKind) (n : Int)
  | flt (k : FloatKind) (x : Nat)
  | cpx (k : FloatKind) (x y : Nat)
  | str (s : ByteArray)
  | val (v : Value)
  | ptr (id off : Nat)
  | elt (id i size off : Nat)
  | whole (id : Nat)
  | sub (id lo len size : Nat)
  | nocap
  | fn (f : FuncId) (first captured : List AV)
  | agg (cs : List AV)
  | tup (vs : List AV)
  deriving Inhabited

inductive Blk where
  | dead
  | cells (t : TypeId) (cs : List AV)
  | vec (rw : Bool) (e : TypeId) (τ : Ty) (xs : List τ.den)

instance : Inhabited Blk := ⟨.dead⟩

/-! ### What is known of types -/

inductive TD where
  | scalar
  | slice (e : TypeId)
  | struct (fs : List (Nat × TypeId))
  | ptr
  | func
  | other

/-- A zero value's cell. -/
inductive ZC where
  | av (a : AV)
  | sl (e : TypeId) (τ : Ty)

structure TI where
  d : TD
  τ : Option Ty
  size : Nat
  bytes : Nat
  zero : List ZC

abbrev Types := TypeId → Option TI

/-! ### Lists, slots -/

def nth {α : Type} : List α → Nat → Option α
  | [], _ => none
  | x :: _, 0 => some x
  | _ :: r, n + 1 => nth r n

def setNth {α : Type} : List α → Nat → α → List α
  | [], _, _ => []
  | _ :: r, 0, v => v :: r
  | x :: r, n + 1, v => x :: setNth r n v

structure St where
  t : List AV
  h : List Blk
  deriving Inhabited

def St.put (st : List AV) (d : Option Tmp) (v : AV) : List AV :=
  match d with
  | some d => setNth st d v
  | none => st

def evalR (t : List AV) : Operand → Option AV
  | .tmp x => nth t x
  | .const (.int k n) => some (.int k n)
  | .const (.bool b) => some (.bool b)
  | .const (.float k x) => some (.flt k (can k x))
  | .const (.complex k x y) => some (.cpx k (can k x) (can k y))
  | .const (.string s) => some (.str s)
  | .const v => some (.val v)
  | .func f => some (.fn f [] [])
  | .global _ => none

def evalRs (t : List AV) : List Operand → Option (List AV)
  | [] => some []
  | x :: r => match evalR t x with
    | some v => match evalRs t r with
      | some vs => some (v :: vs)
      | none => none
    | none => none

/-! ### Data as values and back -/

/-- The cells of a datum; its slices become blocks that are only read. -/
def Ty.avs : (τ : Ty) → τ.den → List Blk → List AV × List Blk
  | .bool, b, h => ([.bool b], h)
  | .int k, n, h => ([.int k n], h)
  | .flt k, x, h => ([.flt k x], h)
  | .cpx k, x, h => ([.cpx k x.1 x.2], h)
  | .str, s, h => ([.str s], h)
  | .slice σ, xs, h => ([.whole h.length], h ++ [.vec false 0 σ xs])
  | .unit, _, h => ([], h)
  | .pair a b, x, h => ((a.avs x.1 h).1 ++ (b.avs x.2 (a.avs x.1 h).2).1, (b.avs x.2 (a.avs x.1 h).2).2)

/-- A datum out of cells, and the other cells; a slice that is handed over is only read from then on. -/
def Ty.unavs : (τ : Ty) → List AV → List Blk → Option (τ.den × List AV × List Blk)
  | .bool, l, h => match l with
    | .bool b :: r => some (b, r, h)
    | _ => none
  | .int k, l, h => match l with
    | .int k' n :: r => if k = k' then some (n, r, h) else none
    | _ => none
  | .flt k, l, h => match l with
    | .flt k' x :: r => if k = k' then some (x, r, h) else none
    | _ => none
  | .cpx k, l, h => match l with
    | .cpx k' x y :: r => if k = k' then some ((x, y), r, h) else none
    | _ => none
  | .str, l, h => match l with
    | .str s :: r => some (s, r, h)
    | _ => none
  | .slice σ, l, h => match l with
    | .whole id :: r =>
      match nth h id with
      | some (.vec rw e τ xs) => if e' : τ = σ then some (e' ▸ xs, r, bif rw then setNth h id (.vec false e τ xs) else h) else none
      | _ => none
    | .val (.slice none 0 0) :: r => bif Nat.blt 0 σ.size then some ([], r, h) else none
    | _ => none
  | .unit, r, h => some ((), r, h)
  | .pair a b, l, h =>
    match a.unavs l h with
    | some (x, r, h1) => match b.unavs r h1 with
      | some (y, r2, h2) => some ((x, y), r2, h2)
      | none => none
    | none => none

/-- The part of a datum that begins at a cell, as a datum of another type. -/
def Ty.part : (τ : Ty) → τ.den → Nat → (σ : Ty) → Option σ.den
  | .pair a b, x, off, σ =>
    if e : Ty.pair a b = σ then (if off = 0 then some (e ▸ x) else none)
    else if off < a.size then a.part x.1 off σ else b.part x.2 (off - a.size) σ
  | τ, x, off, σ => if e : τ = σ then (if off = 0 then some (e ▸ x) else none) else none

/-- The same, written. -/
def Ty.setPart : (τ : Ty) → τ.den → Nat → (σ : Ty) → σ.den → Option τ.den
  | .pair a b, x, off, σ, y =>
    if e : σ = Ty.pair a b then (if off = 0 then some (e ▸ y) else none)
    else if off < a.size then (match a.setPart x.1 off σ y with | some z => some (z, x.2) | none => none)
    else (match b.setPart x.2 (off - a.size) σ y with | some z => some (x.1, z) | none => none)
  | τ, _, off, σ, y => if e : σ = τ then (if off = 0 then some (e ▸ y) else none) else none

/-- Zero cells; a slice's zero is a row of nothing. -/
def zeroCells : List ZC → List Blk → List AV × List Blk
  | [], h => ([], h)
  | .av a :: r, h => let (l, h1) := zeroCells r h; (a :: l, h1)
  | .sl e τ :: r, h => let (l, h1) := zeroCells r (h ++ [.vec true e τ []]); (.whole h.length :: l, h1)

/-! ### Guards with an answer -/

/-- An index in range. -/
def idx (i : Int) (n : Nat) : Option Nat := if 0 ≤ i ∧ i < n then some i.toNat else none
/-- An upper bound of a slice. -/
def upto (i : Int) (n : Nat) : Option Nat := if 0 ≤ i ∧ i ≤ n then some i.toNat else none
/-- So many elements have room. -/
def room (n bytes : Nat) : Option Unit := if n * bytes ≤ 140737488355328 ∧ n ≤ 9223372036854775807 then some () else none
def nonzero (y : Int) : Option Unit := if y = 0 then none else some ()
def nonneg (y : Int) : Option Nat := if 0 ≤ y then some y.toNat else none
/-- How many elements make makes. -/
def making (n : Int) (bytes : Nat) : Option Nat := if 0 ≤ n ∧ bytes * n ≤ 140737488355328 ∧ n ≤ 9223372036854775807 then some n.toNat else none

/-! ### Arithmetic -/

abbrev Out := AV × List Blk

def intBin (op : BinOp) (k : IntKind) (x y : Int) (K : AV → Option Out) : Option Out :=
  match op with
  | .add => K (.int k (k.wrap (x + y)))
  | .sub => K (.int k (k.wrap (x - y)))
  | .mul => K (.int k (k.wrap (x * y)))
  | .quo => (nonzero y).bind fun _ => K (.int k (k.wrap (x.tdiv y)))
  | .rem => (nonzero y).bind fun _ => K (.int k (x.tmod y))
  | .and => K (.int k (Go.bits .and k x y))
  | .or => K (.int k (Go.bits .or k x y))
  | .xor => K (.int k (Go.bits .xor k x y))
  | .andNot => K (.int k (Go.bits .andNot k x y))
  | .eql => K (.bool (x == y))
  | .neq => K (.bool (x != y))
  | .lss => K (.bool (decide (x < y)))
  | .leq => K (.bool (decide (x ≤ y)))
  | .gtr => K (.bool (decide (x > y)))
  | .geq => K (.bool (decide (x ≥ y)))
  | _ => none

def fltBin (op : BinOp) (k : FloatKind) (x y : Nat) (K : AV → Option Out) : Option Out :=
  match op with
  | .add => K (.flt k (fadd k x y))
  | .sub => K (.flt k (fsub k x y))
  | .mul => K (.flt k (fmul k x y))
  | .quo => K (.flt k (fdiv k x y))
  | .eql => K (.bool (feq k x y))
  | .neq => K (.bool (fne k x y))
  | .lss => K (.bool (flt k x y))
  | .leq => K (.bool (fle k x y))
  | .gtr => K (.bool (fgt k x y))
  | .geq => K (.bool (fge k x y))
  | _ => none

def strBin (op : BinOp) (x y : ByteArray) (K : AV → Option Out) : Option Out :=
  match op with
  | .add => (room (x.size + y.size) 0).bind fun _ => K (.str (x ++ y))
  | .eql => K (.bool (x.toList == y.toList))
  | .neq => K (.bool (!(x.toList == y.toList)))
  | .lss => K (.bool (Op.bytesLess x.toList y.toList))
  | .leq => K (.bool (Op.bytesLess x.toList y.toList || x.toList == y.toList))
  | .gtr => K (.bool (!(Op.bytesLess x.toList y.toList || x.toList == y.toList)))
  | .geq => K (.bool (!Op.bytesLess x.toList y.toList))
  | _ => none

def cpxBin (op : BinOp) (k : FloatKind) (x y u v : Nat) (K : AV → Option Out) : Option Out :=
  match op with
  | .add => K (.cpx k (fadd k x u) (fadd k y v))
  | .sub => K (.cpx k (fsub k x u) (fsub k y v))
  | .eql => K (.bool (feq k x u && feq k y v))
  | .neq => K (.bool (!(feq k x u && feq k y v)))
  | _ => none

def isBoolT (T : Types) (ty : TypeId) : Bool :=
  match T ty with
  | some ⟨.scalar, some .bool, _, _, _⟩ => true
  | _ => false

def binAV (T : Types) (op : BinOp) (ty : TypeId) (x y : AV) (K : AV → Option Out) : Option Out :=
  match x, y with
  | .int k a, .int k' b =>
    match op with
    | .shl => (nonneg b).bind fun n => K (.int k (k.wrap (a * 2 ^ min n k.bits)))
    | .shr => (nonneg b).bind fun n => K (.int k (a.fdiv (2 ^ min n k.bits)))
    | op => if k = k' then intBin op k a b K else none
  | .flt k a, .flt k' b => if k = k' then fltBin op k a b K else none
  | .str a, .str b => strBin op a b K
  | .cpx k a b, .cpx k' c d => if k = k' then cpxBin op k a b c d K else none
  | .bool a, .bool b =>
    bif isBoolT T ty then
      match op with
      | .eql => K (.bool (a == b))
      | .neq => K (.bool (!(a == b)))
      | _ => none
    else none
  | _, _ => none

def unAV (op : UnOp) (x : AV) (K : AV → Option Out) : Option Out :=
  match op, x with
  | .neg, .int k n => K (.int k (k.wrap (0 - n)))
  | .neg, .flt k x => K (.flt k (fneg k x))
  | .neg, .cpx k x y => K (.cpx k (fneg k x) (fneg k y))
  | .not, .bool b => K (.bool (!b))
  | _, _ => none

end Go.Ev

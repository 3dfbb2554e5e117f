/-
  The abstract interpreter: operations, regions, code.
-/
import Derived.Test.YtcddghcjllgbiaaEvA
namespace Go.Ev

/-! ### Renaming of blocks; what is reached -/

mutual
def AV.ren (m : Nat → Nat) : AV → AV
  | .ptr id off => .ptr (m id) off
  | .elt id i size off => .elt (m id) i size off
  | .whole id => .whole (m id)
  | .sub id lo len size => .sub (m id) lo len size
  | .fn f a b => .fn f (renL m a) (renL m b)
  | .agg cs => .agg (renL m cs)
  | .tup cs => .tup (renL m cs)
  | v => v
def renL (m : Nat → Nat) : List AV → List AV
  | [] => []
  | x :: r => x.ren m :: renL m r
end

def Blk.ren (m : Nat → Nat) : Blk → Blk
  | .cells t cs => .cells t (renL m cs)
  | b => b

mutual
def AV.ids : AV → List Nat
  | .ptr id _ => [id]
  | .elt id _ _ _ => [id]
  | .whole id => [id]
  | .sub id _ _ _ => [id]
  | .fn _ a b => idsL a ++ idsL b
  | .agg cs => idsL cs
  | .tup cs => idsL cs
  | _ => []
def idsL : List AV → List Nat
  | [] => []
  | x :: r => x.ids ++ idsL r
end

def Blk.ids : Blk → List Nat
  | .cells _ cs => idsL cs
  | _ => []

def hasN : List Nat → Nat → Bool
  | [], _ => false
  | x :: r, n => (x == n) || hasN r n

def addNew : List Nat → List Nat → List Nat
  | [], acc => acc
  | x :: r, acc => bif hasN acc x then addNew r acc else addNew r (acc ++ [x])

def blkIdsAt (h : List Blk) (id : Nat) : List Nat :=
  match nth h id with
  | some b => b.ids
  | none => []

def idsAt (h : List Blk) : List Nat → List Nat
  | [] => []
  | x :: r => blkIdsAt h x ++ idsAt h r

/-- All that is reached from some blocks, in the order in which it is met first. -/
def closure : Nat → List Blk → List Nat → List Nat
  | 0, _, acc => acc
  | n + 1, h, acc =>
    let acc' := addNew (idsAt h acc) acc
    bif acc'.length == acc.length then acc else closure n h acc'

def indexOf : List Nat → Nat → Nat
  | [], _ => 0
  | x :: r, n => bif x == n then 0 else indexOf r n + 1

def getN : List Nat → Nat → Nat
  | [], _ => 0
  | x :: _, 0 => x
  | _ :: r, n + 1 => getN r n

/-- The blocks with some numbers, renamed. -/
def pickBlks (h : List Blk) (m : Nat → Nat) : List Nat → List Blk
  | [] => []
  | id :: r => (match nth h id with | some b => b.ren m | none => .dead) :: pickBlks h m r

/-- From a callee's numbers back to the caller's. -/
def backN (ids : List Nat) (size : Nat) (i : Nat) : Nat :=
  bif Nat.blt i ids.length then getN ids i else size + (i - ids.length)

def renBlks (m : Nat → Nat) : List Blk → List Blk
  | [] => []
  | b :: r => b.ren m :: renBlks m r

/-- A callee's blocks laid back into the caller's. -/
def putBack (m : Nat → Nat) : List Nat → List Blk → List Blk → List Blk
  | id :: ids, b :: r, h => putBack m ids r (setNth h id (b.ren m))
  | [], r, h => h ++ renBlks m r
  | _ :: _, [], h => h

def subN : List Nat → List Nat → Bool
  | [], _ => true
  | x :: r, l => hasN l x && subN r l

def noDup : List Nat → Bool
  | [] => true
  | x :: r => !hasN r x && noDup r

def belowN : List Nat → Nat → Bool
  | [], _ => true
  | x :: r, n => Nat.blt x n && belowN r n

/-- Closed: what is reached is there, each once. -/
def okIds (h : List Blk) (vs : List AV) (ids : List Nat) : Bool :=
  subN (idsL vs) ids && subN (idsAt h ids) ids && noDup ids && belowN ids h.length

/-! ### A state without what is no more needed -/

def maskFrom (keep : Nat → Bool) : Nat → List AV → List AV
  | _, [] => []
  | n, v :: r => (bif keep n then v else .any) :: maskFrom keep (n + 1) r

/-- The numbers from 'n0' on that are reached, in their order. -/
def liveFrom (reached : List Nat) : Nat → Nat → List Nat
  | _, 0 => []
  | n, c + 1 => bif hasN reached n then n :: liveFrom reached (n + 1) c else liveFrom reached (n + 1) c

def rangeN : Nat → Nat → List Nat
  | _, 0 => []
  | n, c + 1 => n :: rangeN (n + 1) c

/-- What stays: the first 'n0' blocks and what is reached from them and from some values. -/
def staying (n0 : Nat) (t : List AV) (h : List Blk) : List Nat :=
  rangeN 0 n0 ++ liveFrom (closure h.length h (addNew (idsL t) (rangeN 0 n0))) n0 (h.length - n0)

def gc (n0 : Nat) (t : List AV) (h : List Blk) : List AV × List Blk :=
  let ids := staying n0 t h
  (renL (indexOf ids) t, pickBlks h (indexOf ids) ids)

/-- It has gone through well. -/
def gcOk (n0 : Nat) (t : List AV) (h : List Blk) : Bool := okIds h t (staying n0 t h) && Nat.ble n0 h.length

def norm (n0 : Nat) (keep : Nat → Bool) (st : St) : St :=
  let r := gc n0 (maskFrom keep 0 st.t) st.h
  ⟨r.1, r.2⟩

def normOk (n0 : Nat) (keep : Nat → Bool) (st : St) : Bool := gcOk n0 (maskFrom keep 0 st.t) st.h

/-! ### Summaries of functions and loops -/

inductive Sum : Type 1 where
  /-- It reads: no block is made or turned. -/
  | rd {R : Type} (S : List AV → List Blk → Option R) (val : R → AV)
  /-- It makes blocks. -/
  | mk {R : Type} (S : List AV → List Blk → Option R) (val : R → AV × List Blk)
  /-- It turns blocks that it is handed. -/
  | wr {R : Type} (S : List AV → List Blk → Option R) (val : List AV → List Blk → R → AV × List Blk)
  /-- A function without a body, of plain values. -/
  | ext {R : Type} (S : List AV → Option R) (val : R → AV)
  /-- One of two, by the shape of what it is handed. -/
  | alt (c : List AV → List Blk → Bool) (a b : Sum)

inductive Ex where
  | normal | exit (id : Nat) | ret

abbrev Kont := Ex → St → Option Out
abbrev LoopS := St → Kont → Option Out

def reachOf (vs : List AV) (h : List Blk) : Option (List Nat) :=
  let ids := closure h.length h (addNew (idsL vs) [])
  bif okIds h vs ids then some ids else none

def Sum.call (s : Sum) (vs : List AV) (h : List Blk) (K : AV → List Blk → Option Out) : Option Out :=
  match s with
  | .ext S val => (S vs).bind fun r => K (val r) h
  | .alt c a b => match reachOf vs h with
    | some ids => bif c (renL (indexOf ids) vs) (pickBlks h (indexOf ids) ids) then a.call vs h K else b.call vs h K
    | none => none
  | .rd S val => match reachOf vs h with
    | some ids => (S (renL (indexOf ids) vs) (pickBlks h (indexOf ids) ids)).bind fun r => K ((val r).ren (backN ids h.length)) h
    | none => none
  | .mk S val => match reachOf vs h with
    | some ids => (S (renL (indexOf ids) vs) (pickBlks h (indexOf ids) ids)).bind fun r => K ((val r).1.ren (backN ids h.length)) (h ++ renBlks (backN ids h.length) (val r).2)
    | none => none
  | .wr S val => match reachOf vs h with
    | some ids => (S (renL (indexOf ids) vs) (pickBlks h (indexOf ids) ids)).bind fun r =>
      K ((val (renL (indexOf ids) vs) (pickBlks h (indexOf ids) ids) r).1.ren (backN ids h.length)) (putBack (backN ids h.length) ids (val (renL (indexOf ids) vs) (pickBlks h (indexOf ids) ids) r).2 h)
    | none => none

/-! ### Operations -/

section
variable (T : Types) (F : FuncId → Option Sum)

/-- The elements of a slice value. -/
def vecOf (h : List Blk) : AV → Option ((τ : Ty) × List τ.den)
  | .whole id => match nth h id with
    | some (.vec _ _ τ xs) => some ⟨τ, xs⟩
    | _ => none
  | .sub id lo len size => match nth h id with
    | some (.vec _ _ τ xs) => bif size == τ.size then some ⟨τ, (xs.drop lo).take len⟩ else none
    | _ => none
  | _ => none

def lenOf (ty : TypeId) (h : List Blk) (v : AV) : Option Nat :=
  match T ty, v with
  | some ⟨.slice _, _, _, _, _⟩, .whole id => match nth h id with
    | some (.vec _ _ _ xs) => some xs.length
    | _ => none
  | some ⟨.slice _, _, _, _, _⟩, .sub _ _ len _ => some len
  | some ⟨.slice _, _, _, _, _⟩, .val (.slice none 0 0) => some 0
  | some ⟨.scalar, some .str, _, _, _⟩, .str s => some s.size
  | _, _ => none

/-- A value of one cell. -/
def okCell : AV → Bool
  | .any | .agg _ | .tup _ => false
  | .val v => v.oneCell'
  | _ => true

def allCell : List AV → Bool
  | [] => true
  | v :: r => okCell v && allCell r

def okVal : AV → Bool
  | .agg cs => allCell cs
  | v => okCell v

def cellsOf : AV → List AV
  | .agg cs => cs
  | v => [v]

/-- A value of a type: nil becomes a row of nothing. -/
def typed (ty : TypeId) (v : AV) (h : List Blk) (K : AV → List Blk → Option Out) : Option Out :=
  match v with
  | .val (.slice none 0 0) =>
    match T ty with
    | some ⟨.slice e, some (.slice σ), _, _, _⟩ => bif Nat.blt 0 σ.size then K (.whole h.length) (h ++ [.vec true e σ []]) else none
    | _ => none
  | v => K v h

/-- Cells written over others. -/
def overZ : List ZC → Nat → List AV → List ZC
  | l, _, [] => l
  | [], _, _ => []
  | z :: r, n + 1, vs => z :: overZ r n vs
  | _ :: r, 0, v :: vs => .av v :: overZ r 0 vs

def overAV : List AV → Nat → List AV → List AV
  | l, _, [] => l
  | [], _, _ => []
  | z :: r, n + 1, vs => z :: overAV r n vs
  | _ :: r, 0, v :: vs => v :: overAV r 0 vs

def buildZ (t : List AV) (fs : List (Nat × TypeId)) : List (Nat × Operand) → List ZC → Option (List ZC)
  | [], z => some z
  | (i, x) :: r, z =>
    match nth fs i, evalR t x with
    | some (o, ty), some v =>
      match T ty with
      | some ti => bif okVal v && (cellsOf v).length == ti.size && Nat.ble (o + ti.size) z.length then buildZ t fs r (overZ z o (cellsOf v)) else none
      | none => none
    | _, _ => none

def buildS (t : List AV) (σ : Ty) : List (Nat × Operand) → List σ.den → List Blk → Option (List σ.den × List Blk)
  | [], l, h => some (l, h)
  | (i, x) :: r, l, h =>
    match evalR t x with
    | some v => bif okVal v && Nat.blt i l.length then
        match σ.unavs (cellsOf v) h with
        | some (y, [], h') => buildS t σ r (setNth l i y) h'
        | _ => none
      else none
    | none => none

def evLoad (ty : TypeId) (a : AV) (h : List Blk) (K : AV → List Blk → Option Out) : Option Out :=
  match T ty with
  | none => none
  | some ti =>
    match a with
    | .ptr id off =>
      match nth h id with
      | some (.cells _ cs) =>
        match ti.d with
        | .struct _ => bif Nat.ble (off + ti.size) cs.length then K (.agg ((cs.drop off).take ti.size)) h else none
        | _ => match nth cs off with
          | some v => K v h
          | none => none
      | _ => none
    | .elt id i size off =>
      match nth h id, ti.τ with
      | some (.vec _ _ τ xs), some σ =>
        bif size == τ.size && σ.size == ti.size then
          (xs[i]?).bind fun x =>
            match τ.part x off σ with
            | some y =>
              match ti.d with
              | .struct _ => K (.agg (σ.avs y h).1) (σ.avs y h).2
              | _ => match (σ.avs y h).1 with
                | [v] => K v (σ.avs y h).2
                | _ => none
            | none => none
        else none
      | _, _ => none
    | _ => none

def evStore (ty : TypeId) (a v : AV) (h : List Blk) (K : AV → List Blk → Option Out) : Option Out :=
  match T ty with
  | none => none
  | some ti =>
    bif okVal v && (cellsOf v).length == ti.size then
      match a with
      | .ptr id off =>
        match nth h id with
        | some (.cells e cs) => bif Nat.ble (off + ti.size) cs.length then K .any (setNth h id (.cells e (overAV cs off (cellsOf v)))) else none
        | _ => none
      | .elt id i size off =>
        match ti.τ with
        | some σ =>
          match σ.unavs (cellsOf v) h with
          | some (y, [], h') =>
            match nth h' id with
            | some (.vec true e τ xs) =>
              bif size == τ.size && σ.size == ti.size then
                (xs[i]?).bind fun x =>
                  match τ.setPart x off σ y with
                  | some x' => K .any (setNth h' id (.vec true e τ (xs.set i x')))
                  | none => none
              else none
            | _ => none
          | _ => none
        | none => none
      | _ => none
    else none

def evConvert (src dst : TypeId) (x : AV) (h : List Blk) (K : AV → List Blk → Option Out) : Option Out :=
  match T src, T dst, x with
  | some _, some ⟨.scalar, some (.int k), _, _, _⟩, .int _ n => K (.int k (k.wrap n)) h
  | some _, some ⟨.scalar, some (.flt k), _, _, _⟩, .int _ n => K (.flt k (itof k n)) h
  | some _, some ⟨.scalar, some (.int k), _, _, _⟩, .flt s b => (ftoi s b k).bind fun n => K (.int k n) h
  | some _, some ⟨.scalar, some (.flt k), _, _, _⟩, .flt s b => (fconv s b k).bind fun y => K (.flt k y) h
  | some ⟨.scalar, some .str, _, _, _⟩, some ⟨.scalar, some .str, _, _, _⟩, .str s => K (.str s) h
  | _, _, _ => none

/-- The bounds of a slice expression without a third one. -/
def bounds (lo hi : Option AV) (n : Nat) (K : Nat → Nat → Option Out) : Option Out :=
  match hi with
  | none =>
    match lo with
    | none => K 0 n
    | some (.int _ l) => (upto l n).bind fun l' => K l' n
    | _ => none
  | some (.int _ u) => (upto u n).bind fun u' =>
    match lo with
    | none => K 0 u'
    | some (.int _ l) => (upto l u').bind fun l' => K l' u'
    | _ => none
  | _ => none

def evalO (t : List AV) : Option Operand → Option (Option AV)
  | none => some none
  | some x => match evalR t x with
    | some v => some (some v)
    | none => none

def evSlice (ty : TypeId) (x : AV) (lo hi : Option AV) (h : List Blk) (K : AV → List Blk → Option Out) : Option Out :=
  match T ty, x with
  | some ⟨.scalar, some .str, _, _, _⟩, .str s => bounds lo hi s.size fun l u => K (.str (s.extract l u)) h
  | some ⟨.slice e, _, _, _, _⟩, .whole id => match nth h id, T e with
    | some (.vec _ _ τ xs), some ei => bif ei.size == τ.size then bounds lo hi xs.length fun l u => K (.sub id l (u - l) τ.size) h else none
    | _, _ => none
  | some ⟨.slice e, _, _, _, _⟩, .sub id a n size => match T e with
    | some ei => bif ei.size == size then bounds lo hi n fun l u => K (.sub id (a + l) (u - l) size) h else none
    | none => none
  | _, _ => none

/-- s[:0:0]. -/
def evSlice3 (ty : TypeId) (x : AV) (h : List Blk) (K : AV → List Blk → Option Out) : Option Out :=
  match T ty, x with
  | some ⟨.slice e, _, _, _, _⟩, .whole _ => match T e with
    | some _ => K .nocap h
    | none => none
  | some ⟨.slice e, _, _, _, _⟩, .sub _ _ _ _ => match T e with
    | some _ => K .nocap h
    | none => none
  | _, _ => none

def isZ : Int → Bool
  | .ofNat n => Nat.beq n 0
  | _ => false

/-- The bounds of s[:0:0]. -/
def is3 : Option Operand → Option Operand → Operand → Bool
  | none, some (.const (.int _ u)), .const (.int _ m) => isZ u && isZ m
  | _, _, _ => false

def evIndexAddr (size : Nat) (x i : AV) (h : List Blk) (K : AV → List Blk → Option Out) : Option Out :=
  match x, i with
  | .whole id, .int _ j => match nth h id with
    | some (.vec _ _ τ xs) => bif size == τ.size then (idx j xs.length).bind fun j' => K (.elt id j' size 0) h else none
    | _ => none
  | .sub id lo n size', .int _ j => bif size == size' then (idx j n).bind fun j' => K (.elt id (lo + j') size 0) h else none
  | _, _ => none

/-- A byte of a string. -/
def bt (s : ByteArray) (i : Int) : Option Int := if 0 ≤ i then (s.data.toList[i.toNat]?).map fun b => (b.toNat : Int) else none

def evMinMax (mx : Bool) : AV → List AV → Option AV
  | v, [] => some v
  | .int k a, .int k' b :: r => if k = k' then evMinMax mx (.int k (bif mx then (if b > a then b else a) else (if b < a then b else a))) r else none
  | .flt k a, .flt k' b :: r => if k = k' then evMinMax mx (.flt k (bif mx then fmax k a b else fmin k a b)) r else none
  | _, _ => none

def evAppend (ty : TypeId) (id : Nat) (x : AV) (h : List Blk) (K : AV → List Blk → Option Out) : Option Out :=
  match T ty, nth h id with
  | some ⟨.slice e, some (.slice σ), _, _, _⟩, some (.vec true e' τ xs) =>
    match T e, vecOf h x with
    | some ei, some ⟨τ', ys⟩ =>
      if q : τ' = τ then
        bif e == e' && decide (σ = τ) then
          (room (xs.length + ys.length) ei.bytes).bind fun _ => K (.whole h.length) (setNth h id .dead ++ [.vec true e τ (xs ++ (q ▸ ys))])
        else none
      else none
    | _, _ => none
  | _, _ => none

/-- The slice s[:0:0], to which something is appended: a new row (where there is something). -/
def evAppendNew (ty : TypeId) (x : AV) (h : List Blk) (K : AV → List Blk → Option Out) : Option Out :=
  match T ty with
  | some ⟨.slice e, some (.slice σ), _, _, _⟩ =>
    match T e, vecOf h x with
    | some ei, some ⟨τ', ys⟩ =>
      if q : τ' = σ then
        bif ys.isEmpty then none else (room ys.length ei.bytes).bind fun _ => K (.whole h.length) (h ++ [.vec true e σ (q ▸ ys)])
      else none
    | _, _ => none
  | _ => none

/-- Elements written over those from the one with the number 'lo' on. -/
def over {α : Type} (xs ys : List α) (lo : Nat) : List α := xs.take lo ++ ys ++ xs.drop (lo + ys.length)

def evCopy (id lo n size : Nat) (x : AV) (h : List Blk) (K : AV → List Blk → Option Out) : Option Out :=
  match nth h id, vecOf h x with
  | some (.vec true e τ xs), some ⟨τ', ys⟩ =>
    if q : τ' = τ then
      bif size == τ.size && Nat.ble (lo + n) xs.length then
        K (.int .i64 (min ys.length n : Nat)) (setNth h id (.vec true e τ (over xs ((q ▸ ys).take n) lo)))
      else none
    else none
  | _, _ => none

def evClear (ty : TypeId) (id lo n size : Nat) (h : List Blk) (K : AV → List Blk → Option Out) : Option Out :=
  match T ty, nth h id with
  | some ⟨.slice e, some (.slice σ), _, _, _⟩, some (.vec true e' τ xs) =>
    if q : σ = τ then
      bif e == e' && size == τ.size && Nat.ble (lo + n) xs.length then
        K .any (setNth h id (.vec true e' τ (over xs (List.replicate n (q ▸ σ.zero)) lo)))
      else none
    else none
  | _, _ => none

/-- Where a row's part lies: number, first element, how many, cells of each. -/
def partOf (h : List Blk) : AV → Option (Nat × Nat × Nat × Nat)
  | .whole id => match nth h id with
    | some (.vec _ _ τ xs) => some (id, 0, xs.length, τ.size)
    | _ => none
  | .sub id lo n size => some (id, lo, n, size)
  | _ => none

def evBuiltin (b : Builtin) (argTypes : List TypeId) (vs : List AV) (h : List Blk) (K : AV → List Blk → Option Out) : Option Out :=
  match b with
  | .len => match argTypes, vs with
    | [ty], [v] => match lenOf T ty h v with
      | some n => K (.int .i64 n) h
      | none => none
    | _, _ => none
  | .append => match argTypes, vs with
    | [ty, ty'], [.whole id, x] => bif ty == ty' then evAppend T ty id x h K else none
    | [ty, ty'], [.nocap, x] => bif ty == ty' then evAppendNew T ty x h K else none
    | _, _ => none
  | .copy => match argTypes, vs with
    | [ty, _], [v, x] => match T ty, partOf h v with
      | some ⟨.slice e, _, _, _, _⟩, some (id, lo, n, size) => match T e with
        | some ei => bif ei.size == size then evCopy id lo n size x h K else none
        | none => none
      | _, _ => none
    | _, _ => none
  | .clear => match argTypes, vs with
    | [ty], [v] => match partOf h v with
      | some (id, lo, n, size) => evClear T ty id lo n size h K
      | none => none
    | _, _ => none
  | .max => match vs with
    | v :: r => match evMinMax true v r with
      | some u => K u h
      | none => none
    | [] => none
  | .min => match vs with
    | v :: r => match evMinMax false v r with
      | some u => K u h
      | none => none
    | [] => none
  | .complex => match vs with
    | [.flt k x, .flt k' y] => if k = k' then K (.cpx k x y) h else none
    | _ => none
  | .real => match vs with
    | [.cpx k x _] => K (.flt k x) h
    | _ => none
  | .imag => match vs with
    | [.cpx k _ y] => K (.flt k y) h
    | _ => none
  | _ => none

def typedL (tys : List TypeId) (vs : List AV) (h : List Blk) (K : List AV → List Blk → Option Out) : Option Out :=
  match vs with
  | [] => K [] h
  | v :: r => typed T (tys.headD 0) v h fun v' h1 => typedL tys.tail r h1 fun r' h2 => K (v' :: r') h2

def evOp (op : Op) (ty : TypeId) (t : List AV) (h : List Blk) (K : AV → List Blk → Option Out) : Option Out :=
  match op with
  | .move x | .assign x => match evalR t x with
    | some v => typed T ty v h K
    | none => none
  | .pick c a b => match evalR t c, evalR t a, evalR t b with
    | some (.bool q), some u, some v => bif q then K u h else K v h
    | _, _, _ => none
  | .alloc e => match T e with
    | some ti => K (.ptr (zeroCells ti.zero h).2.length 0) ((zeroCells ti.zero h).2 ++ [.cells e (zeroCells ti.zero h).1])
    | none => none
  | .box e x => match T e, evalR t x with
    | some ti, some v => typed T e v h fun v h => bif okVal v && (cellsOf v).length == ti.size then K (.ptr h.length 0) (h ++ [.cells e (cellsOf v)]) else none
    | _, _ => none
  | .build s ps => match T s with
    | some ⟨.struct fs, _, _, _, z⟩ => match buildZ T t fs ps.toList z with
      | some z' => K (.agg (zeroCells z' h).1) (zeroCells z' h).2
      | none => none
    | _ => none
  | .buildSlice s n ps => match T s with
    | some ⟨.slice e, some (.slice σ), _, _, _⟩ =>
      bif Nat.ble (n * σ.size) 16777216 then
        match buildS t σ ps.toList (List.replicate n σ.zero) h with
        | some (l, h') => K (.whole h'.length) (h' ++ [.vec true e σ l])
        | none => none
      else none
    | _ => none
  | .load ty a => match evalR t a with
    | some v => evLoad T ty v h K
    | none => none
  | .store ty a x => match evalR t a, evalR t x with
    | some p, some v => typed T ty v h fun v h => evStore T ty p v h K
    | _, _ => none
  | .nilCheck x => match evalR t x with
    | some (.ptr i o) => K (.ptr i o) h
    | some (.elt i j s o) => K (.elt i j s o) h
    | some (.fn f a b) => K (.fn f a b) h
    | _ => none
  | .binOp op xt x y _ => match evalR t x, evalR t y with
    | some u, some v => binAV T op xt u v fun r => K r h
    | _, _ => none
  | .unOp op _ x => match evalR t x with
    | some u => unAV op u fun r => K r h
    | none => none
  | .convert s d x => match evalR t x with
    | some v => evConvert T s d v h K
    | none => none
  | .makeFunc (.func f) a b => match evalRs t a.toList, evalRs t b.toList with
    | some u, some v => K (.fn f u v) h
    | _, _ => none
  | .makeSlice s l c => match T s, evalR t l, evalR t c with
    | some ⟨.slice e, some (.slice σ), _, _, _⟩, some (.int _ n), some (.int _ m) =>
      match T e with
      | some ei => (making m ei.bytes).bind fun m' => (upto n m').bind fun n' => K (.whole h.length) (h ++ [.vec true e σ (List.replicate n' σ.zero)])
      | none => none
    | _, _, _ => none
  | .slice ty' x lo hi none => match evalR t x, evalO t lo, evalO t hi with
    | some v, some l, some u => evSlice T ty' v l u h K
    | _, _, _ => none
  | .slice ty' x lo hi (some m) => bif is3 lo hi m then
      match evalR t x with
      | some v => evSlice3 T ty' v h K
      | none => none
    else none
  | .fieldAddr s x f => match T s, evalR t x with
    | some ⟨.struct fs, _, _, _, _⟩, some v =>
      match nth fs f with
      | some (o, ft) => match T ft with
        | some fi =>
          bif Nat.blt 0 fi.size then
            match v with
            | .ptr i off => K (.ptr i (off + o)) h
            | .elt i j size off => K (.elt i j size (off + o)) h
            | _ => none
          else none
        | none => none
      | none => none
    | _, _ => none
  | .field s x f => match T s, evalR t x with
    | some ⟨.struct fs, _, _, _, _⟩, some (.agg cs) =>
      match nth fs f with
      | some (o, ft) => match T ft with
        | some fi =>
          match fi.d with
          | .struct _ => K (.agg ((cs.drop o).take fi.size)) h
          | _ => match nth cs o with
            | some v => K v h
            | none => none
        | none => none
      | none => none
    | _, _ => none
  | .indexAddr s x i => match T s, evalR t x, evalR t i with
    | some ⟨.slice e, _, _, _, _⟩, some v, some j => match T e with
      | some ei => evIndexAddr ei.size v j h K
      | none => none
    | _, _, _ => none
  | .index xt x i => match T xt, evalR t x, evalR t i with
    | some ⟨.scalar, some .str, _, _, _⟩, some (.str s), some (.int _ j) => (bt s j).bind fun b => K (.int .u8 b) h
    | _, _, _ => none
  | .extract x i => match evalR t x with
    | some (.tup vs) => match nth vs i with
      | some v => K v h
      | none => none
    | _ => none
  | .call c =>
    match evalRs t c.args.toList with
    | none => none
    | some vs => typedL T c.argTypes.toList vs h fun vs h =>
      match c.callee with
      | .builtin b => evBuiltin T b c.argTypes.toList vs h K
      | .value f => match evalR t f with
        | some (.fn f first captured) => match F f with
          | some s => s.call (first ++ vs ++ captured) h K
          | none => none
        | _ => none
      | .invoke _ _ => none
  | _ => none

/-- A test whether a slice is nil, and whether it asks for ==. -/
def nilTest : Op → Option (Bool × TypeId × Operand)
  | .binOp .eql t x (.const (.slice none 0 0)) _ => some (true, t, x)
  | .binOp .neq t x (.const (.slice none 0 0)) _ => some (false, t, x)
  | _ => none

def evNil (q : Bool) (t : TypeId) (x : Option AV) (h : List Blk) (K : AV → Option Out) : Option Out :=
  match T t, x with
  | some ⟨.slice _, _, _, _, _⟩, some (.whole id) => match nth h id with
    | some (.vec _ _ _ xs) => bif xs.isEmpty then none else K (.bool (!q))
    | _ => none
  | some ⟨.slice _, _, _, _, _⟩, some (.sub _ _ n _) => bif Nat.beq n 0 then none else K (.bool (!q))
  | _, _ => none

/-- No bool. -/
def noBool : Value → Bool
  | .bool _ => false
  | _ => true

/-- Operations in the text's order. -/
def evOps (ops : List Oper) : List Oper → St → Kont → Option Out
  | [], st, K => K .normal st
  | o :: r, st, K =>
    match o.guard with
    | none =>
      match nilTest o.op with
      | some (q, t, x) => evNil T q t (evalR st.t x) st.h fun v => evOps ops r ⟨St.put st.t o.dst v, st.h⟩ K
      | none => evOp T F o.op o.type st.t st.h fun v h => evOps ops r ⟨St.put st.t o.dst v, h⟩ K
    | some (j, want) =>
      match (nth ops j).bind (·.dst) with
      | some d => match nth st.t d with
        | some (.bool b) =>
          bif b then
            (bif want then evOp T F o.op o.type (setNth st.t d (.bool true)) st.h fun v h => evOps ops r ⟨St.put (setNth st.t d (.bool true)) o.dst v, h⟩ K
            else evOps ops r ⟨St.put (setNth st.t d (.bool true)) o.dst (.val undef), st.h⟩ K)
          else
            (bif want then evOps ops r ⟨St.put (setNth st.t d (.bool false)) o.dst (.val undef), st.h⟩ K
            else evOp T F o.op o.type (setNth st.t d (.bool false)) st.h fun v h => evOps ops r ⟨St.put (setNth st.t d (.bool false)) o.dst v, h⟩ K)
        | some (.val u) => bif noBool u then evOps ops r ⟨St.put st.t o.dst (.val undef), st.h⟩ K else none
        | _ => none
      | none => none

/-- The number of a piece of code: that of its first region. -/
def key : Code → Nat
  | .region id _ _ => id
  | .seq a _ => key a
  | .block _ c => key c
  | .loop c => key c
  | .scope c => key c
  | .cond _ a b => bif Nat.blt (key a) 1000000 then key a else key b
  | _ => 1000000

/-- The number of a piece of code as a place where ways meet. -/
def cut (k : Nat) : Nat := k + 500000

variable (D : List Oper → St → Kont → Option Out) (L : Nat → Option LoopS)

def evCode : Code → St → Kont → Option Out
  | .skip, st, K => K .normal st
  | .region _ ops draw, st, K => bif draw then D ops.toList st K else evOps T F ops.toList ops.toList st K
  | .seq a b, st, K => evCode a st fun e st' => match e with
    | .normal => match L (cut (key b)) with
      | some l => l st' K
      | none => evCode b st' K
    | e => K e st'
  | .cond c a b, st, K => match evalR st.t c with
    | some (.bool q) => bif q then evCode a st K else evCode b st K
    | _ => none
  | .block id c, st, K => evCode c st fun e st' => match e with
    | .exit id' => bif id' == id then K .normal st' else K e st'
    | e => K e st'
  | .loop c, st, K => match L (key c) with
    | some l => l st K
    | none => none
  | .exit id, st, K => K (.exit id) st
  | .ret, st, K => K .ret st
  | _, _, _ => none

/-! ### Functions -/

def resultOf (t : List AV) (h : List Blk) : List ResultVar → Option (List AV)
  | [] => some []
  | .tmp x :: r => match nth t x, resultOf t h r with
    | some v, some vs => some (v :: vs)
    | _, _ => none
  | .cell x ty :: r => match T ty, nth t x, resultOf t h r with
    | some ti, some (.ptr id off), some vs => match nth h id, ti.d with
      | some (.cells _ cs), .struct _ => bif Nat.ble (off + ti.size) cs.length then some (.agg ((cs.drop off).take ti.size) :: vs) else none
      | some (.cells _ cs), _ => match nth cs off with
        | some v => some (v :: vs)
        | none => none
      | _, _ => none
    | _, _, _ => none

/-- The results, and the blocks without what nobody reaches. -/
def finish (n0 : Nat) (rs : List ResultVar) (st : St) : Option Out :=
  match resultOf T st.t st.h rs with
  | some vs =>
    bif gcOk n0 vs st.h then
      match (gc n0 vs st.h).1 with
      | [u] => some (u, (gc n0 vs st.h).2)
      | us => some (.tup us, (gc n0 vs st.h).2)
    else none
  | none => none

def evFn (fn : Func) (vs : List AV) (h : List Blk) : Option Out :=
  match fn.body with
  | some c => evCode T F D L c ⟨vs ++ List.replicate (fn.ntmps - vs.length) .any, h⟩ fun e st => match e with
    | .normal | .ret => finish T h.length fn.results.toList st
    | _ => none
  | none => none

/-- A loop, by rounds: 'n0' blocks are there for good, 'keep' are the slots that are still needed. -/
def evLoop (n0 : Nat) (keep : Nat → Bool) (body : Code) : Nat → St → Kont → Option Out
  | 0, _, _ => none
  | n + 1, st, K => evCode T F D L body st fun e st' =>
    bif normOk n0 keep st' then
      match e with
      | .normal => evLoop n0 keep body n (norm n0 keep st') K
      | e => K e (norm n0 keep st')
    else none

end
end Go.Ev

/-
  What functions of the program do, as plain functions.
-/
import Derived.Test.YtcddghcjllgbiaaW0
set_option linter.all false
set_option maxRecDepth 100000
set_option maxHeartbeats 4000000
namespace Go.Proofs.Ytcddghcjllgbiaa
open Go.Ev
noncomputable section

/-! ### laws_r8Long -/
def laws_r8Long {ρ : Type} (φ : Nat) (b4 : Bool) (e5 : Nat) (l6 : (List Int)) (b7 : Bool) (e8 : Nat) (l9 : (List Int)) (k : Bool → Option ρ) : Option ρ :=
  bif (decide ((((List.length l6) : Nat) : Int) > (48 : Int))) then
    k Bool.true
  else
    k (decide ((((List.length l9) : Nat) : Int) > (48 : Int)))

def laws_r8Long_val (r : Bool) : AV := (.bool r)

def laws_r8Long_L (φ : Nat) : Nat → Option LoopS := noL

def S_laws_r8Long (φ : Nat) : List AV → List Blk → Option Bool
  | [(.whole 0), (.whole 1)], [(.vec b4 e5 (.int .u8) l6), (.vec b7 e8 (.int .u8) l9)] => laws_r8Long φ b4 e5 l6 b7 e8 l9 some
  | _, _ => none

def c_laws_r8Long : List AV → List Blk → Bool
  | [(.whole 0), (.whole 1)], [(.vec b4 e5 (.int .u8) l6), (.vec b7 e8 (.int .u8) l9)] => true
  | _, _ => false

def A_laws_r8Long (φ : Nat) : Sum := .rd (S_laws_r8Long φ) laws_r8Long_val

def F_1 (φ : Nat) : FuncId → Option Sum := ins 4 (A_laws_r8Long φ) (F_0 φ)


/-! ### laws_r8At -/
def laws_r8At_c3 {ρ : Type} (φ : Nat) (n0 : Int) (n1 : Int) (n2 : Int) (b3 : Bool) (e4 : Nat) (l5 : (List Int)) (k0 : Int → Option ρ) : Option ρ :=
    Option.bind (idx n0 (List.length l5)) fun r6 =>
    Option.bind (l5[r6]?) fun r7 =>
    Option.bind (nonzero n1) fun r8 =>
    (k0 (Int.tmod (IntKind.wrap .i64 r7) n1))

def Lin_laws_r8At_c3 (φ : Nat) : Nat → Option LoopS := noL

def laws_r8At_c3_st (n0 : Int) (n1 : Int) (n2 : Int) (b3 : Bool) (e4 : Nat) (l5 : (List Int)) : St := (St.mk (spread 0 22 [0, 1, 2, 6] [(.whole 0), (.int .i64 n0), (.int .i64 n1), (.int .i64 n2)]) [(.vec b3 e4 (.int .u8) l5)])

def laws_r8At_c3_s (φ : Nat) : LoopS := fun st K => match sel 0 [0, 1, 2, 6] (norm 1 (hasN [0, 1, 2, 6]) st).t, (norm 1 (hasN [0, 1, 2, 6]) st).h with
  | [(.whole 0), (.int .i64 n0), (.int .i64 n1), (.int .i64 n2)], [(.vec b3 e4 (.int .u8) l5)] => bif normOk 1 (hasN [0, 1, 2, 6]) st && Nat.beq (norm 1 (hasN [0, 1, 2, 6]) st).t.length 22 then laws_r8At_c3 φ n0 n1 n2 b3 e4 l5 (fun n11 => K .ret (St.mk (spread 0 22 [0, 1, 2, 6] [(.whole 0), (.int .i64 n0), (.int .i64 n1), (.int .i64 n11)]) [(.vec b3 e4 (.int .u8) l5)])) else none
  | _, _ => none

def laws_r8At {ρ : Type} (φ : Nat) (n2 : Int) (n3 : Int) (b4 : Bool) (e5 : Nat) (l6 : (List Int)) (k : Int → Option ρ) : Option ρ :=
  bif (decide (n3 ≤ (1 : Int))) then
    k (0 : Int)
  else
    bif (decide (n2 ≥ (((List.length l6) : Nat) : Int))) then
      k (0 : Int)
    else
      laws_r8At_c3 φ n2 n3 (0 : Int) b4 e5 l6
        (fun e15 =>
        k e15)

def laws_r8At_val (r : Int) : AV := (.int .i64 r)

def laws_r8At_L (φ : Nat) : Nat → Option LoopS := insL (cut 3) (laws_r8At_c3_s φ) (noL)

def S_laws_r8At (φ : Nat) : List AV → List Blk → Option Int
  | [(.whole 0), (.int .i64 n2), (.int .i64 n3)], [(.vec b4 e5 (.int .u8) l6)] => laws_r8At φ n2 n3 b4 e5 l6 some
  | _, _ => none

def c_laws_r8At : List AV → List Blk → Bool
  | [(.whole 0), (.int .i64 n2), (.int .i64 n3)], [(.vec b4 e5 (.int .u8) l6)] => true
  | _, _ => false

def A_laws_r8At (φ : Nat) : Sum := .rd (S_laws_r8At φ) laws_r8At_val

def F_2 (φ : Nat) : FuncId → Option Sum := ins 5 (A_laws_r8At φ) (F_1 φ)


/-! ### spec_l00From -/
def spec_l00From {ρ : Type} (φ : Nat) (b2 : Bool) (e3 : Nat) (l4 : (List Int)) (k : (Int × Int) → Option ρ) : Option ρ :=
  k ((0 : Int), (0 : Int))

def spec_l00From_val (r : (Int × Int)) : AV × List Blk := ((.ptr 1 0), [(.cells 62 [(.whole 0), (.int .i64 r.1), (.int .u64 r.2)])])

def spec_l00From_L (φ : Nat) : Nat → Option LoopS := noL

def S_spec_l00From (φ : Nat) : List AV → List Blk → Option (Int × Int)
  | [(.whole 0)], [(.vec b2 e3 (.int .u8) l4)] => spec_l00From φ b2 e3 l4 some
  | _, _ => none

def c_spec_l00From : List AV → List Blk → Bool
  | [(.whole 0)], [(.vec b2 e3 (.int .u8) l4)] => true
  | _, _ => false

def A_spec_l00From (φ : Nat) : Sum := .mk (S_spec_l00From φ) spec_l00From_val

def F_3 (φ : Nat) : FuncId → Option Sum := ins 15 (A_spec_l00From φ) (F_2 φ)


/-! ### spec_l00Src_next -/
def spec_l00Src_next_c4 {ρ : Type} (φ : Nat) (n2 : Int) (n3 : Int) (n4 : Int) (n5 : Int) (b6 : Bool) (e7 : Nat) (l8 : (List Int)) (k0 : Int → Int → Int → Option ρ) : Option ρ :=
    bif (decide ((IntKind.wrap .i64 (n4 + (1 : Int))) ≤ (((List.length l8) : Nat) : Int))) then
      (k0 n3 (IntKind.wrap .i64 (n4 + (1 : Int))) (IntKind.wrap .u64 ((IntKind.wrap .u64 ((IntKind.wrap .u64 (n5 * (6364136223846793005 : Int))) + (IntKind.wrap .u64 n3))) + (1442695040888963407 : Int))))
    else
      Option.bind (nonneg (40 : Int)) fun r9 =>
      (k0 (IntKind.wrap .i64 (bits BinOp.and .u64 (Int.fdiv (IntKind.wrap .u64 ((IntKind.wrap .u64 ((IntKind.wrap .u64 (n5 * (6364136223846793005 : Int))) + (IntKind.wrap .u64 n3))) + (1442695040888963407 : Int))) ((2 : Int) ^ (Min.min r9 (IntKind.bits .u64)))) (255 : Int))) (IntKind.wrap .i64 (n4 + (1 : Int))) (IntKind.wrap .u64 ((IntKind.wrap .u64 ((IntKind.wrap .u64 (n5 * (6364136223846793005 : Int))) + (IntKind.wrap .u64 n3))) + (1442695040888963407 : Int))))

def Lin_spec_l00Src_next_c4 (φ : Nat) : Nat → Option LoopS := noL

def spec_l00Src_next_c4_st (n2 : Int) (n3 : Int) (n4 : Int) (n5 : Int) (b6 : Bool) (e7 : Nat) (l8 : (List Int)) : St := (St.mk (spread 0 62 [0, 2, 3] [(.ptr 0 0), (.int .i64 n2), (.int .i64 n3)]) [(.cells 62 [(.whole 1), (.int .i64 n4), (.int .u64 n5)]), (.vec b6 e7 (.int .u8) l8)])

def spec_l00Src_next_c4_s (φ : Nat) : LoopS := fun st K => match sel 0 [0, 2, 3] (norm 2 (hasN [0, 2, 3]) st).t, (norm 2 (hasN [0, 2, 3]) st).h with
  | [(.ptr 0 0), (.int .i64 n2), (.int .i64 n3)], [(.cells 62 [(.whole 1), (.int .i64 n4), (.int .u64 n5)]), (.vec b6 e7 (.int .u8) l8)] => bif normOk 2 (hasN [0, 2, 3]) st && Nat.beq (norm 2 (hasN [0, 2, 3]) st).t.length 62 then spec_l00Src_next_c4 φ n2 n3 n4 n5 b6 e7 l8 (fun n10 n12 n13 => K .ret (St.mk (spread 0 62 [0, 2, 3] [(.ptr 0 0), (.int .i64 n10), (.int .i64 n3)]) [(.cells 62 [(.whole 1), (.int .i64 n12), (.int .u64 n13)]), (.vec b6 e7 (.int .u8) l8)])) else none
  | _, _ => none

def spec_l00Src_next {ρ : Type} (φ : Nat) (n2 : Int) (n3 : Int) (b4 : Bool) (e5 : Nat) (l6 : (List Int)) (k : (Int × Int × Int) → Option ρ) : Option ρ :=
  bif (decide (n2 < (((List.length l6) : Nat) : Int))) then
    Option.bind (idx n2 (List.length l6)) fun r0 =>
    Option.bind (l6[r0]?) fun r1 =>
    spec_l00Src_next_c4 φ (0 : Int) (IntKind.wrap .i64 r1) n2 n3 b4 e5 l6
      (fun e17 e18 e19 =>
      k (e17, e18, e19))
  else
    spec_l00Src_next_c4 φ (0 : Int) (0 : Int) n2 n3 b4 e5 l6
      (fun e20 e21 e22 =>
      k (e20, e21, e22))

def spec_l00Src_next_val : List AV → List Blk → (Int × Int × Int) → AV × List Blk
  | [(.ptr 0 0)], [(.cells 62 [(.whole 1), (.int .i64 n2), (.int .u64 n3)]), (.vec b4 e5 (.int .u8) l6)], r => ((.int .i64 r.1), [(.cells 62 [(.whole 1), (.int .i64 r.2.1), (.int .u64 r.2.2)]), (.vec b4 e5 (.int .u8) l6)])
  | _, _, _ => (.any, [])

def spec_l00Src_next_L (φ : Nat) : Nat → Option LoopS := insL (cut 4) (spec_l00Src_next_c4_s φ) (noL)

def S_spec_l00Src_next (φ : Nat) : List AV → List Blk → Option (Int × Int × Int)
  | [(.ptr 0 0)], [(.cells 62 [(.whole 1), (.int .i64 n2), (.int .u64 n3)]), (.vec b4 e5 (.int .u8) l6)] => spec_l00Src_next φ n2 n3 b4 e5 l6 some
  | _, _ => none

def c_spec_l00Src_next : List AV → List Blk → Bool
  | [(.ptr 0 0)], [(.cells 62 [(.whole 1), (.int .i64 n2), (.int .u64 n3)]), (.vec b4 e5 (.int .u8) l6)] => true
  | _, _ => false

def A_spec_l00Src_next (φ : Nat) : Sum := .wr (S_spec_l00Src_next φ) spec_l00Src_next_val

def F_4 (φ : Nat) : FuncId → Option Sum := ins 36 (A_spec_l00Src_next φ) (F_3 φ)


/-! ### spec_l00Src_pick -/
def spec_l00Src_pick {ρ : Type} (φ : Nat) (n2 : Int) (n3 : Int) (n4 : Int) (b5 : Bool) (e6 : Nat) (l7 : (List Int)) (k : (Int × Int × Int) → Option ρ) : Option ρ :=
  bif (decide (n2 ≤ (1 : Int))) then
    k ((0 : Int), n3, n4)
  else
    Option.bind (spec_l00Src_next φ n3 n4 b5 e6 l7 some) fun r0 =>
    bif (decide (n2 > (200 : Int))) then
      Option.bind (spec_l00Src_next φ r0.2.1 r0.2.2 b5 e6 l7 some) fun r1 =>
      Option.bind (nonzero n2) fun r2 =>
      k ((Int.tmod (IntKind.wrap .i64 ((IntKind.wrap .i64 (r0.1 * (256 : Int))) + r1.1)) n2), r1.2.1, r1.2.2)
    else
      Option.bind (nonzero n2) fun r3 =>
      k ((Int.tmod r0.1 n2), r0.2.1, r0.2.2)

def spec_l00Src_pick_val : List AV → List Blk → (Int × Int × Int) → AV × List Blk
  | [(.ptr 0 0), (.int .i64 n2)], [(.cells 62 [(.whole 1), (.int .i64 n3), (.int .u64 n4)]), (.vec b5 e6 (.int .u8) l7)], r => ((.int .i64 r.1), [(.cells 62 [(.whole 1), (.int .i64 r.2.1), (.int .u64 r.2.2)]), (.vec b5 e6 (.int .u8) l7)])
  | _, _, _ => (.any, [])

def spec_l00Src_pick_L (φ : Nat) : Nat → Option LoopS := noL

def S_spec_l00Src_pick (φ : Nat) : List AV → List Blk → Option (Int × Int × Int)
  | [(.ptr 0 0), (.int .i64 n2)], [(.cells 62 [(.whole 1), (.int .i64 n3), (.int .u64 n4)]), (.vec b5 e6 (.int .u8) l7)] => spec_l00Src_pick φ n2 n3 n4 b5 e6 l7 some
  | _, _ => none

def c_spec_l00Src_pick : List AV → List Blk → Bool
  | [(.ptr 0 0), (.int .i64 n2)], [(.cells 62 [(.whole 1), (.int .i64 n3), (.int .u64 n4)]), (.vec b5 e6 (.int .u8) l7)] => true
  | _, _ => false

def A_spec_l00Src_pick (φ : Nat) : Sum := .wr (S_spec_l00Src_pick φ) spec_l00Src_pick_val

def F_5 (φ : Nat) : FuncId → Option Sum := ins 16 (A_spec_l00Src_pick φ) (F_4 φ)


/-! ### spec_R8List -/
def spec_R8List_3 {ρ : Type} (φ : Nat) (b2 : Bool) (e3 : Nat) (l4 : (List Int)) : Nat → Int → Int → Int → (List Nat) → (Int → Int → Int → (List Nat) → Option ρ) → Option ρ
  | 0, _, _, _, _, _ => none
  | n + 1, n1, n5, n6, l7, k0 =>
    bif (decide (n1 > (0 : Int))) then
      Option.bind (spec_l00Src_pick φ (17 : Int) n5 n6 b2 e3 l4 some) fun r8 =>
      Option.bind (room ((Nat.add (List.length l7) 0) + 1) 4) fun r9 =>
      spec_R8List_3 φ b2 e3 l4 n (IntKind.wrap .i64 (n1 - (1 : Int))) r8.2.1 r8.2.2 (l7 ++ [(fdiv .f32 (itof .f32 (IntKind.wrap .i64 (r8.1 - (8 : Int)))) (can .f32 1082130432))]) k0
    else
      (k0 n1 n5 n6 l7)

def Lin_spec_R8List_3 (φ : Nat) : Nat → Option LoopS := noL

def spec_R8List_3_st (n1 : Int) (b2 : Bool) (e3 : Nat) (l4 : (List Int)) (n5 : Int) (n6 : Int) (l7 : (List Nat)) : St := (St.mk (spread 0 23 [1, 5, 6] [(.int .i64 n1), (.ptr 1 0), (.whole 2)]) [(.vec b2 e3 (.int .u8) l4), (.cells 62 [(.whole 0), (.int .i64 n5), (.int .u64 n6)]), (.vec Bool.true 27 (.flt .f32) l7)])

def spec_R8List_3_s (φ : Nat) : LoopS := fun st K => match sel 0 [1, 5, 6] (norm 1 (hasN [1, 5, 6]) st).t, (norm 1 (hasN [1, 5, 6]) st).h with
  | [(.int .i64 n1), (.ptr 1 0), (.whole 2)], [(.vec b2 e3 (.int .u8) l4), (.cells 62 [(.whole 0), (.int .i64 n5), (.int .u64 n6)]), (.vec Bool.true 27 (.flt .f32) l7)] => bif normOk 1 (hasN [1, 5, 6]) st && Nat.beq (norm 1 (hasN [1, 5, 6]) st).t.length 23 then spec_R8List_3 φ b2 e3 l4 φ n1 n5 n6 l7 (fun n10 n14 n15 l16 => K (.exit 0) (St.mk (spread 0 23 [1, 5, 6] [(.int .i64 n10), (.ptr 1 0), (.whole 2)]) [(.vec b2 e3 (.int .u8) l4), (.cells 62 [(.whole 0), (.int .i64 n14), (.int .u64 n15)]), (.vec Bool.true 27 (.flt .f32) l16)])) else none
  | _, _ => none

def spec_R8List {ρ : Type} (φ : Nat) (n2 : Int) (b3 : Bool) (e4 : Nat) (l5 : (List Int)) (k : (List Nat) → Option ρ) : Option ρ :=
  Option.bind (spec_l00From φ b3 e4 l5 some) fun r0 =>
  spec_R8List_3 φ b3 e4 l5 φ n2 r0.1 r0.2 []
    (fun e17 e18 e19 e20 =>
    k e20)

def spec_R8List_val (r : (List Nat)) : AV × List Blk := ((.whole 1), [(.vec Bool.true 27 (.flt .f32) r)])

def spec_R8List_L (φ : Nat) : Nat → Option LoopS := insL 3 (spec_R8List_3_s φ) (noL)

def S_spec_R8List (φ : Nat) : List AV → List Blk → Option (List Nat)
  | [(.whole 0), (.int .i64 n2)], [(.vec b3 e4 (.int .u8) l5)] => spec_R8List φ n2 b3 e4 l5 some
  | _, _ => none

def c_spec_R8List : List AV → List Blk → Bool
  | [(.whole 0), (.int .i64 n2)], [(.vec b3 e4 (.int .u8) l5)] => true
  | _, _ => false

def A_spec_R8List (φ : Nat) : Sum := .mk (S_spec_R8List φ) spec_R8List_val

def F_6 (φ : Nat) : FuncId → Option Sum := ins 6 (A_spec_R8List φ) (F_5 φ)


/-! ### impl_length_float32 -/
def impl_length_float32 {ρ : Type} (φ : Nat) (b2 : Bool) (e3 : Nat) (l4 : (List Nat)) (k : Int → Option ρ) : Option ρ :=
  k (((List.length l4) : Nat) : Int)

def impl_length_float32_val (r : Int) : AV := (.int .i64 r)

def impl_length_float32_L (φ : Nat) : Nat → Option LoopS := noL

def S_impl_length_float32 (φ : Nat) : List AV → List Blk → Option Int
  | [(.whole 0)], [(.vec b2 e3 (.flt .f32) l4)] => impl_length_float32 φ b2 e3 l4 some
  | _, _ => none

def c_impl_length_float32 : List AV → List Blk → Bool
  | [(.whole 0)], [(.vec b2 e3 (.flt .f32) l4)] => true
  | _, _ => false

def A_impl_length_float32 (φ : Nat) : Sum := .rd (S_impl_length_float32 φ) impl_length_float32_val

def F_7 (φ : Nat) : FuncId → Option Sum := ins 26 (A_impl_length_float32 φ) (F_6 φ)


/-! ### impl_within -/
def impl_within {ρ : Type} (φ : Nat) (n0 : Int) (n1 : Int) (n2 : Int) (k : Bool → Option ρ) : Option ρ :=
  bif (decide (n1 ≤ n0)) then
    k (decide (n0 ≤ n2))
  else
    k Bool.false

def impl_within_val (r : Bool) : AV := (.bool r)

def impl_within_L (φ : Nat) : Nat → Option LoopS := noL

def S_impl_within (φ : Nat) : List AV → List Blk → Option Bool
  | [(.int .i64 n0), (.int .i64 n1), (.int .i64 n2)], [] => impl_within φ n0 n1 n2 some
  | _, _ => none

def c_impl_within : List AV → List Blk → Bool
  | [(.int .i64 n0), (.int .i64 n1), (.int .i64 n2)], [] => true
  | _, _ => false

def A_impl_within (φ : Nat) : Sum := .rd (S_impl_within φ) impl_within_val

def F_8 (φ : Nat) : FuncId → Option Sum := ins 25 (A_impl_within φ) (F_7 φ)


/-! ### impl_isTicks -/
def impl_isTicks {ρ : Type} (φ : Nat) (b2 : Bool) (e3 : Nat) (l4 : (List Nat)) (k : Bool → Option ρ) : Option ρ :=
  Option.bind (impl_length_float32 φ b2 e3 l4 some) fun r0 =>
  Option.bind (impl_within φ r0 (1 : Int) (64 : Int) some) fun r1 =>
  k r1

def impl_isTicks_val (r : Bool) : AV := (.bool r)

def impl_isTicks_L (φ : Nat) : Nat → Option LoopS := noL

def S_impl_isTicks (φ : Nat) : List AV → List Blk → Option Bool
  | [(.whole 0)], [(.vec b2 e3 (.flt .f32) l4)] => impl_isTicks φ b2 e3 l4 some
  | _, _ => none

def c_impl_isTicks : List AV → List Blk → Bool
  | [(.whole 0)], [(.vec b2 e3 (.flt .f32) l4)] => true
  | _, _ => false

def A_impl_isTicks (φ : Nat) : Sum := .rd (S_impl_isTicks φ) impl_isTicks_val

def F_9 (φ : Nat) : FuncId → Option Sum := ins 17 (A_impl_isTicks φ) (F_8 φ)


/-! ### math_Floor -/
def math_Floor {ρ : Type} (φ : Nat) (x0 : Nat) (k : Nat → Option ρ) : Option ρ :=
  Option.bind (x_fround Ieee.Toward.down x0) fun r0 =>
  k r0

def math_Floor_val (r : Nat) : AV := (.flt .f64 r)

def math_Floor_L (φ : Nat) : Nat → Option LoopS := noL

def S_math_Floor (φ : Nat) : List AV → List Blk → Option Nat
  | [(.flt .f64 x0)], [] => math_Floor φ x0 some
  | _, _ => none

def c_math_Floor : List AV → List Blk → Bool
  | [(.flt .f64 x0)], [] => true
  | _, _ => false

def A_math_Floor (φ : Nat) : Sum := .rd (S_math_Floor φ) math_Floor_val

def F_10 (φ : Nat) : FuncId → Option Sum := ins 32 (A_math_Floor φ) (F_9 φ)


/-! ### impl_sample -/
def impl_sample_c3 {ρ : Type} (φ : Nat) (x0 : Nat) (x1 : Nat) (b2 : Bool) (e3 : Nat) (l4 : (List Nat)) (k0 : Nat → Option ρ) : Option ρ :=
    Option.bind (fconv .f32 x0 .f64) fun r5 =>
    Option.bind (math_Floor φ r5 some) fun r6 =>
    Option.bind (ftoi .f64 r6 .i64) fun r7 =>
    bif (feq .f32 (fsub .f32 x0 (itof .f32 r7)) (can .f32 0)) then
      Option.bind (idx r7 (List.length l4)) fun r8 =>
      Option.bind (l4[r8]?) fun r9 =>
      (k0 r9)
    else
      Option.bind (idx r7 (List.length l4)) fun r10 =>
      Option.bind (l4[r10]?) fun r11 =>
      Option.bind (idx (IntKind.wrap .i64 (r7 + (1 : Int))) (List.length l4)) fun r12 =>
      Option.bind (l4[r12]?) fun r13 =>
      Option.bind (idx r7 (List.length l4)) fun r14 =>
      Option.bind (l4[r14]?) fun r15 =>
      (k0 (fadd .f32 r11 (fmul .f32 (fsub .f32 x0 (itof .f32 r7)) (fsub .f32 r13 r15))))

def Lin_impl_sample_c3 (φ : Nat) : Nat → Option LoopS := noL

def impl_sample_c3_st (x0 : Nat) (x1 : Nat) (b2 : Bool) (e3 : Nat) (l4 : (List Nat)) : St := (St.mk (spread 0 49 [0, 1, 4] [(.whole 0), (.flt .f32 x0), (.flt .f32 x1)]) [(.vec b2 e3 (.flt .f32) l4)])

def impl_sample_c3_s (φ : Nat) : LoopS := fun st K => match sel 0 [0, 1, 4] (norm 1 (hasN [0, 1, 4]) st).t, (norm 1 (hasN [0, 1, 4]) st).h with
  | [(.whole 0), (.flt .f32 x0), (.flt .f32 x1)], [(.vec b2 e3 (.flt .f32) l4)] => bif normOk 1 (hasN [0, 1, 4]) st && Nat.beq (norm 1 (hasN [0, 1, 4]) st).t.length 49 then impl_sample_c3 φ x0 x1 b2 e3 l4 (fun x17 => K .ret (St.mk (spread 0 49 [0, 1, 4] [(.whole 0), (.flt .f32 x0), (.flt .f32 x17)]) [(.vec b2 e3 (.flt .f32) l4)])) else none
  | _, _ => none

def impl_sample {ρ : Type} (φ : Nat) (x2 : Nat) (b3 : Bool) (e4 : Nat) (l5 : (List Nat)) (k : Nat → Option ρ) : Option ρ :=
  bif (fge .f32 x2 (can .f32 0)) then
    bif (!(fle .f32 x2 (itof .f32 (IntKind.wrap .i64 ((((List.length l5) : Nat) : Int) - (1 : Int)))))) then
      k (can .f32 0)
    else
      impl_sample_c3 φ x2 (can .f32 0) b3 e4 l5
        (fun e21 =>
        k e21)
  else
    k (can .f32 0)

def impl_sample_val (r : Nat) : AV := (.flt .f32 r)

def impl_sample_L (φ : Nat) : Nat → Option LoopS := insL (cut 3) (impl_sample_c3_s φ) (noL)

def S_impl_sample (φ : Nat) : List AV → List Blk → Option Nat
  | [(.whole 0), (.flt .f32 x2)], [(.vec b3 e4 (.flt .f32) l5)] => impl_sample φ x2 b3 e4 l5 some
  | _, _ => none

def c_impl_sample : List AV → List Blk → Bool
  | [(.whole 0), (.flt .f32 x2)], [(.vec b3 e4 (.flt .f32) l5)] => true
  | _, _ => false

def A_impl_sample (φ : Nat) : Sum := .rd (S_impl_sample φ) impl_sample_val

def F_11 (φ : Nat) : FuncId → Option Sum := ins 18 (A_impl_sample φ) (F_10 φ)


/-! ### impl_SampleBetween -/
def impl_SampleBetween {ρ : Type} (φ : Nat) (x2 : Nat) (b3 : Bool) (e4 : Nat) (l5 : (List Nat)) (k : (Nat × Bool) → Option ρ) : Option ρ :=
  Option.bind (impl_isTicks φ b3 e4 l5 some) fun r0 =>
  bif (!r0) then
    k ((can .f32 0), Bool.false)
  else
    Option.bind (impl_sample φ x2 b3 e4 l5 some) fun r1 =>
    k (r1, Bool.true)

def impl_SampleBetween_val (r : (Nat × Bool)) : AV := (.tup [(.flt .f32 r.1), (.bool r.2)])

def impl_SampleBetween_L (φ : Nat) : Nat → Option LoopS := noL

def S_impl_SampleBetween (φ : Nat) : List AV → List Blk → Option (Nat × Bool)
  | [(.whole 0), (.flt .f32 x2)], [(.vec b3 e4 (.flt .f32) l5)] => impl_SampleBetween φ x2 b3 e4 l5 some
  | _, _ => none

def c_impl_SampleBetween : List AV → List Blk → Bool
  | [(.whole 0), (.flt .f32 x2)], [(.vec b3 e4 (.flt .f32) l5)] => true
  | _, _ => false

def A_impl_SampleBetween (φ : Nat) : Sum := .rd (S_impl_SampleBetween φ) impl_SampleBetween_val

def F_12 (φ : Nat) : FuncId → Option Sum := ins 7 (A_impl_SampleBetween φ) (F_11 φ)


/-! ### impl_isFinite -/
def impl_isFinite {ρ : Type} (φ : Nat) (x0 : Nat) (k : Bool → Option ρ) : Option ρ :=
  k (feq .f64 (fsub .f64 x0 x0) (can .f64 0))

def impl_isFinite_val (r : Bool) : AV := (.bool r)

def impl_isFinite_L (φ : Nat) : Nat → Option LoopS := noL

def S_impl_isFinite (φ : Nat) : List AV → List Blk → Option Bool
  | [(.flt .f64 x0)], [] => impl_isFinite φ x0 some
  | _, _ => none

def c_impl_isFinite : List AV → List Blk → Bool
  | [(.flt .f64 x0)], [] => true
  | _, _ => false

def A_impl_isFinite (φ : Nat) : Sum := .rd (S_impl_isFinite φ) impl_isFinite_val

def F_13 (φ : Nat) : FuncId → Option Sum := ins 37 (A_impl_isFinite φ) (F_12 φ)


/-! ### impl_IsFinite -/
def impl_IsFinite {ρ : Type} (φ : Nat) (x0 : Nat) (k : Bool → Option ρ) : Option ρ :=
  Option.bind (fconv .f32 x0 .f64) fun r0 =>
  Option.bind (impl_isFinite φ r0 some) fun r1 =>
  k r1

def impl_IsFinite_val (r : Bool) : AV := (.bool r)

def impl_IsFinite_L (φ : Nat) : Nat → Option LoopS := noL

def S_impl_IsFinite (φ : Nat) : List AV → List Blk → Option Bool
  | [(.flt .f32 x0)], [] => impl_IsFinite φ x0 some
  | _, _ => none

def c_impl_IsFinite : List AV → List Blk → Bool
  | [(.flt .f32 x0)], [] => true
  | _, _ => false

def A_impl_IsFinite (φ : Nat) : Sum := .rd (S_impl_IsFinite φ) impl_IsFinite_val

def F_14 (φ : Nat) : FuncId → Option Sum := ins 19 (A_impl_IsFinite φ) (F_13 φ)


/-! ### impl_areFinite -/
def impl_areFinite_2 {ρ : Type} (φ : Nat) (b0 : Bool) (n1 : Int) (b3 : Bool) (e4 : Nat) (l5 : (List Nat)) : Nat → Int → (Int → Option ρ) → (Int → Option ρ) → Option ρ
  | 0, _, _, _ => none
  | n + 1, n2, k0, k1 =>
    bif (decide (n2 < n1)) then
      Option.bind (idx n2 (List.length l5)) fun r6 =>
      Option.bind (l5[r6]?) fun r7 =>
      Option.bind (impl_IsFinite φ r7 some) fun r8 =>
      bif (!r8) then
        (k0 n2)
      else
        impl_areFinite_2 φ b0 n1 b3 e4 l5 n (IntKind.wrap .i64 (n2 + (1 : Int))) k0 k1
    else
      (k1 n2)

def Lin_impl_areFinite_2 (φ : Nat) : Nat → Option LoopS := noL

def impl_areFinite_2_st (b0 : Bool) (n1 : Int) (n2 : Int) (b3 : Bool) (e4 : Nat) (l5 : (List Nat)) : St := (St.mk (spread 0 15 [2, 5, 6, 7] [(.bool b0), (.whole 0), (.int .i64 n1), (.int .i64 n2)]) [(.vec b3 e4 (.flt .f32) l5)])

def impl_areFinite_2_s (φ : Nat) : LoopS := fun st K => match sel 0 [2, 5, 6, 7] (norm 1 (hasN [2, 5, 6, 7]) st).t, (norm 1 (hasN [2, 5, 6, 7]) st).h with
  | [(.bool b0), (.whole 0), (.int .i64 n1), (.int .i64 n2)], [(.vec b3 e4 (.flt .f32) l5)] => bif normOk 1 (hasN [2, 5, 6, 7]) st && Nat.beq (norm 1 (hasN [2, 5, 6, 7]) st).t.length 15 then impl_areFinite_2 φ b0 n1 b3 e4 l5 φ n2 (fun n11 => K .ret (St.mk (spread 0 15 [2, 5, 6, 7] [(.bool Bool.false), (.whole 0), (.int .i64 n1), (.int .i64 n11)]) [(.vec b3 e4 (.flt .f32) l5)])) (fun n17 => K (.exit 0) (St.mk (spread 0 15 [2, 5, 6, 7] [(.bool b0), (.whole 0), (.int .i64 n1), (.int .i64 n17)]) [(.vec b3 e4 (.flt .f32) l5)])) else none
  | _, _ => none

def impl_areFinite {ρ : Type} (φ : Nat) (b2 : Bool) (e3 : Nat) (l4 : (List Nat)) (k : Bool → Option ρ) : Option ρ :=
  impl_areFinite_2 φ Bool.false (((List.length l4) : Nat) : Int) b2 e3 l4 φ (0 : Int)
    (fun e21 =>
    k Bool.false)
    (fun e22 =>
    k Bool.true)

def impl_areFinite_val (r : Bool) : AV := (.bool r)

def impl_areFinite_L (φ : Nat) : Nat → Option LoopS := insL 2 (impl_areFinite_2_s φ) (noL)

def S_impl_areFinite (φ : Nat) : List AV → List Blk → Option Bool
  | [(.whole 0)], [(.vec b2 e3 (.flt .f32) l4)] => impl_areFinite φ b2 e3 l4 some
  | _, _ => none

def c_impl_areFinite : List AV → List Blk → Bool
  | [(.whole 0)], [(.vec b2 e3 (.flt .f32) l4)] => true
  | _, _ => false

def A_impl_areFinite (φ : Nat) : Sum := .rd (S_impl_areFinite φ) impl_areFinite_val

def F_15 (φ : Nat) : FuncId → Option Sum := ins 27 (A_impl_areFinite φ) (F_14 φ)


/-! ### impl_arePositive_1 -/
def impl_arePositive_1 {ρ : Type} (φ : Nat) (x0 : Nat) (k : Bool → Option ρ) : Option ρ :=
  k (fle .f32 x0 (can .f32 0))

def impl_arePositive_1_val (r : Bool) : AV := (.bool r)

def impl_arePositive_1_L (φ : Nat) : Nat → Option LoopS := noL

def S_impl_arePositive_1 (φ : Nat) : List AV → List Blk → Option Bool
  | [(.flt .f32 x0)], [] => impl_arePositive_1 φ x0 some
  | _, _ => none

def c_impl_arePositive_1 : List AV → List Blk → Bool
  | [(.flt .f32 x0)], [] => true
  | _, _ => false

def A_impl_arePositive_1 (φ : Nat) : Sum := .rd (S_impl_arePositive_1 φ) impl_arePositive_1_val

def F_16 (φ : Nat) : FuncId → Option Sum := ins 39 (A_impl_arePositive_1 φ) (F_15 φ)


/-! ### slices_IndexFunc_float32_float32 -/
def slices_IndexFunc_float32_float32_2 {ρ : Type} (φ : Nat) (n0 : Int) (n1 : Int) (b3 : Bool) (e4 : Nat) (l5 : (List Nat)) : Nat → Int → (Int → Int → Option ρ) → (Int → Option ρ) → Option ρ
  | 0, _, _, _ => none
  | n + 1, n2, k0, k1 =>
    bif (decide (n2 < n1)) then
      Option.bind (idx n2 (List.length l5)) fun r6 =>
      Option.bind (l5[r6]?) fun r7 =>
      Option.bind (impl_arePositive_1 φ r7 some) fun r8 =>
      bif r8 then
        (k0 n2 n2)
      else
        slices_IndexFunc_float32_float32_2 φ n0 n1 b3 e4 l5 n (IntKind.wrap .i64 (n2 + (1 : Int))) k0 k1
    else
      (k1 n2)

def Lin_slices_IndexFunc_float32_float32_2 (φ : Nat) : Nat → Option LoopS := noL

def slices_IndexFunc_float32_float32_2_st (n0 : Int) (n1 : Int) (n2 : Int) (b3 : Bool) (e4 : Nat) (l5 : (List Nat)) : St := (St.mk (spread 0 19 [0, 1, 4, 7, 8] [(.whole 0), (.fn 39 [] []), (.int .i64 n0), (.int .i64 n1), (.int .i64 n2)]) [(.vec b3 e4 (.flt .f32) l5)])

def slices_IndexFunc_float32_float32_2_s (φ : Nat) : LoopS := fun st K => match sel 0 [0, 1, 4, 7, 8] (norm 1 (hasN [0, 1, 4, 7, 8]) st).t, (norm 1 (hasN [0, 1, 4, 7, 8]) st).h with
  | [(.whole 0), (.fn 39 [] []), (.int .i64 n0), (.int .i64 n1), (.int .i64 n2)], [(.vec b3 e4 (.flt .f32) l5)] => bif normOk 1 (hasN [0, 1, 4, 7, 8]) st && Nat.beq (norm 1 (hasN [0, 1, 4, 7, 8]) st).t.length 19 then slices_IndexFunc_float32_float32_2 φ n0 n1 b3 e4 l5 φ n2 (fun n9 n11 => K .ret (St.mk (spread 0 19 [0, 1, 4, 7, 8] [(.whole 0), (.fn 39 [] []), (.int .i64 n9), (.int .i64 n1), (.int .i64 n11)]) [(.vec b3 e4 (.flt .f32) l5)])) (fun n17 => K (.exit 0) (St.mk (spread 0 19 [0, 1, 4, 7, 8] [(.whole 0), (.fn 39 [] []), (.int .i64 n0), (.int .i64 n1), (.int .i64 n17)]) [(.vec b3 e4 (.flt .f32) l5)])) else none
  | _, _ => none

def slices_IndexFunc_float32_float32 {ρ : Type} (φ : Nat) (b2 : Bool) (e3 : Nat) (l4 : (List Nat)) (k : Int → Option ρ) : Option ρ :=
  slices_IndexFunc_float32_float32_2 φ (0 : Int) (((List.length l4) : Nat) : Int) b2 e3 l4 φ (0 : Int)
    (fun e21 e22 =>
    k e21)
    (fun e23 =>
    k (-(1 : Int)))

def slices_IndexFunc_float32_float32_val (r : Int) : AV := (.int .i64 r)

def slices_IndexFunc_float32_float32_L (φ : Nat) : Nat → Option LoopS := insL 2 (slices_IndexFunc_float32_float32_2_s φ) (noL)

def S_slices_IndexFunc_float32_float32 (φ : Nat) : List AV → List Blk → Option Int
  | [(.whole 0), (.fn 39 [] [])], [(.vec b2 e3 (.flt .f32) l4)] => slices_IndexFunc_float32_float32 φ b2 e3 l4 some
  | _, _ => none

def c_slices_IndexFunc_float32_float32 : List AV → List Blk → Bool
  | [(.whole 0), (.fn 39 [] [])], [(.vec b2 e3 (.flt .f32) l4)] => true
  | _, _ => false

def A_slices_IndexFunc_float32_float32 (φ : Nat) : Sum := .rd (S_slices_IndexFunc_float32_float32 φ) slices_IndexFunc_float32_float32_val

def F_17 (φ : Nat) : FuncId → Option Sum := ins 46 (A_slices_IndexFunc_float32_float32 φ) (F_16 φ)


/-! ### slices_ContainsFunc_float32_float32 -/
def slices_ContainsFunc_float32_float32 {ρ : Type} (φ : Nat) (b2 : Bool) (e3 : Nat) (l4 : (List Nat)) (k : Bool → Option ρ) : Option ρ :=
  Option.bind (slices_IndexFunc_float32_float32 φ b2 e3 l4 some) fun r0 =>
  k (decide (r0 ≥ (0 : Int)))

def slices_ContainsFunc_float32_float32_val (r : Bool) : AV := (.bool r)

def slices_ContainsFunc_float32_float32_L (φ : Nat) : Nat → Option LoopS := noL

def S_slices_ContainsFunc_float32_float32 (φ : Nat) : List AV → List Blk → Option Bool
  | [(.whole 0), (.fn 39 [] [])], [(.vec b2 e3 (.flt .f32) l4)] => slices_ContainsFunc_float32_float32 φ b2 e3 l4 some
  | _, _ => none

def c_slices_ContainsFunc_float32_float32 : List AV → List Blk → Bool
  | [(.whole 0), (.fn 39 [] [])], [(.vec b2 e3 (.flt .f32) l4)] => true
  | _, _ => false

def A_slices_ContainsFunc_float32_float32 (φ : Nat) : Sum := .rd (S_slices_ContainsFunc_float32_float32 φ) slices_ContainsFunc_float32_float32_val

def F_18 (φ : Nat) : FuncId → Option Sum := ins 38 (A_slices_ContainsFunc_float32_float32 φ) (F_17 φ)


/-! ### impl_arePositive -/
def impl_arePositive {ρ : Type} (φ : Nat) (b2 : Bool) (e3 : Nat) (l4 : (List Nat)) (k : Bool → Option ρ) : Option ρ :=
  Option.bind (impl_areFinite φ b2 e3 l4 some) fun r0 =>
  bif r0 then
    Option.bind (slices_ContainsFunc_float32_float32 φ b2 e3 l4 some) fun r1 =>
    k (!r1)
  else
    k Bool.false

def impl_arePositive_val (r : Bool) : AV := (.bool r)

def impl_arePositive_L (φ : Nat) : Nat → Option LoopS := noL

def S_impl_arePositive (φ : Nat) : List AV → List Blk → Option Bool
  | [(.whole 0)], [(.vec b2 e3 (.flt .f32) l4)] => impl_arePositive φ b2 e3 l4 some
  | _, _ => none

def c_impl_arePositive : List AV → List Blk → Bool
  | [(.whole 0)], [(.vec b2 e3 (.flt .f32) l4)] => true
  | _, _ => false

def A_impl_arePositive (φ : Nat) : Sum := .rd (S_impl_arePositive φ) impl_arePositive_val

def F_19 (φ : Nat) : FuncId → Option Sum := ins 20 (A_impl_arePositive φ) (F_18 φ)


/-! ### math_Sqrt -/
def math_Sqrt {ρ : Type} (φ : Nat) (x0 : Nat) (k : Nat → Option ρ) : Option ρ :=
  Option.bind (x_sqrt x0) fun r0 =>
  k r0

def math_Sqrt_val (r : Nat) : AV := (.flt .f64 r)

def math_Sqrt_L (φ : Nat) : Nat → Option LoopS := noL

def S_math_Sqrt (φ : Nat) : List AV → List Blk → Option Nat
  | [(.flt .f64 x0)], [] => math_Sqrt φ x0 some
  | _, _ => none

def c_math_Sqrt : List AV → List Blk → Bool
  | [(.flt .f64 x0)], [] => true
  | _, _ => false

def A_math_Sqrt (φ : Nat) : Sum := .rd (S_math_Sqrt φ) math_Sqrt_val

def F_20 (φ : Nat) : FuncId → Option Sum := ins 47 (A_math_Sqrt φ) (F_19 φ)


/-! ### impl_RootNumber -/
def impl_RootNumber {ρ : Type} (φ : Nat) (x0 : Nat) (k : Nat → Option ρ) : Option ρ :=
  Option.bind (fconv .f32 x0 .f64) fun r0 =>
  Option.bind (math_Sqrt φ r0 some) fun r1 =>
  Option.bind (fconv .f64 r1 .f32) fun r2 =>
  k r2

def impl_RootNumber_val (r : Nat) : AV := (.flt .f32 r)

def impl_RootNumber_L (φ : Nat) : Nat → Option LoopS := noL

def S_impl_RootNumber (φ : Nat) : List AV → List Blk → Option Nat
  | [(.flt .f32 x0)], [] => impl_RootNumber φ x0 some
  | _, _ => none

def c_impl_RootNumber : List AV → List Blk → Bool
  | [(.flt .f32 x0)], [] => true
  | _, _ => false

def A_impl_RootNumber (φ : Nat) : Sum := .rd (S_impl_RootNumber φ) impl_RootNumber_val

def F_21 (φ : Nat) : FuncId → Option Sum := ins 42 (A_impl_RootNumber φ) (F_20 φ)


/-! ### impl_curve -/
def impl_curve {ρ : Type} (φ : Nat) (x0 : Nat) (x1 : Nat) (x2 : Nat) (k : Nat → Option ρ) : Option ρ :=
  Option.bind (impl_RootNumber φ (fadd .f32 (fmul .f32 x0 x0) (fmul .f32 (fdiv .f32 x1 x2) (fdiv .f32 x1 x2))) some) fun r0 =>
  k r0

def impl_curve_val (r : Nat) : AV := (.flt .f32 r)

def impl_curve_L (φ : Nat) : Nat → Option LoopS := noL

def S_impl_curve (φ : Nat) : List AV → List Blk → Option Nat
  | [(.flt .f32 x0), (.flt .f32 x1), (.flt .f32 x2)], [] => impl_curve φ x0 x1 x2 some
  | _, _ => none

def c_impl_curve : List AV → List Blk → Bool
  | [(.flt .f32 x0), (.flt .f32 x1), (.flt .f32 x2)], [] => true
  | _, _ => false

def A_impl_curve (φ : Nat) : Sum := .rd (S_impl_curve φ) impl_curve_val

def F_22 (φ : Nat) : FuncId → Option Sum := ins 33 (A_impl_curve φ) (F_21 φ)


/-! ### impl_corrected_1 -/
def impl_corrected_1 {ρ : Type} (φ : Nat) (x0 : Nat) (x1 : Nat) (x2 : Nat) (k : Nat → Option ρ) : Option ρ :=
  Option.bind (impl_curve φ x0 x1 x2 some) fun r0 =>
  k r0

def impl_corrected_1_val (r : Nat) : AV := (.flt .f32 r)

def impl_corrected_1_L (φ : Nat) : Nat → Option LoopS := noL

def S_impl_corrected_1 (φ : Nat) : List AV → List Blk → Option Nat
  | [(.flt .f32 x0), (.ptr 0 0), (.ptr 1 0)], [(.cells 27 [(.flt .f32 x1)]), (.cells 27 [(.flt .f32 x2)])] => impl_corrected_1 φ x0 x1 x2 some
  | _, _ => none

def c_impl_corrected_1 : List AV → List Blk → Bool
  | [(.flt .f32 x0), (.ptr 0 0), (.ptr 1 0)], [(.cells 27 [(.flt .f32 x1)]), (.cells 27 [(.flt .f32 x2)])] => true
  | _, _ => false

def A_impl_corrected_1 (φ : Nat) : Sum := .rd (S_impl_corrected_1 φ) impl_corrected_1_val

def F_23 (φ : Nat) : FuncId → Option Sum := ins 40 (A_impl_corrected_1 φ) (F_22 φ)


/-! ### impl_sampled -/
def impl_sampled_3 {ρ : Type} (φ : Nat) (n0 : Int) (b2 : Bool) (e3 : Nat) (l4 : (List Nat)) (x5 : Nat) (x6 : Nat) : Nat → Int → (List Nat) → (Int → (List Nat) → Option ρ) → Option ρ
  | 0, _, _, _ => none
  | n + 1, n1, l7, k0 =>
    bif (decide (n1 < n0)) then
      Option.bind (impl_corrected_1 φ (itof .f32 n1) x5 x6 some) fun r8 =>
      Option.bind (impl_sample φ r8 b2 e3 l4 some) fun r9 =>
      Option.bind (room ((Nat.add (List.length l7) 0) + 1) 4) fun r10 =>
      impl_sampled_3 φ n0 b2 e3 l4 x5 x6 n (IntKind.wrap .i64 (n1 + (1 : Int))) (l7 ++ [r9]) k0
    else
      (k0 n1 l7)

def Lin_impl_sampled_3 (φ : Nat) : Nat → Option LoopS := noL

def impl_sampled_3_st (n0 : Int) (n1 : Int) (b2 : Bool) (e3 : Nat) (l4 : (List Nat)) (x5 : Nat) (x6 : Nat) (l7 : (List Nat)) : St := (St.mk (spread 0 23 [0, 1, 5, 8, 9] [(.whole 0), (.fn 40 [] [(.ptr 1 0), (.ptr 2 0)]), (.whole 3), (.int .i64 n0), (.int .i64 n1)]) [(.vec b2 e3 (.flt .f32) l4), (.cells 27 [(.flt .f32 x5)]), (.cells 27 [(.flt .f32 x6)]), (.vec Bool.true 27 (.flt .f32) l7)])

def impl_sampled_3_s (φ : Nat) : LoopS := fun st K => match sel 0 [0, 1, 5, 8, 9] (norm 3 (hasN [0, 1, 5, 8, 9]) st).t, (norm 3 (hasN [0, 1, 5, 8, 9]) st).h with
  | [(.whole 0), (.fn 40 [] [(.ptr 1 0), (.ptr 2 0)]), (.whole 3), (.int .i64 n0), (.int .i64 n1)], [(.vec b2 e3 (.flt .f32) l4), (.cells 27 [(.flt .f32 x5)]), (.cells 27 [(.flt .f32 x6)]), (.vec Bool.true 27 (.flt .f32) l7)] => bif normOk 3 (hasN [0, 1, 5, 8, 9]) st && Nat.beq (norm 3 (hasN [0, 1, 5, 8, 9]) st).t.length 23 then impl_sampled_3 φ n0 b2 e3 l4 x5 x6 φ n1 l7 (fun n12 l18 => K (.exit 0) (St.mk (spread 0 23 [0, 1, 5, 8, 9] [(.whole 0), (.fn 40 [] [(.ptr 1 0), (.ptr 2 0)]), (.whole 3), (.int .i64 n0), (.int .i64 n12)]) [(.vec b2 e3 (.flt .f32) l4), (.cells 27 [(.flt .f32 x5)]), (.cells 27 [(.flt .f32 x6)]), (.vec Bool.true 27 (.flt .f32) l18)])) else none
  | _, _ => none

def impl_sampled {ρ : Type} (φ : Nat) (b2 : Bool) (e3 : Nat) (l4 : (List Nat)) (x5 : Nat) (x6 : Nat) (k : (List Nat) → Option ρ) : Option ρ :=
  impl_sampled_3 φ (((List.length l4) : Nat) : Int) b2 e3 l4 x5 x6 φ (0 : Int) []
    (fun e19 e20 =>
    k e20)

def impl_sampled_val (r : (List Nat)) : AV × List Blk := ((.whole 3), [(.vec Bool.true 27 (.flt .f32) r)])

def impl_sampled_L (φ : Nat) : Nat → Option LoopS := insL 3 (impl_sampled_3_s φ) (noL)

def S_impl_sampled (φ : Nat) : List AV → List Blk → Option (List Nat)
  | [(.whole 0), (.fn 40 [] [(.ptr 1 0), (.ptr 2 0)])], [(.vec b2 e3 (.flt .f32) l4), (.cells 27 [(.flt .f32 x5)]), (.cells 27 [(.flt .f32 x6)])] => impl_sampled φ b2 e3 l4 x5 x6 some
  | _, _ => none

def c_impl_sampled : List AV → List Blk → Bool
  | [(.whole 0), (.fn 40 [] [(.ptr 1 0), (.ptr 2 0)])], [(.vec b2 e3 (.flt .f32) l4), (.cells 27 [(.flt .f32 x5)]), (.cells 27 [(.flt .f32 x6)])] => true
  | _, _ => false

def A_impl_sampled (φ : Nat) : Sum := .mk (S_impl_sampled φ) impl_sampled_val

def F_24 (φ : Nat) : FuncId → Option Sum := ins 23 (A_impl_sampled φ) (F_23 φ)


/-! ### impl_corrected -/
def impl_corrected {ρ : Type} (φ : Nat) (x2 : Nat) (x3 : Nat) (b4 : Bool) (e5 : Nat) (l6 : (List Nat)) (k : (List Nat) → Option ρ) : Option ρ :=
  Option.bind (impl_sampled φ b4 e5 l6 x2 x3 some) fun r0 =>
  k r0

def impl_corrected_val (r : (List Nat)) : AV × List Blk := ((.whole 1), [(.vec Bool.true 27 (.flt .f32) r)])

def impl_corrected_L (φ : Nat) : Nat → Option LoopS := noL

def S_impl_corrected (φ : Nat) : List AV → List Blk → Option (List Nat)
  | [(.whole 0), (.flt .f32 x2), (.flt .f32 x3)], [(.vec b4 e5 (.flt .f32) l6)] => impl_corrected φ x2 x3 b4 e5 l6 some
  | _, _ => none

def c_impl_corrected : List AV → List Blk → Bool
  | [(.whole 0), (.flt .f32 x2), (.flt .f32 x3)], [(.vec b4 e5 (.flt .f32) l6)] => true
  | _, _ => false

def A_impl_corrected (φ : Nat) : Sum := .mk (S_impl_corrected φ) impl_corrected_val

def F_25 (φ : Nat) : FuncId → Option Sum := ins 21 (A_impl_corrected φ) (F_24 φ)


/-! ### impl_CorrectTrace -/
def impl_CorrectTrace {ρ : Type} (φ : Nat) (x2 : Nat) (x3 : Nat) (b4 : Bool) (e5 : Nat) (l6 : (List Nat)) (k : (Bool × (List Nat)) → Option ρ) : Option ρ :=
  Option.bind (impl_isTicks φ b4 e5 l6 some) fun r0 =>
  bif (!r0) then
    k (Bool.false, [])
  else
    Option.bind (impl_IsFinite φ x2 some) fun r1 =>
    bif (!r1) then
      k (Bool.false, [])
    else
      Option.bind (impl_arePositive φ Bool.true 27 [x3] some) fun r2 =>
      bif (!r2) then
        k (Bool.false, [])
      else
        Option.bind (impl_corrected φ x2 x3 b4 e5 l6 some) fun r3 =>
        k (Bool.true, r3)

def impl_CorrectTrace_val (r : (Bool × (List Nat))) : AV × List Blk := ((.tup [(.whole 1), (.bool r.1)]), [(.vec Bool.true 27 (.flt .f32) r.2)])

def impl_CorrectTrace_L (φ : Nat) : Nat → Option LoopS := noL

def S_impl_CorrectTrace (φ : Nat) : List AV → List Blk → Option (Bool × (List Nat))
  | [(.whole 0), (.flt .f32 x2), (.flt .f32 x3)], [(.vec b4 e5 (.flt .f32) l6)] => impl_CorrectTrace φ x2 x3 b4 e5 l6 some
  | _, _ => none

def c_impl_CorrectTrace : List AV → List Blk → Bool
  | [(.whole 0), (.flt .f32 x2), (.flt .f32 x3)], [(.vec b4 e5 (.flt .f32) l6)] => true
  | _, _ => false

def A_impl_CorrectTrace (φ : Nat) : Sum := .mk (S_impl_CorrectTrace φ) impl_CorrectTrace_val

def F_26 (φ : Nat) : FuncId → Option Sum := ins 8 (A_impl_CorrectTrace φ) (F_25 φ)


/-! ### impl_bent_1 -/
def impl_bent_1 {ρ : Type} (φ : Nat) (x0 : Nat) (x1 : Nat) (x2 : Nat) (k : Nat → Option ρ) : Option ρ :=
  bif (flt .f32 (fsub .f32 (fmul .f32 x0 x0) (fmul .f32 (fdiv .f32 x1 x2) (fdiv .f32 x1 x2))) (can .f32 0)) then
    k (can .f32 3212836864)
  else
    Option.bind (impl_RootNumber φ (fsub .f32 (fmul .f32 x0 x0) (fmul .f32 (fdiv .f32 x1 x2) (fdiv .f32 x1 x2))) some) fun r0 =>
    k r0

def impl_bent_1_val (r : Nat) : AV := (.flt .f32 r)

def impl_bent_1_L (φ : Nat) : Nat → Option LoopS := noL

def S_impl_bent_1 (φ : Nat) : List AV → List Blk → Option Nat
  | [(.flt .f32 x0), (.ptr 0 0), (.ptr 1 0)], [(.cells 27 [(.flt .f32 x1)]), (.cells 27 [(.flt .f32 x2)])] => impl_bent_1 φ x0 x1 x2 some
  | _, _ => none

def c_impl_bent_1 : List AV → List Blk → Bool
  | [(.flt .f32 x0), (.ptr 0 0), (.ptr 1 0)], [(.cells 27 [(.flt .f32 x1)]), (.cells 27 [(.flt .f32 x2)])] => true
  | _, _ => false

def A_impl_bent_1 (φ : Nat) : Sum := .rd (S_impl_bent_1 φ) impl_bent_1_val

def F_27 (φ : Nat) : FuncId → Option Sum := ins 41 (A_impl_bent_1 φ) (F_26 φ)


/-! ### impl_sampled_v2 -/
def impl_sampled_v2_3 {ρ : Type} (φ : Nat) (n0 : Int) (b2 : Bool) (e3 : Nat) (l4 : (List Nat)) (x5 : Nat) (x6 : Nat) : Nat → Int → (List Nat) → (Int → (List Nat) → Option ρ) → Option ρ
  | 0, _, _, _ => none
  | n + 1, n1, l7, k0 =>
    bif (decide (n1 < n0)) then
      Option.bind (impl_bent_1 φ (itof .f32 n1) x5 x6 some) fun r8 =>
      Option.bind (impl_sample φ r8 b2 e3 l4 some) fun r9 =>
      Option.bind (room ((Nat.add (List.length l7) 0) + 1) 4) fun r10 =>
      impl_sampled_v2_3 φ n0 b2 e3 l4 x5 x6 n (IntKind.wrap .i64 (n1 + (1 : Int))) (l7 ++ [r9]) k0
    else
      (k0 n1 l7)

def Lin_impl_sampled_v2_3 (φ : Nat) : Nat → Option LoopS := noL

def impl_sampled_v2_3_st (n0 : Int) (n1 : Int) (b2 : Bool) (e3 : Nat) (l4 : (List Nat)) (x5 : Nat) (x6 : Nat) (l7 : (List Nat)) : St := (St.mk (spread 0 23 [0, 1, 5, 8, 9] [(.whole 0), (.fn 41 [] [(.ptr 1 0), (.ptr 2 0)]), (.whole 3), (.int .i64 n0), (.int .i64 n1)]) [(.vec b2 e3 (.flt .f32) l4), (.cells 27 [(.flt .f32 x5)]), (.cells 27 [(.flt .f32 x6)]), (.vec Bool.true 27 (.flt .f32) l7)])

def impl_sampled_v2_3_s (φ : Nat) : LoopS := fun st K => match sel 0 [0, 1, 5, 8, 9] (norm 3 (hasN [0, 1, 5, 8, 9]) st).t, (norm 3 (hasN [0, 1, 5, 8, 9]) st).h with
  | [(.whole 0), (.fn 41 [] [(.ptr 1 0), (.ptr 2 0)]), (.whole 3), (.int .i64 n0), (.int .i64 n1)], [(.vec b2 e3 (.flt .f32) l4), (.cells 27 [(.flt .f32 x5)]), (.cells 27 [(.flt .f32 x6)]), (.vec Bool.true 27 (.flt .f32) l7)] => bif normOk 3 (hasN [0, 1, 5, 8, 9]) st && Nat.beq (norm 3 (hasN [0, 1, 5, 8, 9]) st).t.length 23 then impl_sampled_v2_3 φ n0 b2 e3 l4 x5 x6 φ n1 l7 (fun n12 l18 => K (.exit 0) (St.mk (spread 0 23 [0, 1, 5, 8, 9] [(.whole 0), (.fn 41 [] [(.ptr 1 0), (.ptr 2 0)]), (.whole 3), (.int .i64 n0), (.int .i64 n12)]) [(.vec b2 e3 (.flt .f32) l4), (.cells 27 [(.flt .f32 x5)]), (.cells 27 [(.flt .f32 x6)]), (.vec Bool.true 27 (.flt .f32) l18)])) else none
  | _, _ => none

def impl_sampled_v2 {ρ : Type} (φ : Nat) (b2 : Bool) (e3 : Nat) (l4 : (List Nat)) (x5 : Nat) (x6 : Nat) (k : (List Nat) → Option ρ) : Option ρ :=
  impl_sampled_v2_3 φ (((List.length l4) : Nat) : Int) b2 e3 l4 x5 x6 φ (0 : Int) []
    (fun e19 e20 =>
    k e20)

def impl_sampled_v2_val (r : (List Nat)) : AV × List Blk := ((.whole 3), [(.vec Bool.true 27 (.flt .f32) r)])

def impl_sampled_v2_L (φ : Nat) : Nat → Option LoopS := insL 3 (impl_sampled_v2_3_s φ) (noL)

def S_impl_sampled_v2 (φ : Nat) : List AV → List Blk → Option (List Nat)
  | [(.whole 0), (.fn 41 [] [(.ptr 1 0), (.ptr 2 0)])], [(.vec b2 e3 (.flt .f32) l4), (.cells 27 [(.flt .f32 x5)]), (.cells 27 [(.flt .f32 x6)])] => impl_sampled_v2 φ b2 e3 l4 x5 x6 some
  | _, _ => none

def c_impl_sampled_v2 : List AV → List Blk → Bool
  | [(.whole 0), (.fn 41 [] [(.ptr 1 0), (.ptr 2 0)])], [(.vec b2 e3 (.flt .f32) l4), (.cells 27 [(.flt .f32 x5)]), (.cells 27 [(.flt .f32 x6)])] => true
  | _, _ => false

def A_impl_sampled_v2 (φ : Nat) : Sum := .alt c_impl_sampled_v2 (.mk (S_impl_sampled_v2 φ) impl_sampled_v2_val) (A_impl_sampled φ)

def F_28 (φ : Nat) : FuncId → Option Sum := ins 23 (A_impl_sampled_v2 φ) (F_27 φ)


/-! ### impl_bent -/
def impl_bent {ρ : Type} (φ : Nat) (x2 : Nat) (x3 : Nat) (b4 : Bool) (e5 : Nat) (l6 : (List Nat)) (k : (List Nat) → Option ρ) : Option ρ :=
  Option.bind (impl_sampled_v2 φ b4 e5 l6 x2 x3 some) fun r0 =>
  k r0

def impl_bent_val (r : (List Nat)) : AV × List Blk := ((.whole 1), [(.vec Bool.true 27 (.flt .f32) r)])

def impl_bent_L (φ : Nat) : Nat → Option LoopS := noL

def S_impl_bent (φ : Nat) : List AV → List Blk → Option (List Nat)
  | [(.whole 0), (.flt .f32 x2), (.flt .f32 x3)], [(.vec b4 e5 (.flt .f32) l6)] => impl_bent φ x2 x3 b4 e5 l6 some
  | _, _ => none

def c_impl_bent : List AV → List Blk → Bool
  | [(.whole 0), (.flt .f32 x2), (.flt .f32 x3)], [(.vec b4 e5 (.flt .f32) l6)] => true
  | _, _ => false

def A_impl_bent (φ : Nat) : Sum := .mk (S_impl_bent φ) impl_bent_val

def F_29 (φ : Nat) : FuncId → Option Sum := ins 22 (A_impl_bent φ) (F_28 φ)


/-! ### impl_BendTrace -/
def impl_BendTrace {ρ : Type} (φ : Nat) (x2 : Nat) (x3 : Nat) (b4 : Bool) (e5 : Nat) (l6 : (List Nat)) (k : (Bool × (List Nat)) → Option ρ) : Option ρ :=
  Option.bind (impl_isTicks φ b4 e5 l6 some) fun r0 =>
  bif (!r0) then
    k (Bool.false, [])
  else
    Option.bind (impl_IsFinite φ x2 some) fun r1 =>
    bif (!r1) then
      k (Bool.false, [])
    else
      Option.bind (impl_arePositive φ Bool.true 27 [x3] some) fun r2 =>
      bif (!r2) then
        k (Bool.false, [])
      else
        Option.bind (impl_bent φ x2 x3 b4 e5 l6 some) fun r3 =>
        k (Bool.true, r3)

def impl_BendTrace_val (r : (Bool × (List Nat))) : AV × List Blk := ((.tup [(.whole 1), (.bool r.1)]), [(.vec Bool.true 27 (.flt .f32) r.2)])

def impl_BendTrace_L (φ : Nat) : Nat → Option LoopS := noL

def S_impl_BendTrace (φ : Nat) : List AV → List Blk → Option (Bool × (List Nat))
  | [(.whole 0), (.flt .f32 x2), (.flt .f32 x3)], [(.vec b4 e5 (.flt .f32) l6)] => impl_BendTrace φ x2 x3 b4 e5 l6 some
  | _, _ => none

def c_impl_BendTrace : List AV → List Blk → Bool
  | [(.whole 0), (.flt .f32 x2), (.flt .f32 x3)], [(.vec b4 e5 (.flt .f32) l6)] => true
  | _, _ => false

def A_impl_BendTrace (φ : Nat) : Sum := .mk (S_impl_BendTrace φ) impl_BendTrace_val

def F_30 (φ : Nat) : FuncId → Option Sum := ins 9 (A_impl_BendTrace φ) (F_29 φ)


/-! ### impl_MoveTrace_1 -/
def impl_MoveTrace_1 {ρ : Type} (φ : Nat) (x0 : Nat) (x1 : Nat) (k : Nat → Option ρ) : Option ρ :=
  k (fsub .f32 x0 x1)

def impl_MoveTrace_1_val (r : Nat) : AV := (.flt .f32 r)

def impl_MoveTrace_1_L (φ : Nat) : Nat → Option LoopS := noL

def S_impl_MoveTrace_1 (φ : Nat) : List AV → List Blk → Option Nat
  | [(.flt .f32 x0), (.ptr 0 0)], [(.cells 27 [(.flt .f32 x1)])] => impl_MoveTrace_1 φ x0 x1 some
  | _, _ => none

def c_impl_MoveTrace_1 : List AV → List Blk → Bool
  | [(.flt .f32 x0), (.ptr 0 0)], [(.cells 27 [(.flt .f32 x1)])] => true
  | _, _ => false

def A_impl_MoveTrace_1 (φ : Nat) : Sum := .rd (S_impl_MoveTrace_1 φ) impl_MoveTrace_1_val

def F_31 (φ : Nat) : FuncId → Option Sum := ins 24 (A_impl_MoveTrace_1 φ) (F_30 φ)


/-! ### impl_sampled_v3 -/
def impl_sampled_v3_3 {ρ : Type} (φ : Nat) (n0 : Int) (b2 : Bool) (e3 : Nat) (l4 : (List Nat)) (x5 : Nat) : Nat → Int → (List Nat) → (Int → (List Nat) → Option ρ) → Option ρ
  | 0, _, _, _ => none
  | n + 1, n1, l6, k0 =>
    bif (decide (n1 < n0)) then
      Option.bind (impl_MoveTrace_1 φ (itof .f32 n1) x5 some) fun r7 =>
      Option.bind (impl_sample φ r7 b2 e3 l4 some) fun r8 =>
      Option.bind (room ((Nat.add (List.length l6) 0) + 1) 4) fun r9 =>
      impl_sampled_v3_3 φ n0 b2 e3 l4 x5 n (IntKind.wrap .i64 (n1 + (1 : Int))) (l6 ++ [r8]) k0
    else
      (k0 n1 l6)

def Lin_impl_sampled_v3_3 (φ : Nat) : Nat → Option LoopS := noL

def impl_sampled_v3_3_st (n0 : Int) (n1 : Int) (b2 : Bool) (e3 : Nat) (l4 : (List Nat)) (x5 : Nat) (l6 : (List Nat)) : St := (St.mk (spread 0 23 [0, 1, 5, 8, 9] [(.whole 0), (.fn 24 [] [(.ptr 1 0)]), (.whole 2), (.int .i64 n0), (.int .i64 n1)]) [(.vec b2 e3 (.flt .f32) l4), (.cells 27 [(.flt .f32 x5)]), (.vec Bool.true 27 (.flt .f32) l6)])

def impl_sampled_v3_3_s (φ : Nat) : LoopS := fun st K => match sel 0 [0, 1, 5, 8, 9] (norm 2 (hasN [0, 1, 5, 8, 9]) st).t, (norm 2 (hasN [0, 1, 5, 8, 9]) st).h with
  | [(.whole 0), (.fn 24 [] [(.ptr 1 0)]), (.whole 2), (.int .i64 n0), (.int .i64 n1)], [(.vec b2 e3 (.flt .f32) l4), (.cells 27 [(.flt .f32 x5)]), (.vec Bool.true 27 (.flt .f32) l6)] => bif normOk 2 (hasN [0, 1, 5, 8, 9]) st && Nat.beq (norm 2 (hasN [0, 1, 5, 8, 9]) st).t.length 23 then impl_sampled_v3_3 φ n0 b2 e3 l4 x5 φ n1 l6 (fun n11 l16 => K (.exit 0) (St.mk (spread 0 23 [0, 1, 5, 8, 9] [(.whole 0), (.fn 24 [] [(.ptr 1 0)]), (.whole 2), (.int .i64 n0), (.int .i64 n11)]) [(.vec b2 e3 (.flt .f32) l4), (.cells 27 [(.flt .f32 x5)]), (.vec Bool.true 27 (.flt .f32) l16)])) else none
  | _, _ => none

def impl_sampled_v3 {ρ : Type} (φ : Nat) (b2 : Bool) (e3 : Nat) (l4 : (List Nat)) (x5 : Nat) (k : (List Nat) → Option ρ) : Option ρ :=
  impl_sampled_v3_3 φ (((List.length l4) : Nat) : Int) b2 e3 l4 x5 φ (0 : Int) []
    (fun e17 e18 =>
    k e18)

def impl_sampled_v3_val (r : (List Nat)) : AV × List Blk := ((.whole 2), [(.vec Bool.true 27 (.flt .f32) r)])

def impl_sampled_v3_L (φ : Nat) : Nat → Option LoopS := insL 3 (impl_sampled_v3_3_s φ) (noL)

def S_impl_sampled_v3 (φ : Nat) : List AV → List Blk → Option (List Nat)
  | [(.whole 0), (.fn 24 [] [(.ptr 1 0)])], [(.vec b2 e3 (.flt .f32) l4), (.cells 27 [(.flt .f32 x5)])] => impl_sampled_v3 φ b2 e3 l4 x5 some
  | _, _ => none

def c_impl_sampled_v3 : List AV → List Blk → Bool
  | [(.whole 0), (.fn 24 [] [(.ptr 1 0)])], [(.vec b2 e3 (.flt .f32) l4), (.cells 27 [(.flt .f32 x5)])] => true
  | _, _ => false

def A_impl_sampled_v3 (φ : Nat) : Sum := .alt c_impl_sampled_v3 (.mk (S_impl_sampled_v3 φ) impl_sampled_v3_val) (A_impl_sampled_v2 φ)

def F_32 (φ : Nat) : FuncId → Option Sum := ins 23 (A_impl_sampled_v3 φ) (F_31 φ)


/-! ### impl_MoveTrace -/
def impl_MoveTrace {ρ : Type} (φ : Nat) (x2 : Nat) (b3 : Bool) (e4 : Nat) (l5 : (List Nat)) (k : (Bool × (List Nat)) → Option ρ) : Option ρ :=
  Option.bind (impl_isTicks φ b3 e4 l5 some) fun r0 =>
  bif (!r0) then
    k (Bool.false, [])
  else
    Option.bind (impl_sampled_v3 φ b3 e4 l5 x2 some) fun r1 =>
    k (Bool.true, r1)

def impl_MoveTrace_val (r : (Bool × (List Nat))) : AV × List Blk := ((.tup [(.whole 1), (.bool r.1)]), [(.vec Bool.true 27 (.flt .f32) r.2)])

def impl_MoveTrace_L (φ : Nat) : Nat → Option LoopS := noL

def S_impl_MoveTrace (φ : Nat) : List AV → List Blk → Option (Bool × (List Nat))
  | [(.whole 0), (.flt .f32 x2)], [(.vec b3 e4 (.flt .f32) l5)] => impl_MoveTrace φ x2 b3 e4 l5 some
  | _, _ => none

def c_impl_MoveTrace : List AV → List Blk → Bool
  | [(.whole 0), (.flt .f32 x2)], [(.vec b3 e4 (.flt .f32) l5)] => true
  | _, _ => false

def A_impl_MoveTrace (φ : Nat) : Sum := .mk (S_impl_MoveTrace φ) impl_MoveTrace_val

def F_33 (φ : Nat) : FuncId → Option Sum := ins 10 (A_impl_MoveTrace φ) (F_32 φ)


/-! ### laws_r8Equal -/
def laws_r8Equal_4 {ρ : Type} (φ : Nat) (b0 : Bool) (b2 : Bool) (e3 : Nat) (l4 : (List Nat)) (b5 : Bool) (e6 : Nat) (l7 : (List Nat)) : Nat → Int → (Int → Option ρ) → (Int → Option ρ) → Option ρ
  | 0, _, _, _ => none
  | n + 1, n1, k0, k1 =>
    bif (decide (n1 < (((List.length l4) : Nat) : Int))) then
      Option.bind (idx n1 (List.length l4)) fun r8 =>
      Option.bind (l4[r8]?) fun r9 =>
      Option.bind (idx n1 (List.length l7)) fun r10 =>
      Option.bind (l7[r10]?) fun r11 =>
      bif (fne .f32 r9 r11) then
        (k0 n1)
      else
        laws_r8Equal_4 φ b0 b2 e3 l4 b5 e6 l7 n (IntKind.wrap .i64 (n1 + (1 : Int))) k0 k1
    else
      (k1 n1)

def Lin_laws_r8Equal_4 (φ : Nat) : Nat → Option LoopS := noL

def laws_r8Equal_4_st (b0 : Bool) (n1 : Int) (b2 : Bool) (e3 : Nat) (l4 : (List Nat)) (b5 : Bool) (e6 : Nat) (l7 : (List Nat)) : St := (St.mk (spread 0 26 [0, 1, 4, 5] [(.whole 0), (.whole 1), (.bool b0), (.int .i64 n1)]) [(.vec b2 e3 (.flt .f32) l4), (.vec b5 e6 (.flt .f32) l7)])

def laws_r8Equal_4_s (φ : Nat) : LoopS := fun st K => match sel 0 [0, 1, 4, 5] (norm 2 (hasN [0, 1, 4, 5]) st).t, (norm 2 (hasN [0, 1, 4, 5]) st).h with
  | [(.whole 0), (.whole 1), (.bool b0), (.int .i64 n1)], [(.vec b2 e3 (.flt .f32) l4), (.vec b5 e6 (.flt .f32) l7)] => bif normOk 2 (hasN [0, 1, 4, 5]) st && Nat.beq (norm 2 (hasN [0, 1, 4, 5]) st).t.length 26 then laws_r8Equal_4 φ b0 b2 e3 l4 b5 e6 l7 φ n1 (fun n13 => K .ret (St.mk (spread 0 26 [0, 1, 4, 5] [(.whole 0), (.whole 1), (.bool Bool.false), (.int .i64 n13)]) [(.vec b2 e3 (.flt .f32) l4), (.vec b5 e6 (.flt .f32) l7)])) (fun n21 => K (.exit 0) (St.mk (spread 0 26 [0, 1, 4, 5] [(.whole 0), (.whole 1), (.bool b0), (.int .i64 n21)]) [(.vec b2 e3 (.flt .f32) l4), (.vec b5 e6 (.flt .f32) l7)])) else none
  | _, _ => none

def laws_r8Equal {ρ : Type} (φ : Nat) (b4 : Bool) (e5 : Nat) (l6 : (List Nat)) (b7 : Bool) (e8 : Nat) (l9 : (List Nat)) (k : Bool → Option ρ) : Option ρ :=
  bif ((((List.length l6) : Nat) : Int) != (((List.length l9) : Nat) : Int)) then
    k Bool.false
  else
    laws_r8Equal_4 φ Bool.false b4 e5 l6 b7 e8 l9 φ (0 : Int)
      (fun e28 =>
      k Bool.false)
      (fun e29 =>
      k Bool.true)

def laws_r8Equal_val (r : Bool) : AV := (.bool r)

def laws_r8Equal_L (φ : Nat) : Nat → Option LoopS := insL 4 (laws_r8Equal_4_s φ) (noL)

def S_laws_r8Equal (φ : Nat) : List AV → List Blk → Option Bool
  | [(.whole 0), (.whole 1)], [(.vec b4 e5 (.flt .f32) l6), (.vec b7 e8 (.flt .f32) l9)] => laws_r8Equal φ b4 e5 l6 b7 e8 l9 some
  | _, _ => none

def c_laws_r8Equal : List AV → List Blk → Bool
  | [(.whole 0), (.whole 1)], [(.vec b4 e5 (.flt .f32) l6), (.vec b7 e8 (.flt .f32) l9)] => true
  | _, _ => false

def A_laws_r8Equal (φ : Nat) : Sum := .rd (S_laws_r8Equal φ) laws_r8Equal_val

def F_34 (φ : Nat) : FuncId → Option Sum := ins 11 (A_laws_r8Equal φ) (F_33 φ)


/-! ### slices_Clone_float32_float32 -/
def slices_Clone_float32_float32 {ρ : Type} (φ : Nat) (b2 : Bool) (e3 : Nat) (l4 : (List Nat)) (k : (List Nat) → Option ρ) : Option ρ :=
  bif (List.isEmpty l4) then
    none
  else
    Option.bind (room (0 + (List.length l4)) 4) fun r0 =>
    k ([] ++ l4)

def slices_Clone_float32_float32_val (r : (List Nat)) : AV × List Blk := ((.whole 1), [(.vec Bool.true 27 (.flt .f32) r)])

def slices_Clone_float32_float32_L (φ : Nat) : Nat → Option LoopS := noL

def S_slices_Clone_float32_float32 (φ : Nat) : List AV → List Blk → Option (List Nat)
  | [(.whole 0)], [(.vec b2 e3 (.flt .f32) l4)] => slices_Clone_float32_float32 φ b2 e3 l4 some
  | _, _ => none

def c_slices_Clone_float32_float32 : List AV → List Blk → Bool
  | [(.whole 0)], [(.vec b2 e3 (.flt .f32) l4)] => true
  | _, _ => false

def A_slices_Clone_float32_float32 (φ : Nat) : Sum := .mk (S_slices_Clone_float32_float32 φ) slices_Clone_float32_float32_val

def F_35 (φ : Nat) : FuncId → Option Sum := ins 28 (A_slices_Clone_float32_float32 φ) (F_34 φ)


/-! ### impl_FlatGather -/
def impl_FlatGather_5 {ρ : Type} (φ : Nat) (n28 : Int) (n29 : Int) (b31 : Bool) (e32 : Nat) (l33 : (List Nat)) (l34 : (List Nat)) (l35 : (List (List Nat))) (n36 : Int) (l37 : (List Nat)) (n38 : Int) : Nat → Int → (List (List Nat)) → (Int → (List (List Nat)) → Option ρ) → Option ρ
  | 0, _, _, _ => none
  | n + 1, n30, l39, k0 =>
    bif (decide (n30 < n29)) then
      Option.bind (making n28 4) fun r40 =>
      Option.bind (upto n28 r40) fun r41 =>
      Option.bind (room ((Nat.add (List.length l39) 0) + 1) 24) fun r42 =>
      impl_FlatGather_5 φ n28 n29 b31 e32 l33 l34 l35 n36 l37 n38 n (IntKind.wrap .i64 (n30 + (1 : Int))) (l39 ++ [(List.replicate r41 0)]) k0
    else
      (k0 n30 l39)

def impl_FlatGather_5_1 {ρ : Type} (φ : Nat) (n13 : Int) (n14 : Int) (n15 : Int) (b16 : Bool) (e17 : Nat) (l18 : (List Nat)) (l19 : (List Nat)) (l20 : (List (List Nat))) (n21 : Int) (l22 : (List Nat)) (l23 : (List (List Nat))) (n24 : Int) : Nat → (Int → (List (List Nat)) → Option ρ) → (Option ρ) → Option ρ
  | 0, _, _ => none
  | n + 1, k0, k1 =>
    bif (decide (n15 < n14)) then
      Option.bind (making n13 4) fun r25 =>
      Option.bind (upto n13 r25) fun r26 =>
      Option.bind (room ((Nat.add (List.length l23) 0) + 1) 24) fun r27 =>
      impl_FlatGather_5 φ n13 n14 b16 e17 l18 l19 l20 n21 l22 n24 n (IntKind.wrap .i64 (n15 + (1 : Int))) (l23 ++ [(List.replicate r26 0)])
        (fun e55 e56 =>
        (k0 e55 e56))
    else
      (k1 )

def Lin_impl_FlatGather_5 (φ : Nat) : Nat → Option LoopS := noL

def impl_FlatGather_5_st (n28 : Int) (n29 : Int) (n30 : Int) (b31 : Bool) (e32 : Nat) (l33 : (List Nat)) (l34 : (List Nat)) (l35 : (List (List Nat))) (n36 : Int) (l37 : (List Nat)) (n38 : Int) (l39 : (List (List Nat))) : St := (St.mk (spread 0 39 [0, 4, 6, 27, 28] [(.int .i64 n28), (.ptr 3 0), (.ptr 5 0), (.int .i64 n29), (.int .i64 n30)]) [(.vec b31 e32 (.flt .f32) l33), (.vec Bool.true 27 (.flt .f32) l34), (.vec Bool.true 25 (.slice (.flt .f32)) l35), (.cells 36 [(.int .i64 n36), (.whole 1), (.whole 2)]), (.vec Bool.true 27 (.flt .f32) l37), (.cells 36 [(.int .i64 n38), (.whole 4), (.whole 6)]), (.vec Bool.true 25 (.slice (.flt .f32)) l39)])

def impl_FlatGather_5_1_st (n13 : Int) (n14 : Int) (n15 : Int) (b16 : Bool) (e17 : Nat) (l18 : (List Nat)) (l19 : (List Nat)) (l20 : (List (List Nat))) (n21 : Int) (l22 : (List Nat)) (l23 : (List (List Nat))) (n24 : Int) : St := (St.mk (spread 0 39 [0, 4, 6, 27, 28] [(.int .i64 n13), (.ptr 3 0), (.ptr 6 0), (.int .i64 n14), (.int .i64 n15)]) [(.vec b16 e17 (.flt .f32) l18), (.vec Bool.true 27 (.flt .f32) l19), (.vec Bool.true 25 (.slice (.flt .f32)) l20), (.cells 36 [(.int .i64 n21), (.whole 1), (.whole 2)]), (.vec Bool.true 27 (.flt .f32) l22), (.vec Bool.true 25 (.slice (.flt .f32)) l23), (.cells 36 [(.int .i64 n24), (.whole 4), (.whole 5)])])

def impl_FlatGather_5_s (φ : Nat) : LoopS := fun st K => match sel 0 [0, 4, 6, 27, 28] (norm 1 (hasN [0, 4, 6, 27, 28]) st).t, (norm 1 (hasN [0, 4, 6, 27, 28]) st).h with
  | [(.int .i64 n28), (.ptr 3 0), (.ptr 5 0), (.int .i64 n29), (.int .i64 n30)], [(.vec b31 e32 (.flt .f32) l33), (.vec Bool.true 27 (.flt .f32) l34), (.vec Bool.true 25 (.slice (.flt .f32)) l35), (.cells 36 [(.int .i64 n36), (.whole 1), (.whole 2)]), (.vec Bool.true 27 (.flt .f32) l37), (.cells 36 [(.int .i64 n38), (.whole 4), (.whole 6)]), (.vec Bool.true 25 (.slice (.flt .f32)) l39)] => bif normOk 1 (hasN [0, 4, 6, 27, 28]) st && Nat.beq (norm 1 (hasN [0, 4, 6, 27, 28]) st).t.length 39 then impl_FlatGather_5 φ n28 n29 b31 e32 l33 l34 l35 n36 l37 n38 φ n30 l39 (fun n45 l54 => K (.exit 0) (St.mk (spread 0 39 [0, 4, 6, 27, 28] [(.int .i64 n28), (.ptr 3 0), (.ptr 5 0), (.int .i64 n29), (.int .i64 n45)]) [(.vec b31 e32 (.flt .f32) l33), (.vec Bool.true 27 (.flt .f32) l34), (.vec Bool.true 25 (.slice (.flt .f32)) l35), (.cells 36 [(.int .i64 n36), (.whole 1), (.whole 2)]), (.vec Bool.true 27 (.flt .f32) l37), (.cells 36 [(.int .i64 n38), (.whole 4), (.whole 6)]), (.vec Bool.true 25 (.slice (.flt .f32)) l54)])) else none
  | _, _ => match sel 0 [0, 4, 6, 27, 28] (norm 1 (hasN [0, 4, 6, 27, 28]) st).t, (norm 1 (hasN [0, 4, 6, 27, 28]) st).h with
  | [(.int .i64 n13), (.ptr 3 0), (.ptr 6 0), (.int .i64 n14), (.int .i64 n15)], [(.vec b16 e17 (.flt .f32) l18), (.vec Bool.true 27 (.flt .f32) l19), (.vec Bool.true 25 (.slice (.flt .f32)) l20), (.cells 36 [(.int .i64 n21), (.whole 1), (.whole 2)]), (.vec Bool.true 27 (.flt .f32) l22), (.vec Bool.true 25 (.slice (.flt .f32)) l23), (.cells 36 [(.int .i64 n24), (.whole 4), (.whole 5)])] => bif normOk 1 (hasN [0, 4, 6, 27, 28]) st && Nat.beq (norm 1 (hasN [0, 4, 6, 27, 28]) st).t.length 39 then impl_FlatGather_5_1 φ n13 n14 n15 b16 e17 l18 l19 l20 n21 l22 l23 n24 φ  (fun n59 l68 => K (.exit 0) (St.mk (spread 0 39 [0, 4, 6, 27, 28] [(.int .i64 n13), (.ptr 3 0), (.ptr 5 0), (.int .i64 n14), (.int .i64 n59)]) [(.vec b16 e17 (.flt .f32) l18), (.vec Bool.true 27 (.flt .f32) l19), (.vec Bool.true 25 (.slice (.flt .f32)) l20), (.cells 36 [(.int .i64 n21), (.whole 1), (.whole 2)]), (.vec Bool.true 27 (.flt .f32) l22), (.cells 36 [(.int .i64 n24), (.whole 4), (.whole 6)]), (.vec Bool.true 25 (.slice (.flt .f32)) l68)])) (K (.exit 0) (St.mk (spread 0 39 [0, 4, 6, 27, 28] [(.int .i64 n13), (.ptr 3 0), (.ptr 6 0), (.int .i64 n14), (.int .i64 n15)]) [(.vec b16 e17 (.flt .f32) l18), (.vec Bool.true 27 (.flt .f32) l19), (.vec Bool.true 25 (.slice (.flt .f32)) l20), (.cells 36 [(.int .i64 n21), (.whole 1), (.whole 2)]), (.vec Bool.true 27 (.flt .f32) l22), (.vec Bool.true 25 (.slice (.flt .f32)) l23), (.cells 36 [(.int .i64 n24), (.whole 4), (.whole 5)])])) else none
  | _, _ => none

def impl_FlatGather_c3 {ρ : Type} (φ : Nat) (n4 : Int) (b5 : Bool) (b6 : Bool) (e7 : Nat) (l8 : (List Nat)) (l9 : (List Nat)) (l10 : (List (List Nat))) (n11 : Int) (k0 : (List Nat) → (List (List Nat)) → Option ρ) : Option ρ :=
    Option.bind (slices_Clone_float32_float32 φ b6 e7 l8 some) fun r12 =>
    impl_FlatGather_5_1 φ n4 (((List.length l8) : Nat) : Int) (0 : Int) b6 e7 l8 l9 l10 n11 r12 [] n4 φ
      (fun e81 e82 =>
      (k0 r12 e82))
      (
      (k0 r12 []))

def Lin_impl_FlatGather_c3 (φ : Nat) : Nat → Option LoopS := insL 5 (impl_FlatGather_5_s φ) (noL)

def impl_FlatGather_c3_st (n4 : Int) (b5 : Bool) (b6 : Bool) (e7 : Nat) (l8 : (List Nat)) (l9 : (List Nat)) (l10 : (List (List Nat))) (n11 : Int) : St := (St.mk (spread 0 39 [0, 1, 4, 5] [(.int .i64 n4), (.whole 0), (.ptr 3 0), (.bool b5)]) [(.vec b6 e7 (.flt .f32) l8), (.vec Bool.true 27 (.flt .f32) l9), (.vec Bool.true 25 (.slice (.flt .f32)) l10), (.cells 36 [(.int .i64 n11), (.whole 1), (.whole 2)])])

def impl_FlatGather_c3_s (φ : Nat) : LoopS := fun st K => match sel 0 [0, 1, 4, 5] (norm 1 (hasN [0, 1, 4, 5]) st).t, (norm 1 (hasN [0, 1, 4, 5]) st).h with
  | [(.int .i64 n4), (.whole 0), (.ptr 3 0), (.bool b5)], [(.vec b6 e7 (.flt .f32) l8), (.vec Bool.true 27 (.flt .f32) l9), (.vec Bool.true 25 (.slice (.flt .f32)) l10), (.cells 36 [(.int .i64 n11), (.whole 1), (.whole 2)])] => bif normOk 1 (hasN [0, 1, 4, 5]) st && Nat.beq (norm 1 (hasN [0, 1, 4, 5]) st).t.length 39 then impl_FlatGather_c3 φ n4 b5 b6 e7 l8 l9 l10 n11 (fun l89 l90 => K .ret (St.mk (spread 0 39 [0, 4, 5] [(.int .i64 n4), (.ptr 1 0), (.bool Bool.true)]) [(.vec b6 e7 (.flt .f32) l8), (.cells 36 [(.int .i64 n4), (.whole 2), (.whole 3)]), (.vec Bool.true 27 (.flt .f32) l89), (.vec Bool.true 25 (.slice (.flt .f32)) l90)])) else none
  | _, _ => none

def impl_FlatGather {ρ : Type} (φ : Nat) (n2 : Int) (b3 : Bool) (e4 : Nat) (l5 : (List Nat)) (k : (Int × Bool × (List Nat) × (List (List Nat))) → Option ρ) : Option ρ :=
  Option.bind (impl_within φ n2 (1 : Int) (64 : Int) some) fun r0 =>
  bif (!r0) then
    k ((0 : Int), Bool.false, [], [])
  else
    Option.bind (impl_length_float32 φ b3 e4 l5 some) fun r1 =>
    Option.bind (impl_within φ r1 (1 : Int) (16 : Int) some) fun r2 =>
    bif (!r2) then
      k ((0 : Int), Bool.false, [], [])
    else
      Option.bind (impl_areFinite φ b3 e4 l5 some) fun r3 =>
      bif (!r3) then
        k ((0 : Int), Bool.false, [], [])
      else
        impl_FlatGather_c3 φ n2 Bool.false b3 e4 l5 [] [] (0 : Int)
          (fun e91 e92 =>
          k (n2, Bool.true, e91, e92))

def impl_FlatGather_val (r : (Int × Bool × (List Nat) × (List (List Nat)))) : AV × List Blk := ((.tup [(.agg [(.int .i64 r.1), (.whole 1), (.whole 2)]), (.bool r.2.1)]), [(.vec Bool.true 27 (.flt .f32) r.2.2.1), (.vec Bool.true 25 (.slice (.flt .f32)) r.2.2.2)])

def impl_FlatGather_L (φ : Nat) : Nat → Option LoopS := insL (cut 3) (impl_FlatGather_c3_s φ) (noL)

def S_impl_FlatGather (φ : Nat) : List AV → List Blk → Option (Int × Bool × (List Nat) × (List (List Nat)))
  | [(.int .i64 n2), (.whole 0)], [(.vec b3 e4 (.flt .f32) l5)] => impl_FlatGather φ n2 b3 e4 l5 some
  | _, _ => none

def c_impl_FlatGather : List AV → List Blk → Bool
  | [(.int .i64 n2), (.whole 0)], [(.vec b3 e4 (.flt .f32) l5)] => true
  | _, _ => false

def A_impl_FlatGather (φ : Nat) : Sum := .mk (S_impl_FlatGather φ) impl_FlatGather_val

def F_36 (φ : Nat) : FuncId → Option Sum := ins 12 (A_impl_FlatGather φ) (F_35 φ)


/-! ### impl_ValidGather_1 -/
def impl_ValidGather_1 {ρ : Type} (φ : Nat) (b6 : Bool) (e7 : Nat) (l8 : (List Nat)) (n9 : Int) (b10 : Bool) (e11 : Nat) (l12 : (List Nat)) (b13 : Bool) (e14 : Nat) (l15 : (List (List Nat))) (k : Bool → Option ρ) : Option ρ :=
  Option.bind (impl_length_float32 φ b6 e7 l8 some) fun r0 =>
  k (r0 != n9)

def impl_ValidGather_1_val : List AV → List Blk → Bool → AV × List Blk
  | [(.whole 0), (.ptr 1 0)], [(.vec b6 e7 (.flt .f32) l8), (.cells 36 [(.int .i64 n9), (.whole 2), (.whole 3)]), (.vec b10 e11 (.flt .f32) l12), (.vec b13 e14 (.slice (.flt .f32)) l15)], r => ((.bool r), [(.vec b6 e7 (.flt .f32) l8), (.cells 36 [(.int .i64 n9), (.whole 2), (.whole 3)]), (.vec b10 e11 (.flt .f32) l12), (.vec b13 e14 (.slice (.flt .f32)) l15)])
  | _, _, _ => (.any, [])

def impl_ValidGather_1_L (φ : Nat) : Nat → Option LoopS := noL

def S_impl_ValidGather_1 (φ : Nat) : List AV → List Blk → Option Bool
  | [(.whole 0), (.ptr 1 0)], [(.vec b6 e7 (.flt .f32) l8), (.cells 36 [(.int .i64 n9), (.whole 2), (.whole 3)]), (.vec b10 e11 (.flt .f32) l12), (.vec b13 e14 (.slice (.flt .f32)) l15)] => impl_ValidGather_1 φ b6 e7 l8 n9 b10 e11 l12 b13 e14 l15 some
  | _, _ => none

def c_impl_ValidGather_1 : List AV → List Blk → Bool
  | [(.whole 0), (.ptr 1 0)], [(.vec b6 e7 (.flt .f32) l8), (.cells 36 [(.int .i64 n9), (.whole 2), (.whole 3)]), (.vec b10 e11 (.flt .f32) l12), (.vec b13 e14 (.slice (.flt .f32)) l15)] => true
  | _, _ => false

def A_impl_ValidGather_1 (φ : Nat) : Sum := .wr (S_impl_ValidGather_1 φ) impl_ValidGather_1_val

def F_37 (φ : Nat) : FuncId → Option Sum := ins 35 (A_impl_ValidGather_1 φ) (F_36 φ)


/-! ### slices_IndexFunc_float32_float32_v2 -/
def slices_IndexFunc_float32_float32_v2_2 {ρ : Type} (φ : Nat) (n0 : Int) (n1 : Int) (b3 : Bool) (e4 : Nat) (l5 : (List (List Nat))) (n6 : Int) (b7 : Bool) (e8 : Nat) (l9 : (List Nat)) : Nat → Int → (Int → Int → Option ρ) → (Int → Option ρ) → Option ρ
  | 0, _, _, _ => none
  | n + 1, n2, k0, k1 =>
    bif (decide (n2 < n1)) then
      Option.bind (idx n2 (List.length l5)) fun r10 =>
      Option.bind (l5[r10]?) fun r11 =>
      Option.bind (impl_ValidGather_1 φ Bool.false 0 r11 n6 b7 e8 l9 b3 e4 l5 some) fun r12 =>
      bif r12 then
        (k0 n2 n2)
      else
        slices_IndexFunc_float32_float32_v2_2 φ n0 n1 b3 e4 l5 n6 b7 e8 l9 n (IntKind.wrap .i64 (n2 + (1 : Int))) k0 k1
    else
      (k1 n2)

def Lin_slices_IndexFunc_float32_float32_v2_2 (φ : Nat) : Nat → Option LoopS := noL

def slices_IndexFunc_float32_float32_v2_2_st (n0 : Int) (n1 : Int) (n2 : Int) (b3 : Bool) (e4 : Nat) (l5 : (List (List Nat))) (n6 : Int) (b7 : Bool) (e8 : Nat) (l9 : (List Nat)) : St := (St.mk (spread 0 19 [0, 1, 4, 7, 8] [(.whole 0), (.fn 35 [] [(.ptr 1 0)]), (.int .i64 n0), (.int .i64 n1), (.int .i64 n2)]) [(.vec b3 e4 (.slice (.flt .f32)) l5), (.cells 36 [(.int .i64 n6), (.whole 2), (.whole 0)]), (.vec b7 e8 (.flt .f32) l9)])

def slices_IndexFunc_float32_float32_v2_2_s (φ : Nat) : LoopS := fun st K => match sel 0 [0, 1, 4, 7, 8] (norm 3 (hasN [0, 1, 4, 7, 8]) st).t, (norm 3 (hasN [0, 1, 4, 7, 8]) st).h with
  | [(.whole 0), (.fn 35 [] [(.ptr 1 0)]), (.int .i64 n0), (.int .i64 n1), (.int .i64 n2)], [(.vec b3 e4 (.slice (.flt .f32)) l5), (.cells 36 [(.int .i64 n6), (.whole 2), (.whole 0)]), (.vec b7 e8 (.flt .f32) l9)] => bif normOk 3 (hasN [0, 1, 4, 7, 8]) st && Nat.beq (norm 3 (hasN [0, 1, 4, 7, 8]) st).t.length 19 then slices_IndexFunc_float32_float32_v2_2 φ n0 n1 b3 e4 l5 n6 b7 e8 l9 φ n2 (fun n13 n15 => K .ret (St.mk (spread 0 19 [0, 1, 4, 7, 8] [(.whole 0), (.fn 35 [] [(.ptr 1 0)]), (.int .i64 n13), (.int .i64 n1), (.int .i64 n15)]) [(.vec b3 e4 (.slice (.flt .f32)) l5), (.cells 36 [(.int .i64 n6), (.whole 2), (.whole 0)]), (.vec b7 e8 (.flt .f32) l9)])) (fun n25 => K (.exit 0) (St.mk (spread 0 19 [0, 1, 4, 7, 8] [(.whole 0), (.fn 35 [] [(.ptr 1 0)]), (.int .i64 n0), (.int .i64 n1), (.int .i64 n25)]) [(.vec b3 e4 (.slice (.flt .f32)) l5), (.cells 36 [(.int .i64 n6), (.whole 2), (.whole 0)]), (.vec b7 e8 (.flt .f32) l9)])) else none
  | _, _ => none

def slices_IndexFunc_float32_float32_v2 {ρ : Type} (φ : Nat) (b4 : Bool) (e5 : Nat) (l6 : (List (List Nat))) (n7 : Int) (b8 : Bool) (e9 : Nat) (l10 : (List Nat)) (k : Int → Option ρ) : Option ρ :=
  slices_IndexFunc_float32_float32_v2_2 φ (0 : Int) (((List.length l6) : Nat) : Int) b4 e5 l6 n7 b8 e9 l10 φ (0 : Int)
    (fun e33 e34 =>
    k e33)
    (fun e35 =>
    k (-(1 : Int)))

def slices_IndexFunc_float32_float32_v2_val : List AV → List Blk → Int → AV × List Blk
  | [(.whole 0), (.fn 35 [] [(.ptr 1 0)])], [(.vec b4 e5 (.slice (.flt .f32)) l6), (.cells 36 [(.int .i64 n7), (.whole 2), (.whole 0)]), (.vec b8 e9 (.flt .f32) l10)], r => ((.int .i64 r), [(.vec b4 e5 (.slice (.flt .f32)) l6), (.cells 36 [(.int .i64 n7), (.whole 2), (.whole 0)]), (.vec b8 e9 (.flt .f32) l10)])
  | _, _, _ => (.any, [])

def slices_IndexFunc_float32_float32_v2_L (φ : Nat) : Nat → Option LoopS := insL 2 (slices_IndexFunc_float32_float32_v2_2_s φ) (noL)

def S_slices_IndexFunc_float32_float32_v2 (φ : Nat) : List AV → List Blk → Option Int
  | [(.whole 0), (.fn 35 [] [(.ptr 1 0)])], [(.vec b4 e5 (.slice (.flt .f32)) l6), (.cells 36 [(.int .i64 n7), (.whole 2), (.whole 0)]), (.vec b8 e9 (.flt .f32) l10)] => slices_IndexFunc_float32_float32_v2 φ b4 e5 l6 n7 b8 e9 l10 some
  | _, _ => none

def c_slices_IndexFunc_float32_float32_v2 : List AV → List Blk → Bool
  | [(.whole 0), (.fn 35 [] [(.ptr 1 0)])], [(.vec b4 e5 (.slice (.flt .f32)) l6), (.cells 36 [(.int .i64 n7), (.whole 2), (.whole 0)]), (.vec b8 e9 (.flt .f32) l10)] => true
  | _, _ => false

def A_slices_IndexFunc_float32_float32_v2 (φ : Nat) : Sum := .wr (S_slices_IndexFunc_float32_float32_v2 φ) slices_IndexFunc_float32_float32_v2_val

def F_38 (φ : Nat) : FuncId → Option Sum := ins 45 (A_slices_IndexFunc_float32_float32_v2 φ) (F_37 φ)


/-! ### slices_ContainsFunc_float32_float32_v2 -/
def slices_ContainsFunc_float32_float32_v2 {ρ : Type} (φ : Nat) (b4 : Bool) (e5 : Nat) (l6 : (List (List Nat))) (n7 : Int) (b8 : Bool) (e9 : Nat) (l10 : (List Nat)) (k : Bool → Option ρ) : Option ρ :=
  Option.bind (slices_IndexFunc_float32_float32_v2 φ b4 e5 l6 n7 b8 e9 l10 some) fun r0 =>
  k (decide (r0 ≥ (0 : Int)))

def slices_ContainsFunc_float32_float32_v2_val : List AV → List Blk → Bool → AV × List Blk
  | [(.whole 0), (.fn 35 [] [(.ptr 1 0)])], [(.vec b4 e5 (.slice (.flt .f32)) l6), (.cells 36 [(.int .i64 n7), (.whole 2), (.whole 0)]), (.vec b8 e9 (.flt .f32) l10)], r => ((.bool r), [(.vec b4 e5 (.slice (.flt .f32)) l6), (.cells 36 [(.int .i64 n7), (.whole 2), (.whole 0)]), (.vec b8 e9 (.flt .f32) l10)])
  | _, _, _ => (.any, [])

def slices_ContainsFunc_float32_float32_v2_L (φ : Nat) : Nat → Option LoopS := noL

def S_slices_ContainsFunc_float32_float32_v2 (φ : Nat) : List AV → List Blk → Option Bool
  | [(.whole 0), (.fn 35 [] [(.ptr 1 0)])], [(.vec b4 e5 (.slice (.flt .f32)) l6), (.cells 36 [(.int .i64 n7), (.whole 2), (.whole 0)]), (.vec b8 e9 (.flt .f32) l10)] => slices_ContainsFunc_float32_float32_v2 φ b4 e5 l6 n7 b8 e9 l10 some
  | _, _ => none

def c_slices_ContainsFunc_float32_float32_v2 : List AV → List Blk → Bool
  | [(.whole 0), (.fn 35 [] [(.ptr 1 0)])], [(.vec b4 e5 (.slice (.flt .f32)) l6), (.cells 36 [(.int .i64 n7), (.whole 2), (.whole 0)]), (.vec b8 e9 (.flt .f32) l10)] => true
  | _, _ => false

def A_slices_ContainsFunc_float32_float32_v2 (φ : Nat) : Sum := .wr (S_slices_ContainsFunc_float32_float32_v2 φ) slices_ContainsFunc_float32_float32_v2_val

def F_39 (φ : Nat) : FuncId → Option Sum := ins 34 (A_slices_ContainsFunc_float32_float32_v2 φ) (F_38 φ)


/-! ### impl_ValidGather -/
def impl_ValidGather_c3 {ρ : Type} (φ : Nat) (b4 : Bool) (b5 : Bool) (e6 : Nat) (l7 : (List Nat)) (b8 : Bool) (e9 : Nat) (l10 : (List (List Nat))) (n11 : Int) (k0 : Bool → Option ρ) : Option ρ :=
    Option.bind (slices_ContainsFunc_float32_float32_v2 φ b8 e9 l10 n11 b5 e6 l7 some) fun r12 =>
    (k0 (!r12))

def Lin_impl_ValidGather_c3 (φ : Nat) : Nat → Option LoopS := noL

def impl_ValidGather_c3_st (b4 : Bool) (b5 : Bool) (e6 : Nat) (l7 : (List Nat)) (b8 : Bool) (e9 : Nat) (l10 : (List (List Nat))) (n11 : Int) : St := (St.mk (spread 0 34 [1, 2] [(.ptr 2 0), (.bool b4)]) [(.vec b5 e6 (.flt .f32) l7), (.vec b8 e9 (.slice (.flt .f32)) l10), (.cells 36 [(.int .i64 n11), (.whole 0), (.whole 1)])])

def impl_ValidGather_c3_s (φ : Nat) : LoopS := fun st K => match sel 0 [1, 2] (norm 2 (hasN [1, 2]) st).t, (norm 2 (hasN [1, 2]) st).h with
  | [(.ptr 2 0), (.bool b4)], [(.vec b5 e6 (.flt .f32) l7), (.vec b8 e9 (.slice (.flt .f32)) l10), (.cells 36 [(.int .i64 n11), (.whole 0), (.whole 1)])] => bif normOk 2 (hasN [1, 2]) st && Nat.beq (norm 2 (hasN [1, 2]) st).t.length 34 then impl_ValidGather_c3 φ b4 b5 e6 l7 b8 e9 l10 n11 (fun b13 => K .ret (St.mk (spread 0 34 [1, 2] [(.ptr 2 0), (.bool b13)]) [(.vec b5 e6 (.flt .f32) l7), (.vec b8 e9 (.slice (.flt .f32)) l10), (.cells 36 [(.int .i64 n11), (.whole 0), (.whole 1)])])) else none
  | _, _ => none

def impl_ValidGather {ρ : Type} (φ : Nat) (n4 : Int) (b5 : Bool) (e6 : Nat) (l7 : (List Nat)) (b8 : Bool) (e9 : Nat) (l10 : (List (List Nat))) (k : Bool → Option ρ) : Option ρ :=
  Option.bind (impl_within φ n4 (1 : Int) (64 : Int) some) fun r0 =>
  bif (!r0) then
    k Bool.false
  else
    Option.bind (impl_length_float32 φ b5 e6 l7 some) fun r1 =>
    Option.bind (impl_within φ r1 (1 : Int) (16 : Int) some) fun r2 =>
    bif (!r2) then
      k Bool.false
    else
      Option.bind (impl_areFinite φ b5 e6 l7 some) fun r3 =>
      bif (!r3) then
        k Bool.false
      else
        bif ((((List.length l10) : Nat) : Int) != (((List.length l7) : Nat) : Int)) then
          k Bool.false
        else
          impl_ValidGather_c3 φ Bool.false b5 e6 l7 b8 e9 l10 n4
            (fun e21 =>
            k e21)

def impl_ValidGather_val (r : Bool) : AV := (.bool r)

def impl_ValidGather_L (φ : Nat) : Nat → Option LoopS := insL (cut 3) (impl_ValidGather_c3_s φ) (noL)

def S_impl_ValidGather (φ : Nat) : List AV → List Blk → Option Bool
  | [(.agg [(.int .i64 n4), (.whole 0), (.whole 1)])], [(.vec b5 e6 (.flt .f32) l7), (.vec b8 e9 (.slice (.flt .f32)) l10)] => impl_ValidGather φ n4 b5 e6 l7 b8 e9 l10 some
  | _, _ => none

def c_impl_ValidGather : List AV → List Blk → Bool
  | [(.agg [(.int .i64 n4), (.whole 0), (.whole 1)])], [(.vec b5 e6 (.flt .f32) l7), (.vec b8 e9 (.slice (.flt .f32)) l10)] => true
  | _, _ => false

def A_impl_ValidGather (φ : Nat) : Sum := .rd (S_impl_ValidGather φ) impl_ValidGather_val

def F_40 (φ : Nat) : FuncId → Option Sum := ins 14 (A_impl_ValidGather φ) (F_39 φ)


/-! ### impl_isNonNegative -/
def impl_isNonNegative {ρ : Type} (φ : Nat) (x0 : Nat) (k : Bool → Option ρ) : Option ρ :=
  Option.bind (impl_IsFinite φ x0 some) fun r0 =>
  bif r0 then
    k (fge .f32 x0 (can .f32 0))
  else
    k Bool.false

def impl_isNonNegative_val (r : Bool) : AV := (.bool r)

def impl_isNonNegative_L (φ : Nat) : Nat → Option LoopS := noL

def S_impl_isNonNegative (φ : Nat) : List AV → List Blk → Option Bool
  | [(.flt .f32 x0)], [] => impl_isNonNegative φ x0 some
  | _, _ => none

def c_impl_isNonNegative : List AV → List Blk → Bool
  | [(.flt .f32 x0)], [] => true
  | _, _ => false

def A_impl_isNonNegative (φ : Nat) : Sum := .rd (S_impl_isNonNegative φ) impl_isNonNegative_val

def F_41 (φ : Nat) : FuncId → Option Sum := ins 29 (A_impl_isNonNegative φ) (F_40 φ)


/-! ### impl_AddEvent_1 -/
def impl_AddEvent_1 {ρ : Type} (φ : Nat) (x2 : Nat) (b3 : Bool) (e4 : Nat) (l5 : (List Nat)) (x6 : Nat) (x7 : Nat) (x8 : Nat) (k : (List Nat) → Option ρ) : Option ρ :=
  Option.bind (slices_Clone_float32_float32 φ b3 e4 l5 some) fun r0 =>
  Option.bind (impl_curve φ x6 x2 x7 some) fun r1 =>
  Option.bind (fconv .f32 (fadd .f32 r1 (can .f32 1056964608)) .f64) fun r2 =>
  Option.bind (math_Floor φ r2 some) fun r3 =>
  bif (flt .f64 r3 (itof .f64 (((List.length r0) : Nat) : Int))) then
    Option.bind (ftoi .f64 r3 .i64) fun r4 =>
    Option.bind (idx r4 (List.length r0)) fun r5 =>
    Option.bind (r0[r5]?) fun r6 =>
    Option.bind (idx r4 (List.length r0)) fun r7 =>
    Option.bind (r0[r7]?) fun r8 =>
    k (List.set r0 r7 (fadd .f32 r6 x8))
  else
    k r0

def impl_AddEvent_1_val (r : (List Nat)) : AV × List Blk := ((.whole 4), [(.vec Bool.true 27 (.flt .f32) r)])

def impl_AddEvent_1_L (φ : Nat) : Nat → Option LoopS := noL

def S_impl_AddEvent_1 (φ : Nat) : List AV → List Blk → Option (List Nat)
  | [(.whole 0), (.flt .f32 x2), (.ptr 1 0), (.ptr 2 0), (.ptr 3 0)], [(.vec b3 e4 (.flt .f32) l5), (.cells 27 [(.flt .f32 x6)]), (.cells 27 [(.flt .f32 x7)]), (.cells 27 [(.flt .f32 x8)])] => impl_AddEvent_1 φ x2 b3 e4 l5 x6 x7 x8 some
  | _, _ => none

def c_impl_AddEvent_1 : List AV → List Blk → Bool
  | [(.whole 0), (.flt .f32 x2), (.ptr 1 0), (.ptr 2 0), (.ptr 3 0)], [(.vec b3 e4 (.flt .f32) l5), (.cells 27 [(.flt .f32 x6)]), (.cells 27 [(.flt .f32 x7)]), (.cells 27 [(.flt .f32 x8)])] => true
  | _, _ => false

def A_impl_AddEvent_1 (φ : Nat) : Sum := .mk (S_impl_AddEvent_1 φ) impl_AddEvent_1_val

def F_42 (φ : Nat) : FuncId → Option Sum := ins 31 (A_impl_AddEvent_1 φ) (F_41 φ)


/-! ### impl_Gather_each -/
def impl_Gather_each_3 {ρ : Type} (φ : Nat) (n25 : Int) (b27 : Bool) (e28 : Nat) (l29 : (List Nat)) (b30 : Bool) (e31 : Nat) (l32 : (List (List Nat))) (x33 : Nat) (x34 : Nat) (x35 : Nat) (n36 : Int) (l37 : (List Nat)) (l38 : (List (List Nat))) (n39 : Int) (l40 : (List Nat)) (n41 : Int) : Nat → Int → (List (List Nat)) → (Int → (List (List Nat)) → Option ρ) → Option ρ
  | 0, _, _, _ => none
  | n + 1, n26, l42, k0 =>
    bif (decide (n26 < n25)) then
      Option.bind (idx n26 (List.length l32)) fun r43 =>
      Option.bind (l32[r43]?) fun r44 =>
      Option.bind (idx n26 (List.length l29)) fun r45 =>
      Option.bind (l29[r45]?) fun r46 =>
      Option.bind (impl_AddEvent_1 φ r46 Bool.false 0 r44 x33 x34 x35 some) fun r47 =>
      Option.bind (room ((Nat.add (List.length l42) 0) + 1) 24) fun r48 =>
      impl_Gather_each_3 φ n25 b27 e28 l29 b30 e31 l32 x33 x34 x35 n36 l37 l38 n39 l40 n41 n (IntKind.wrap .i64 (n26 + (1 : Int))) (l42 ++ [r47]) k0
    else
      (k0 n26 l42)

def impl_Gather_each_3_1 {ρ : Type} (φ : Nat) (n1 : Int) (n2 : Int) (b3 : Bool) (e4 : Nat) (l5 : (List Nat)) (b6 : Bool) (e7 : Nat) (l8 : (List (List Nat))) (x9 : Nat) (x10 : Nat) (x11 : Nat) (n12 : Int) (l13 : (List Nat)) (l14 : (List (List Nat))) (n15 : Int) (l16 : (List Nat)) (l17 : (List (List Nat))) (n18 : Int) : Nat → (Int → (List (List Nat)) → Option ρ) → (Option ρ) → Option ρ
  | 0, _, _ => none
  | n + 1, k0, k1 =>
    bif (decide (n2 < n1)) then
      Option.bind (idx n2 (List.length l8)) fun r19 =>
      Option.bind (l8[r19]?) fun r20 =>
      Option.bind (idx n2 (List.length l5)) fun r21 =>
      Option.bind (l5[r21]?) fun r22 =>
      Option.bind (impl_AddEvent_1 φ r22 Bool.false 0 r20 x9 x10 x11 some) fun r23 =>
      Option.bind (room ((Nat.add (List.length l17) 0) + 1) 24) fun r24 =>
      impl_Gather_each_3 φ n1 b3 e4 l5 b6 e7 l8 x9 x10 x11 n12 l13 l14 n15 l16 n18 n (IntKind.wrap .i64 (n2 + (1 : Int))) (l17 ++ [r23])
        (fun e67 e68 =>
        (k0 e67 e68))
    else
      (k1 )

def Lin_impl_Gather_each_3 (φ : Nat) : Nat → Option LoopS := noL

def impl_Gather_each_3_st (n25 : Int) (n26 : Int) (b27 : Bool) (e28 : Nat) (l29 : (List Nat)) (b30 : Bool) (e31 : Nat) (l32 : (List (List Nat))) (x33 : Nat) (x34 : Nat) (x35 : Nat) (n36 : Int) (l37 : (List Nat)) (l38 : (List (List Nat))) (n39 : Int) (l40 : (List Nat)) (n41 : Int) (l42 : (List (List Nat))) : St := (St.mk (spread 0 37 [1, 2, 4, 5, 15, 16, 17] [(.fn 31 [] [(.ptr 2 0), (.ptr 3 0), (.ptr 4 0)]), (.ptr 5 0), (.ptr 8 0), (.ptr 10 0), (.whole 1), (.int .i64 n25), (.int .i64 n26)]) [(.vec b27 e28 (.flt .f32) l29), (.vec b30 e31 (.slice (.flt .f32)) l32), (.cells 27 [(.flt .f32 x33)]), (.cells 27 [(.flt .f32 x34)]), (.cells 27 [(.flt .f32 x35)]), (.cells 36 [(.int .i64 n36), (.whole 0), (.whole 1)]), (.vec Bool.true 27 (.flt .f32) l37), (.vec Bool.true 25 (.slice (.flt .f32)) l38), (.cells 36 [(.int .i64 n39), (.whole 6), (.whole 7)]), (.vec Bool.true 27 (.flt .f32) l40), (.cells 36 [(.int .i64 n41), (.whole 9), (.whole 11)]), (.vec Bool.true 25 (.slice (.flt .f32)) l42)])

def impl_Gather_each_3_1_st (n1 : Int) (n2 : Int) (b3 : Bool) (e4 : Nat) (l5 : (List Nat)) (b6 : Bool) (e7 : Nat) (l8 : (List (List Nat))) (x9 : Nat) (x10 : Nat) (x11 : Nat) (n12 : Int) (l13 : (List Nat)) (l14 : (List (List Nat))) (n15 : Int) (l16 : (List Nat)) (l17 : (List (List Nat))) (n18 : Int) : St := (St.mk (spread 0 37 [1, 2, 4, 5, 15, 16, 17] [(.fn 31 [] [(.ptr 2 0), (.ptr 3 0), (.ptr 4 0)]), (.ptr 5 0), (.ptr 8 0), (.ptr 11 0), (.whole 1), (.int .i64 n1), (.int .i64 n2)]) [(.vec b3 e4 (.flt .f32) l5), (.vec b6 e7 (.slice (.flt .f32)) l8), (.cells 27 [(.flt .f32 x9)]), (.cells 27 [(.flt .f32 x10)]), (.cells 27 [(.flt .f32 x11)]), (.cells 36 [(.int .i64 n12), (.whole 0), (.whole 1)]), (.vec Bool.true 27 (.flt .f32) l13), (.vec Bool.true 25 (.slice (.flt .f32)) l14), (.cells 36 [(.int .i64 n15), (.whole 6), (.whole 7)]), (.vec Bool.true 27 (.flt .f32) l16), (.vec Bool.true 25 (.slice (.flt .f32)) l17), (.cells 36 [(.int .i64 n18), (.whole 9), (.whole 10)])])

def impl_Gather_each_3_s (φ : Nat) : LoopS := fun st K => match sel 0 [1, 2, 4, 5, 15, 16, 17] (norm 5 (hasN [1, 2, 4, 5, 15, 16, 17]) st).t, (norm 5 (hasN [1, 2, 4, 5, 15, 16, 17]) st).h with
  | [(.fn 31 [] [(.ptr 2 0), (.ptr 3 0), (.ptr 4 0)]), (.ptr 5 0), (.ptr 8 0), (.ptr 10 0), (.whole 1), (.int .i64 n25), (.int .i64 n26)], [(.vec b27 e28 (.flt .f32) l29), (.vec b30 e31 (.slice (.flt .f32)) l32), (.cells 27 [(.flt .f32 x33)]), (.cells 27 [(.flt .f32 x34)]), (.cells 27 [(.flt .f32 x35)]), (.cells 36 [(.int .i64 n36), (.whole 0), (.whole 1)]), (.vec Bool.true 27 (.flt .f32) l37), (.vec Bool.true 25 (.slice (.flt .f32)) l38), (.cells 36 [(.int .i64 n39), (.whole 6), (.whole 7)]), (.vec Bool.true 27 (.flt .f32) l40), (.cells 36 [(.int .i64 n41), (.whole 9), (.whole 11)]), (.vec Bool.true 25 (.slice (.flt .f32)) l42)] => bif normOk 5 (hasN [1, 2, 4, 5, 15, 16, 17]) st && Nat.beq (norm 5 (hasN [1, 2, 4, 5, 15, 16, 17]) st).t.length 37 then impl_Gather_each_3 φ n25 b27 e28 l29 b30 e31 l32 x33 x34 x35 n36 l37 l38 n39 l40 n41 φ n26 l42 (fun n50 l66 => K (.exit 0) (St.mk (spread 0 37 [1, 2, 4, 5, 15, 16, 17] [(.fn 31 [] [(.ptr 2 0), (.ptr 3 0), (.ptr 4 0)]), (.ptr 5 0), (.ptr 8 0), (.ptr 10 0), (.whole 1), (.int .i64 n25), (.int .i64 n50)]) [(.vec b27 e28 (.flt .f32) l29), (.vec b30 e31 (.slice (.flt .f32)) l32), (.cells 27 [(.flt .f32 x33)]), (.cells 27 [(.flt .f32 x34)]), (.cells 27 [(.flt .f32 x35)]), (.cells 36 [(.int .i64 n36), (.whole 0), (.whole 1)]), (.vec Bool.true 27 (.flt .f32) l37), (.vec Bool.true 25 (.slice (.flt .f32)) l38), (.cells 36 [(.int .i64 n39), (.whole 6), (.whole 7)]), (.vec Bool.true 27 (.flt .f32) l40), (.cells 36 [(.int .i64 n41), (.whole 9), (.whole 11)]), (.vec Bool.true 25 (.slice (.flt .f32)) l66)])) else none
  | _, _ => match sel 0 [1, 2, 4, 5, 15, 16, 17] (norm 5 (hasN [1, 2, 4, 5, 15, 16, 17]) st).t, (norm 5 (hasN [1, 2, 4, 5, 15, 16, 17]) st).h with
  | [(.fn 31 [] [(.ptr 2 0), (.ptr 3 0), (.ptr 4 0)]), (.ptr 5 0), (.ptr 8 0), (.ptr 11 0), (.whole 1), (.int .i64 n1), (.int .i64 n2)], [(.vec b3 e4 (.flt .f32) l5), (.vec b6 e7 (.slice (.flt .f32)) l8), (.cells 27 [(.flt .f32 x9)]), (.cells 27 [(.flt .f32 x10)]), (.cells 27 [(.flt .f32 x11)]), (.cells 36 [(.int .i64 n12), (.whole 0), (.whole 1)]), (.vec Bool.true 27 (.flt .f32) l13), (.vec Bool.true 25 (.slice (.flt .f32)) l14), (.cells 36 [(.int .i64 n15), (.whole 6), (.whole 7)]), (.vec Bool.true 27 (.flt .f32) l16), (.vec Bool.true 25 (.slice (.flt .f32)) l17), (.cells 36 [(.int .i64 n18), (.whole 9), (.whole 10)])] => bif normOk 5 (hasN [1, 2, 4, 5, 15, 16, 17]) st && Nat.beq (norm 5 (hasN [1, 2, 4, 5, 15, 16, 17]) st).t.length 37 then impl_Gather_each_3_1 φ n1 n2 b3 e4 l5 b6 e7 l8 x9 x10 x11 n12 l13 l14 n15 l16 l17 n18 φ  (fun n70 l86 => K (.exit 0) (St.mk (spread 0 37 [1, 2, 4, 5, 15, 16, 17] [(.fn 31 [] [(.ptr 2 0), (.ptr 3 0), (.ptr 4 0)]), (.ptr 5 0), (.ptr 8 0), (.ptr 10 0), (.whole 1), (.int .i64 n1), (.int .i64 n70)]) [(.vec b3 e4 (.flt .f32) l5), (.vec b6 e7 (.slice (.flt .f32)) l8), (.cells 27 [(.flt .f32 x9)]), (.cells 27 [(.flt .f32 x10)]), (.cells 27 [(.flt .f32 x11)]), (.cells 36 [(.int .i64 n12), (.whole 0), (.whole 1)]), (.vec Bool.true 27 (.flt .f32) l13), (.vec Bool.true 25 (.slice (.flt .f32)) l14), (.cells 36 [(.int .i64 n15), (.whole 6), (.whole 7)]), (.vec Bool.true 27 (.flt .f32) l16), (.cells 36 [(.int .i64 n18), (.whole 9), (.whole 11)]), (.vec Bool.true 25 (.slice (.flt .f32)) l86)])) (K (.exit 0) (St.mk (spread 0 37 [1, 2, 4, 5, 15, 16, 17] [(.fn 31 [] [(.ptr 2 0), (.ptr 3 0), (.ptr 4 0)]), (.ptr 5 0), (.ptr 8 0), (.ptr 11 0), (.whole 1), (.int .i64 n1), (.int .i64 n2)]) [(.vec b3 e4 (.flt .f32) l5), (.vec b6 e7 (.slice (.flt .f32)) l8), (.cells 27 [(.flt .f32 x9)]), (.cells 27 [(.flt .f32 x10)]), (.cells 27 [(.flt .f32 x11)]), (.cells 36 [(.int .i64 n12), (.whole 0), (.whole 1)]), (.vec Bool.true 27 (.flt .f32) l13), (.vec Bool.true 25 (.slice (.flt .f32)) l14), (.cells 36 [(.int .i64 n15), (.whole 6), (.whole 7)]), (.vec Bool.true 27 (.flt .f32) l16), (.vec Bool.true 25 (.slice (.flt .f32)) l17), (.cells 36 [(.int .i64 n18), (.whole 9), (.whole 10)])])) else none
  | _, _ => none

def impl_Gather_each {ρ : Type} (φ : Nat) (n4 : Int) (b5 : Bool) (e6 : Nat) (l7 : (List Nat)) (b8 : Bool) (e9 : Nat) (l10 : (List (List Nat))) (x11 : Nat) (x12 : Nat) (x13 : Nat) (k : (Int × (List Nat) × (List (List Nat))) → Option ρ) : Option ρ :=
  Option.bind (slices_Clone_float32_float32 φ b5 e6 l7 some) fun r0 =>
  impl_Gather_each_3_1 φ (((List.length l10) : Nat) : Int) (0 : Int) b5 e6 l7 b8 e9 l10 x11 x12 x13 n4 [] [] (0 : Int) r0 [] n4 φ
    (fun e105 e106 =>
    k (n4, r0, e106))
    (
    k (n4, r0, []))

def impl_Gather_each_val (r : (Int × (List Nat) × (List (List Nat)))) : AV × List Blk := ((.agg [(.int .i64 r.1), (.whole 5), (.whole 6)]), [(.vec Bool.true 27 (.flt .f32) r.2.1), (.vec Bool.true 25 (.slice (.flt .f32)) r.2.2)])

def impl_Gather_each_L (φ : Nat) : Nat → Option LoopS := insL 3 (impl_Gather_each_3_s φ) (noL)

def S_impl_Gather_each (φ : Nat) : List AV → List Blk → Option (Int × (List Nat) × (List (List Nat)))
  | [(.agg [(.int .i64 n4), (.whole 0), (.whole 1)]), (.fn 31 [] [(.ptr 2 0), (.ptr 3 0), (.ptr 4 0)])], [(.vec b5 e6 (.flt .f32) l7), (.vec b8 e9 (.slice (.flt .f32)) l10), (.cells 27 [(.flt .f32 x11)]), (.cells 27 [(.flt .f32 x12)]), (.cells 27 [(.flt .f32 x13)])] => impl_Gather_each φ n4 b5 e6 l7 b8 e9 l10 x11 x12 x13 some
  | _, _ => none

def c_impl_Gather_each : List AV → List Blk → Bool
  | [(.agg [(.int .i64 n4), (.whole 0), (.whole 1)]), (.fn 31 [] [(.ptr 2 0), (.ptr 3 0), (.ptr 4 0)])], [(.vec b5 e6 (.flt .f32) l7), (.vec b8 e9 (.slice (.flt .f32)) l10), (.cells 27 [(.flt .f32 x11)]), (.cells 27 [(.flt .f32 x12)]), (.cells 27 [(.flt .f32 x13)])] => true
  | _, _ => false

def A_impl_Gather_each (φ : Nat) : Sum := .mk (S_impl_Gather_each φ) impl_Gather_each_val

def F_43 (φ : Nat) : FuncId → Option Sum := ins 30 (A_impl_Gather_each φ) (F_42 φ)


/-! ### impl_AddEvent -/
def impl_AddEvent {ρ : Type} (φ : Nat) (n4 : Int) (x5 : Nat) (x6 : Nat) (x7 : Nat) (b8 : Bool) (e9 : Nat) (l10 : (List Nat)) (b11 : Bool) (e12 : Nat) (l13 : (List (List Nat))) (k : (Int × Bool × (List Nat) × (List (List Nat))) → Option ρ) : Option ρ :=
  Option.bind (impl_ValidGather φ n4 b8 e9 l10 b11 e12 l13 some) fun r0 =>
  bif (!r0) then
    k ((0 : Int), Bool.false, [], [])
  else
    Option.bind (impl_isNonNegative φ x5 some) fun r1 =>
    bif (!r1) then
      k ((0 : Int), Bool.false, [], [])
    else
      Option.bind (impl_arePositive φ Bool.true 27 [x6] some) fun r2 =>
      bif (!r2) then
        k ((0 : Int), Bool.false, [], [])
      else
        Option.bind (impl_Gather_each φ n4 b8 e9 l10 b11 e12 l13 x5 x6 x7 some) fun r3 =>
        k (r3.1, Bool.true, r3.2.1, r3.2.2)

def impl_AddEvent_val (r : (Int × Bool × (List Nat) × (List (List Nat)))) : AV × List Blk := ((.tup [(.agg [(.int .i64 r.1), (.whole 2), (.whole 3)]), (.bool r.2.1)]), [(.vec Bool.true 27 (.flt .f32) r.2.2.1), (.vec Bool.true 25 (.slice (.flt .f32)) r.2.2.2)])

def impl_AddEvent_L (φ : Nat) : Nat → Option LoopS := noL

def S_impl_AddEvent (φ : Nat) : List AV → List Blk → Option (Int × Bool × (List Nat) × (List (List Nat)))
  | [(.agg [(.int .i64 n4), (.whole 0), (.whole 1)]), (.flt .f32 x5), (.flt .f32 x6), (.flt .f32 x7)], [(.vec b8 e9 (.flt .f32) l10), (.vec b11 e12 (.slice (.flt .f32)) l13)] => impl_AddEvent φ n4 x5 x6 x7 b8 e9 l10 b11 e12 l13 some
  | _, _ => none

def c_impl_AddEvent : List AV → List Blk → Bool
  | [(.agg [(.int .i64 n4), (.whole 0), (.whole 1)]), (.flt .f32 x5), (.flt .f32 x6), (.flt .f32 x7)], [(.vec b8 e9 (.flt .f32) l10), (.vec b11 e12 (.slice (.flt .f32)) l13)] => true
  | _, _ => false

def A_impl_AddEvent (φ : Nat) : Sum := .mk (S_impl_AddEvent φ) impl_AddEvent_val

def F_44 (φ : Nat) : FuncId → Option Sum := ins 13 (A_impl_AddEvent φ) (F_43 φ)


/-! ### laws_FnSamples -/
def laws_FnSamples_15 {ρ : Type} (φ : Nat) (n30 : Int) (n31 : Int) (b33 : Bool) (e34 : Nat) (l35 : (List Int)) (b36 : Bool) (e37 : Nat) (l38 : (List Int)) (l39 : (List Nat)) : Nat → Int → (List Nat) → (Int → (List Nat) → Option ρ) → Option ρ
  | 0, _, _, _ => none
  | n + 1, n32, l40, k0 =>
    bif (decide (n32 < n30)) then
      Option.bind (idx n32 (List.length l39)) fun r41 =>
      Option.bind (l39[r41]?) fun r42 =>
      Option.bind (room ((Nat.add (List.length l40) 0) + 1) 4) fun r43 =>
      laws_FnSamples_15 φ n30 n31 b33 e34 l35 b36 e37 l38 l39 n (IntKind.wrap .i64 (n32 + (1 : Int))) (l40 ++ [(fmul .f32 (can .f32 1073741824) r42)]) k0
    else
      (k0 n32 l40)

def Lin_laws_FnSamples_15 (φ : Nat) : Nat → Option LoopS := noL

def laws_FnSamples_15_st (n30 : Int) (n31 : Int) (n32 : Int) (b33 : Bool) (e34 : Nat) (l35 : (List Int)) (b36 : Bool) (e37 : Nat) (l38 : (List Int)) (l39 : (List Nat)) (l40 : (List Nat)) : St := (St.mk (spread 0 267 [1, 5, 6, 7, 18, 19] [(.whole 1), (.int .i64 n30), (.whole 2), (.int .i64 n31), (.whole 3), (.int .i64 n32)]) [(.vec b33 e34 (.int .u8) l35), (.vec b36 e37 (.int .u8) l38), (.vec Bool.true 27 (.flt .f32) l39), (.vec Bool.true 27 (.flt .f32) l40)])

def laws_FnSamples_15_s (φ : Nat) : LoopS := fun st K => match sel 0 [1, 5, 6, 7, 18, 19] (norm 2 (hasN [1, 5, 6, 7, 18, 19]) st).t, (norm 2 (hasN [1, 5, 6, 7, 18, 19]) st).h with
  | [(.whole 1), (.int .i64 n30), (.whole 2), (.int .i64 n31), (.whole 3), (.int .i64 n32)], [(.vec b33 e34 (.int .u8) l35), (.vec b36 e37 (.int .u8) l38), (.vec Bool.true 27 (.flt .f32) l39), (.vec Bool.true 27 (.flt .f32) l40)] => bif normOk 2 (hasN [1, 5, 6, 7, 18, 19]) st && Nat.beq (norm 2 (hasN [1, 5, 6, 7, 18, 19]) st).t.length 267 then laws_FnSamples_15 φ n30 n31 b33 e34 l35 b36 e37 l38 l39 φ n32 l40 (fun n46 l54 => K (.exit 0) (St.mk (spread 0 267 [1, 5, 6, 7, 18, 19] [(.whole 1), (.int .i64 n30), (.whole 2), (.int .i64 n31), (.whole 3), (.int .i64 n46)]) [(.vec b33 e34 (.int .u8) l35), (.vec b36 e37 (.int .u8) l38), (.vec Bool.true 27 (.flt .f32) l39), (.vec Bool.true 27 (.flt .f32) l54)])) else none
  | _, _ => none

def laws_FnSamples_24 {ρ : Type} (φ : Nat) (n71 : Int) (n72 : Int) (x73 : Nat) (b75 : Bool) (e76 : Nat) (l77 : (List Int)) (b78 : Bool) (e79 : Nat) (l80 : (List Int)) (l81 : (List Nat)) (l82 : (List Nat)) : Nat → Int → (Int → Option ρ) → (Int → Option ρ) → Option ρ
  | 0, _, _, _ => none
  | n + 1, n74, k0, k1 =>
    bif (decide (n74 < n71)) then
      Option.bind (idx n74 (List.length l82)) fun r83 =>
      Option.bind (l82[r83]?) fun r84 =>
      Option.bind (idx n74 (List.length l81)) fun r85 =>
      Option.bind (l81[r85]?) fun r86 =>
      bif (fne .f32 r84 (fmul .f32 (can .f32 1073741824) r86)) then
        (k0 n74)
      else
        laws_FnSamples_24 φ n71 n72 x73 b75 e76 l77 b78 e79 l80 l81 l82 n (IntKind.wrap .i64 (n74 + (1 : Int))) k0 k1
    else
      (k1 n74)

def Lin_laws_FnSamples_24 (φ : Nat) : Nat → Option LoopS := noL

def laws_FnSamples_24_st (n71 : Int) (n72 : Int) (x73 : Nat) (n74 : Int) (b75 : Bool) (e76 : Nat) (l77 : (List Int)) (b78 : Bool) (e79 : Nat) (l80 : (List Int)) (l81 : (List Nat)) (l82 : (List Nat)) : St := (St.mk (spread 0 267 [5, 7, 20, 21, 23, 25] [(.int .i64 n71), (.int .i64 n72), (.flt .f32 x73), (.whole 2), (.whole 3), (.int .i64 n74)]) [(.vec b75 e76 (.int .u8) l77), (.vec b78 e79 (.int .u8) l80), (.vec Bool.true 27 (.flt .f32) l81), (.vec Bool.true 27 (.flt .f32) l82)])

def laws_FnSamples_24_s (φ : Nat) : LoopS := fun st K => match sel 0 [4, 5, 7, 20, 21, 23, 25] (norm 2 (hasN [4, 5, 7, 20, 21, 23, 25]) st).t, (norm 2 (hasN [4, 5, 7, 20, 21, 23, 25]) st).h with
  | [.any, (.int .i64 n71), (.int .i64 n72), (.flt .f32 x73), (.whole 2), (.whole 3), (.int .i64 n74)], [(.vec b75 e76 (.int .u8) l77), (.vec b78 e79 (.int .u8) l80), (.vec Bool.true 27 (.flt .f32) l81), (.vec Bool.true 27 (.flt .f32) l82)] => bif normOk 2 (hasN [4, 5, 7, 20, 21, 23, 25]) st && Nat.beq (norm 2 (hasN [4, 5, 7, 20, 21, 23, 25]) st).t.length 267 then laws_FnSamples_24 φ n71 n72 x73 b75 e76 l77 b78 e79 l80 l81 l82 φ n74 (fun n91 => K .ret (St.mk (spread 0 267 [4, 5, 7, 20, 21, 23, 25] [(.bool Bool.false), (.int .i64 n71), (.int .i64 n72), (.flt .f32 x73), (.whole 2), (.whole 3), (.int .i64 n91)]) [(.vec b75 e76 (.int .u8) l77), (.vec b78 e79 (.int .u8) l80), (.vec Bool.true 27 (.flt .f32) l81), (.vec Bool.true 27 (.flt .f32) l82)])) (fun n103 => K (.exit 2) (St.mk (spread 0 267 [5, 7, 20, 21, 23, 25] [(.int .i64 n71), (.int .i64 n72), (.flt .f32 x73), (.whole 2), (.whole 3), (.int .i64 n103)]) [(.vec b75 e76 (.int .u8) l77), (.vec b78 e79 (.int .u8) l80), (.vec Bool.true 27 (.flt .f32) l81), (.vec Bool.true 27 (.flt .f32) l82)])) else none
  | _, _ => none

def laws_FnSamples_37 {ρ : Type} (φ : Nat) (n140 : Int) (n141 : Int) (n142 : Int) (b145 : Bool) (e146 : Nat) (l147 : (List Int)) (b148 : Bool) (e149 : Nat) (l150 : (List Int)) (l151 : (List Nat)) (l152 : (List (List Nat))) (n153 : Int) : Nat → Nat → Int → (Nat → Int → Option ρ) → Option ρ
  | 0, _, _, _ => none
  | n + 1, x143, n144, k0 =>
    bif (decide (n144 < n140)) then
      Option.bind (idx n142 (List.length l152)) fun r154 =>
      Option.bind (l152[r154]?) fun r155 =>
      Option.bind (idx n144 (List.length r155)) fun r156 =>
      Option.bind (r155[r156]?) fun r157 =>
      laws_FnSamples_37 φ n140 n141 n142 b145 e146 l147 b148 e149 l150 l151 l152 n153 n (fadd .f32 x143 r157) (IntKind.wrap .i64 (n144 + (1 : Int))) k0
    else
      (k0 x143 n144)

def Lin_laws_FnSamples_37 (φ : Nat) : Nat → Option LoopS := noL

def laws_FnSamples_37_st (n140 : Int) (n141 : Int) (n142 : Int) (x143 : Nat) (n144 : Int) (b145 : Bool) (e146 : Nat) (l147 : (List Int)) (b148 : Bool) (e149 : Nat) (l150 : (List Int)) (l151 : (List Nat)) (l152 : (List (List Nat))) (n153 : Int) : St := (St.mk (spread 0 267 [5, 7, 28, 30, 31, 32] [(.int .i64 n140), (.int .i64 n141), (.ptr 4 0), (.int .i64 n142), (.flt .f32 x143), (.int .i64 n144)]) [(.vec b145 e146 (.int .u8) l147), (.vec b148 e149 (.int .u8) l150), (.vec Bool.true 27 (.flt .f32) l151), (.vec Bool.true 25 (.slice (.flt .f32)) l152), (.cells 36 [(.int .i64 n153), (.whole 2), (.whole 3)])])

def laws_FnSamples_37_s (φ : Nat) : LoopS := fun st K => match sel 0 [5, 7, 28, 30, 31, 32] (norm 2 (hasN [5, 7, 28, 30, 31, 32]) st).t, (norm 2 (hasN [5, 7, 28, 30, 31, 32]) st).h with
  | [(.int .i64 n140), (.int .i64 n141), (.ptr 4 0), (.int .i64 n142), (.flt .f32 x143), (.int .i64 n144)], [(.vec b145 e146 (.int .u8) l147), (.vec b148 e149 (.int .u8) l150), (.vec Bool.true 27 (.flt .f32) l151), (.vec Bool.true 25 (.slice (.flt .f32)) l152), (.cells 36 [(.int .i64 n153), (.whole 2), (.whole 3)])] => bif normOk 2 (hasN [5, 7, 28, 30, 31, 32]) st && Nat.beq (norm 2 (hasN [5, 7, 28, 30, 31, 32]) st).t.length 267 then laws_FnSamples_37 φ n140 n141 n142 b145 e146 l147 b148 e149 l150 l151 l152 n153 φ x143 n144 (fun x161 n162 => K (.exit 6) (St.mk (spread 0 267 [5, 7, 28, 30, 31, 32] [(.int .i64 n140), (.int .i64 n141), (.ptr 4 0), (.int .i64 n142), (.flt .f32 x161), (.int .i64 n162)]) [(.vec b145 e146 (.int .u8) l147), (.vec b148 e149 (.int .u8) l150), (.vec Bool.true 27 (.flt .f32) l151), (.vec Bool.true 25 (.slice (.flt .f32)) l152), (.cells 36 [(.int .i64 n153), (.whole 2), (.whole 3)])])) else none
  | _, _ => none

def laws_FnSamples_33 {ρ : Type} (φ : Nat) (n128 : Int) (n129 : Int) (b131 : Bool) (e132 : Nat) (l133 : (List Int)) (b134 : Bool) (e135 : Nat) (l136 : (List Int)) (l137 : (List Nat)) (l138 : (List (List Nat))) (n139 : Int) : Nat → Int → (Int → Option ρ) → (Int → Option ρ) → Option ρ
  | 0, _, _, _ => none
  | n + 1, n130, k0, k1 =>
    bif (decide (n130 < (3 : Int))) then
      laws_FnSamples_37 φ n128 n129 n130 b131 e132 l133 b134 e135 l136 l137 l138 n139 φ (can .f32 0) (0 : Int)
        (fun e172 e173 =>
        bif (fne .f32 e172 (can .f32 1077936128)) then
          bif (fne .f32 e172 (can .f32 0)) then
            (k0 n130)
          else
            laws_FnSamples_33 φ n128 n129 b131 e132 l133 b134 e135 l136 l137 l138 n139 n (IntKind.wrap .i64 (n130 + (1 : Int))) k0 k1
        else
          laws_FnSamples_33 φ n128 n129 b131 e132 l133 b134 e135 l136 l137 l138 n139 n (IntKind.wrap .i64 (n130 + (1 : Int))) k0 k1)
    else
      (k1 n130)

def Lin_laws_FnSamples_33 (φ : Nat) : Nat → Option LoopS := insL 37 (laws_FnSamples_37_s φ) (noL)

def laws_FnSamples_33_st (n128 : Int) (n129 : Int) (n130 : Int) (b131 : Bool) (e132 : Nat) (l133 : (List Int)) (b134 : Bool) (e135 : Nat) (l136 : (List Int)) (l137 : (List Nat)) (l138 : (List (List Nat))) (n139 : Int) : St := (St.mk (spread 0 267 [5, 7, 28, 30] [(.int .i64 n128), (.int .i64 n129), (.ptr 4 0), (.int .i64 n130)]) [(.vec b131 e132 (.int .u8) l133), (.vec b134 e135 (.int .u8) l136), (.vec Bool.true 27 (.flt .f32) l137), (.vec Bool.true 25 (.slice (.flt .f32)) l138), (.cells 36 [(.int .i64 n139), (.whole 2), (.whole 3)])])

def laws_FnSamples_33_s (φ : Nat) : LoopS := fun st K => match sel 0 [4, 5, 7, 28, 30] (norm 2 (hasN [4, 5, 7, 28, 30]) st).t, (norm 2 (hasN [4, 5, 7, 28, 30]) st).h with
  | [.any, (.int .i64 n128), (.int .i64 n129), (.ptr 4 0), (.int .i64 n130)], [(.vec b131 e132 (.int .u8) l133), (.vec b134 e135 (.int .u8) l136), (.vec Bool.true 27 (.flt .f32) l137), (.vec Bool.true 25 (.slice (.flt .f32)) l138), (.cells 36 [(.int .i64 n139), (.whole 2), (.whole 3)])] => bif normOk 2 (hasN [4, 5, 7, 28, 30]) st && Nat.beq (norm 2 (hasN [4, 5, 7, 28, 30]) st).t.length 267 then laws_FnSamples_33 φ n128 n129 b131 e132 l133 b134 e135 l136 l137 l138 n139 φ n130 (fun n177 => K .ret (St.mk (spread 0 267 [4, 5, 7, 28, 30] [(.bool Bool.false), (.int .i64 n128), (.int .i64 n129), (.ptr 4 0), (.int .i64 n177)]) [(.vec b131 e132 (.int .u8) l133), (.vec b134 e135 (.int .u8) l136), (.vec Bool.true 27 (.flt .f32) l137), (.vec Bool.true 25 (.slice (.flt .f32)) l138), (.cells 36 [(.int .i64 n139), (.whole 2), (.whole 3)])])) (fun n189 => K (.exit 4) (St.mk (spread 0 267 [5, 7, 28, 30] [(.int .i64 n128), (.int .i64 n129), (.ptr 4 0), (.int .i64 n189)]) [(.vec b131 e132 (.int .u8) l133), (.vec b134 e135 (.int .u8) l136), (.vec Bool.true 27 (.flt .f32) l137), (.vec Bool.true 25 (.slice (.flt .f32)) l138), (.cells 36 [(.int .i64 n139), (.whole 2), (.whole 3)])])) else none
  | _, _ => none

def laws_FnSamples_c32 {ρ : Type} (φ : Nat) (n117 : Int) (n118 : Int) (b119 : Bool) (e120 : Nat) (l121 : (List Int)) (b122 : Bool) (e123 : Nat) (l124 : (List Int)) (l125 : (List Nat)) (l126 : (List (List Nat))) (n127 : Int) (k0 : Bool → Option ρ) : Option ρ :=
    laws_FnSamples_33 φ n117 n118 b119 e120 l121 b122 e123 l124 l125 l126 n127 φ (0 : Int)
      (fun e199 =>
      (k0 Bool.false))
      (fun e200 =>
      Option.bind (idx (0 : Int) (List.length l126)) fun r201 =>
      Option.bind (l126[r201]?) fun r202 =>
      Option.bind (idx n118 (List.length r202)) fun r203 =>
      Option.bind (r202[r203]?) fun r204 =>
      (k0 (feq .f32 r204 (can .f32 1077936128))))

def Lin_laws_FnSamples_c32 (φ : Nat) : Nat → Option LoopS := insL 33 (laws_FnSamples_33_s φ) (noL)

def laws_FnSamples_c32_st (n117 : Int) (n118 : Int) (b119 : Bool) (e120 : Nat) (l121 : (List Int)) (b122 : Bool) (e123 : Nat) (l124 : (List Int)) (l125 : (List Nat)) (l126 : (List (List Nat))) (n127 : Int) : St := (St.mk (spread 0 267 [5, 7, 28] [(.int .i64 n117), (.int .i64 n118), (.ptr 4 0)]) [(.vec b119 e120 (.int .u8) l121), (.vec b122 e123 (.int .u8) l124), (.vec Bool.true 27 (.flt .f32) l125), (.vec Bool.true 25 (.slice (.flt .f32)) l126), (.cells 36 [(.int .i64 n127), (.whole 2), (.whole 3)])])

def laws_FnSamples_c32_s (φ : Nat) : LoopS := fun st K => match sel 0 [4, 5, 7, 28] (norm 2 (hasN [4, 5, 7, 28]) st).t, (norm 2 (hasN [4, 5, 7, 28]) st).h with
  | [.any, (.int .i64 n117), (.int .i64 n118), (.ptr 4 0)], [(.vec b119 e120 (.int .u8) l121), (.vec b122 e123 (.int .u8) l124), (.vec Bool.true 27 (.flt .f32) l125), (.vec Bool.true 25 (.slice (.flt .f32)) l126), (.cells 36 [(.int .i64 n127), (.whole 2), (.whole 3)])] => bif normOk 2 (hasN [4, 5, 7, 28]) st && Nat.beq (norm 2 (hasN [4, 5, 7, 28]) st).t.length 267 then laws_FnSamples_c32 φ n117 n118 b119 e120 l121 b122 e123 l124 l125 l126 n127 (fun b205 => K .ret (St.mk (spread 0 267 [4, 5, 7, 28] [(.bool b205), (.int .i64 n117), (.int .i64 n118), (.ptr 4 0)]) [(.vec b119 e120 (.int .u8) l121), (.vec b122 e123 (.int .u8) l124), (.vec Bool.true 27 (.flt .f32) l125), (.vec Bool.true 25 (.slice (.flt .f32)) l126), (.cells 36 [(.int .i64 n127), (.whole 2), (.whole 3)])])) else none
  | _, _ => none

def laws_FnSamples_c23 {ρ : Type} (φ : Nat) (n60 : Int) (n61 : Int) (x62 : Nat) (b63 : Bool) (e64 : Nat) (l65 : (List Int)) (b66 : Bool) (e67 : Nat) (l68 : (List Int)) (l69 : (List Nat)) (l70 : (List Nat)) (k0 : Option ρ) (k1 : Bool → Option ρ) : Option ρ :=
    laws_FnSamples_24 φ n60 n61 x62 b63 e64 l65 b66 e67 l68 l69 l70 φ (0 : Int)
      (fun e112 =>
      (k0 ))
      (fun e113 =>
      Option.bind (impl_FlatGather φ n60 Bool.true 27 [(can .f32 0), (can .f32 1065353216), x62] some) fun r114 =>
      Option.bind (impl_AddEvent φ r114.1 (itof .f32 n61) (can .f32 1065353216) (can .f32 1077936128) Bool.true 27 r114.2.2.1 Bool.true 25 r114.2.2.2 some) fun r115 =>
      bif (!r114.2.1) then
        (k0 )
      else
        bif (!r115.2.1) then
          (k0 )
        else
          Option.bind (impl_ValidGather φ r115.1 Bool.true 27 r115.2.2.1 Bool.true 25 r115.2.2.2 some) fun r116 =>
          bif (!r116) then
            (k0 )
          else
            bif ((((List.length r115.2.2.2) : Nat) : Int) != (3 : Int)) then
              (k0 )
            else
              laws_FnSamples_c32 φ n60 n61 b63 e64 l65 b66 e67 l68 r115.2.2.1 r115.2.2.2 r115.1
                (fun e217 =>
                (k1 e217)))

def Lin_laws_FnSamples_c23 (φ : Nat) : Nat → Option LoopS := insL 24 (laws_FnSamples_24_s φ) (insL (cut 32) (laws_FnSamples_c32_s φ) (noL))

def laws_FnSamples_c23_st (n60 : Int) (n61 : Int) (x62 : Nat) (b63 : Bool) (e64 : Nat) (l65 : (List Int)) (b66 : Bool) (e67 : Nat) (l68 : (List Int)) (l69 : (List Nat)) (l70 : (List Nat)) : St := (St.mk (spread 0 267 [5, 7, 20, 21, 23] [(.int .i64 n60), (.int .i64 n61), (.flt .f32 x62), (.whole 2), (.whole 3)]) [(.vec b63 e64 (.int .u8) l65), (.vec b66 e67 (.int .u8) l68), (.vec Bool.true 27 (.flt .f32) l69), (.vec Bool.true 27 (.flt .f32) l70)])

def laws_FnSamples_c23_s (φ : Nat) : LoopS := fun st K => match sel 0 [4, 5, 7, 20, 21, 23] (norm 2 (hasN [4, 5, 7, 20, 21, 23]) st).t, (norm 2 (hasN [4, 5, 7, 20, 21, 23]) st).h with
  | [.any, (.int .i64 n60), (.int .i64 n61), (.flt .f32 x62), (.whole 2), (.whole 3)], [(.vec b63 e64 (.int .u8) l65), (.vec b66 e67 (.int .u8) l68), (.vec Bool.true 27 (.flt .f32) l69), (.vec Bool.true 27 (.flt .f32) l70)] => bif normOk 2 (hasN [4, 5, 7, 20, 21, 23]) st && Nat.beq (norm 2 (hasN [4, 5, 7, 20, 21, 23]) st).t.length 267 then laws_FnSamples_c23 φ n60 n61 x62 b63 e64 l65 b66 e67 l68 l69 l70 (K .ret (St.mk (spread 0 267 [4, 5, 7, 20, 21, 23] [(.bool Bool.false), (.int .i64 n60), (.int .i64 n61), (.flt .f32 x62), (.whole 2), (.whole 3)]) [(.vec b63 e64 (.int .u8) l65), (.vec b66 e67 (.int .u8) l68), (.vec Bool.true 27 (.flt .f32) l69), (.vec Bool.true 27 (.flt .f32) l70)])) (fun b230 => K .ret (St.mk (spread 0 267 [4, 5, 7] [(.bool b230), (.int .i64 n60), (.int .i64 n61)]) [(.vec b63 e64 (.int .u8) l65), (.vec b66 e67 (.int .u8) l68)])) else none
  | _, _ => none

def laws_FnSamples_c13 {ρ : Type} (φ : Nat) (b20 : Bool) (n21 : Int) (n22 : Int) (b23 : Bool) (e24 : Nat) (l25 : (List Int)) (b26 : Bool) (e27 : Nat) (l28 : (List Int)) (l29 : (List Nat)) (k0 : Option ρ) (k1 : Bool → Option ρ) : Option ρ :=
    laws_FnSamples_15 φ n21 n22 b23 e24 l25 b26 e27 l28 l29 φ (0 : Int) []
      (fun e55 e56 =>
      Option.bind (laws_r8At φ (2 : Int) (12 : Int) b26 e27 l28 some) fun r57 =>
      Option.bind (impl_CorrectTrace φ (fdiv .f32 (itof .f32 r57) (can .f32 1073741824)) (can .f32 1069547520) Bool.true 27 l29 some) fun r58 =>
      Option.bind (impl_CorrectTrace φ (fdiv .f32 (itof .f32 r57) (can .f32 1073741824)) (can .f32 1069547520) Bool.true 27 e56 some) fun r59 =>
      bif (!r58.1) then
        (k0 )
      else
        bif (!r59.1) then
          (k0 )
        else
          bif ((((List.length r58.2) : Nat) : Int) != n21) then
            (k0 )
          else
            bif ((((List.length r59.2) : Nat) : Int) != n21) then
              (k0 )
            else
              laws_FnSamples_c23 φ n21 n22 (fdiv .f32 (itof .f32 r57) (can .f32 1073741824)) b23 e24 l25 b26 e27 l28 r58.2 r59.2
                (
                (k1 Bool.false))
                (fun e239 =>
                (k1 e239)))

def Lin_laws_FnSamples_c13 (φ : Nat) : Nat → Option LoopS := insL 15 (laws_FnSamples_15_s φ) (insL (cut 23) (laws_FnSamples_c23_s φ) (noL))

def laws_FnSamples_c13_st (b20 : Bool) (n21 : Int) (n22 : Int) (b23 : Bool) (e24 : Nat) (l25 : (List Int)) (b26 : Bool) (e27 : Nat) (l28 : (List Int)) (l29 : (List Nat)) : St := (St.mk (spread 0 267 [1, 4, 5, 6, 7] [(.whole 1), (.bool b20), (.int .i64 n21), (.whole 2), (.int .i64 n22)]) [(.vec b23 e24 (.int .u8) l25), (.vec b26 e27 (.int .u8) l28), (.vec Bool.true 27 (.flt .f32) l29)])

def laws_FnSamples_c13_s (φ : Nat) : LoopS := fun st K => match sel 0 [1, 4, 5, 6, 7] (norm 2 (hasN [1, 4, 5, 6, 7]) st).t, (norm 2 (hasN [1, 4, 5, 6, 7]) st).h with
  | [(.whole 1), (.bool b20), (.int .i64 n21), (.whole 2), (.int .i64 n22)], [(.vec b23 e24 (.int .u8) l25), (.vec b26 e27 (.int .u8) l28), (.vec Bool.true 27 (.flt .f32) l29)] => bif normOk 2 (hasN [1, 4, 5, 6, 7]) st && Nat.beq (norm 2 (hasN [1, 4, 5, 6, 7]) st).t.length 267 then laws_FnSamples_c13 φ b20 n21 n22 b23 e24 l25 b26 e27 l28 l29 (K .ret (St.mk (spread 0 267 [1, 4, 5, 6, 7] [(.whole 1), (.bool Bool.false), (.int .i64 n21), (.whole 2), (.int .i64 n22)]) [(.vec b23 e24 (.int .u8) l25), (.vec b26 e27 (.int .u8) l28), (.vec Bool.true 27 (.flt .f32) l29)])) (fun b250 => K .ret (St.mk (spread 0 267 [4, 5, 7] [(.bool b250), (.int .i64 n21), (.int .i64 n22)]) [(.vec b23 e24 (.int .u8) l25), (.vec b26 e27 (.int .u8) l28)])) else none
  | _, _ => none

def laws_FnSamples {ρ : Type} (φ : Nat) (b4 : Bool) (e5 : Nat) (l6 : (List Int)) (b7 : Bool) (e8 : Nat) (l9 : (List Int)) (k : Bool → Option ρ) : Option ρ :=
  Option.bind (laws_r8Long φ b4 e5 l6 b7 e8 l9 some) fun r0 =>
  bif r0 then
    k Bool.true
  else
    Option.bind (laws_r8At φ (0 : Int) (10 : Int) b7 e8 l9 some) fun r1 =>
    Option.bind (spec_R8List φ (IntKind.wrap .i64 ((2 : Int) + r1)) b4 e5 l6 some) fun r2 =>
    Option.bind (laws_r8At φ (1 : Int) (IntKind.wrap .i64 ((IntKind.wrap .i64 ((2 : Int) + r1)) - (1 : Int))) b7 e8 l9 some) fun r3 =>
    Option.bind (impl_SampleBetween φ (itof .f32 r3) Bool.true 27 r2 some) fun r4 =>
    Option.bind (impl_SampleBetween φ (fadd .f32 (itof .f32 r3) (can .f32 1056964608)) Bool.true 27 r2 some) fun r5 =>
    Option.bind (impl_CorrectTrace φ (can .f32 0) (can .f32 1065353216) Bool.true 27 r2 some) fun r6 =>
    Option.bind (impl_BendTrace φ (can .f32 0) (can .f32 1065353216) Bool.true 27 r2 some) fun r7 =>
    Option.bind (impl_MoveTrace φ (can .f32 0) Bool.true 27 r2 some) fun r8 =>
    bif (!r4.2) then
      k Bool.false
    else
      bif (!r5.2) then
        k Bool.false
      else
        bif (!r6.1) then
          k Bool.false
        else
          bif (!r7.1) then
            k Bool.false
          else
            bif (!r8.1) then
              k Bool.false
            else
              Option.bind (idx r3 (List.length r2)) fun r9 =>
              Option.bind (r2[r9]?) fun r10 =>
              bif (fne .f32 r4.1 r10) then
                k Bool.false
              else
                Option.bind (idx r3 (List.length r2)) fun r11 =>
                Option.bind (r2[r11]?) fun r12 =>
                Option.bind (idx (IntKind.wrap .i64 (r3 + (1 : Int))) (List.length r2)) fun r13 =>
                Option.bind (r2[r13]?) fun r14 =>
                Option.bind (idx r3 (List.length r2)) fun r15 =>
                Option.bind (r2[r15]?) fun r16 =>
                bif (fne .f32 r5.1 (fadd .f32 r12 (fmul .f32 (can .f32 1056964608) (fsub .f32 r14 r16)))) then
                  k Bool.false
                else
                  Option.bind (laws_r8Equal φ Bool.true 27 r6.2 Bool.true 27 r2 some) fun r17 =>
                  bif (!r17) then
                    k Bool.false
                  else
                    Option.bind (laws_r8Equal φ Bool.true 27 r7.2 Bool.true 27 r2 some) fun r18 =>
                    bif (!r18) then
                      k Bool.false
                    else
                      Option.bind (laws_r8Equal φ Bool.true 27 r8.2 Bool.true 27 r2 some) fun r19 =>
                      bif (!r19) then
                        k Bool.false
                      else
                        laws_FnSamples_c13 φ Bool.false (IntKind.wrap .i64 ((2 : Int) + r1)) r3 b4 e5 l6 b7 e8 l9 r2
                          (
                          k Bool.false)
                          (fun e259 =>
                          k e259)

def laws_FnSamples_val (r : Bool) : AV := (.bool r)

def laws_FnSamples_L (φ : Nat) : Nat → Option LoopS := insL (cut 13) (laws_FnSamples_c13_s φ) (noL)

def S_laws_FnSamples (φ : Nat) : List AV → List Blk → Option Bool
  | [(.whole 0), (.whole 1)], [(.vec b4 e5 (.int .u8) l6), (.vec b7 e8 (.int .u8) l9)] => laws_FnSamples φ b4 e5 l6 b7 e8 l9 some
  | _, _ => none

def c_laws_FnSamples : List AV → List Blk → Bool
  | [(.whole 0), (.whole 1)], [(.vec b4 e5 (.int .u8) l6), (.vec b7 e8 (.int .u8) l9)] => true
  | _, _ => false

def A_laws_FnSamples (φ : Nat) : Sum := .rd (S_laws_FnSamples φ) laws_FnSamples_val

def F_45 (φ : Nat) : FuncId → Option Sum := ins 3 (A_laws_FnSamples φ) (F_44 φ)


end
end Go.Proofs.Ytcddghcjllgbiaa

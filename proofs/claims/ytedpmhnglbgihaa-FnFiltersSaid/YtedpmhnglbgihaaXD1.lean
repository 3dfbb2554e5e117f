/-
  What functions of the program do, as plain functions.
-/
import Derived.Test.YtedpmhnglbgihaaW0
set_option linter.all false
set_option maxRecDepth 100000
set_option maxHeartbeats 4000000
namespace Go.Proofs.Ytedpmhnglbgihaa
open Go.Ev
noncomputable section

/-! ### laws_b10Long -/
def laws_b10Long {ρ : Type} (φ : Nat) (b4 : Bool) (e5 : Nat) (l6 : (List Int)) (b7 : Bool) (e8 : Nat) (l9 : (List Int)) (k : Bool → Option ρ) : Option ρ :=
  bif (decide ((((List.length l6) : Nat) : Int) > (1048576 : Int))) then
    k Bool.true
  else
    k (decide ((((List.length l9) : Nat) : Int) > (1048576 : Int)))

def laws_b10Long_val (r : Bool) : AV := (.bool r)

def laws_b10Long_L (φ : Nat) : Nat → Option LoopS := noL

def S_laws_b10Long (φ : Nat) : List AV → List Blk → Option Bool
  | [(.whole 0), (.whole 1)], [(.vec b4 e5 (.int .u8) l6), (.vec b7 e8 (.int .u8) l9)] => laws_b10Long φ b4 e5 l6 b7 e8 l9 some
  | _, _ => none

def c_laws_b10Long : List AV → List Blk → Bool
  | [(.whole 0), (.whole 1)], [(.vec b4 e5 (.int .u8) l6), (.vec b7 e8 (.int .u8) l9)] => true
  | _, _ => false

def A_laws_b10Long (φ : Nat) : Sum := .rd (S_laws_b10Long φ) laws_b10Long_val

def F_1 (φ : Nat) : FuncId → Option Sum := ins 4 (A_laws_b10Long φ) (F_0 φ)


/-! ### laws_b10At -/
def laws_b10At {ρ : Type} (φ : Nat) (n2 : Int) (n3 : Int) (b4 : Bool) (e5 : Nat) (l6 : (List Int)) (k : Int → Option ρ) : Option ρ :=
  bif (decide (n3 ≤ (1 : Int))) then
    k (0 : Int)
  else
    bif (decide (n2 < (((List.length l6) : Nat) : Int))) then
      Option.bind (idx n2 (List.length l6)) fun r0 =>
      Option.bind (l6[r0]?) fun r1 =>
      Option.bind (nonzero n3) fun r2 =>
      k (Int.tmod (IntKind.wrap .i64 r1) n3)
    else
      Option.bind (nonzero n3) fun r3 =>
      k (Int.tmod (IntKind.wrap .i64 ((IntKind.wrap .i64 (n2 * (37 : Int))) + (11 : Int))) n3)

def laws_b10At_val (r : Int) : AV := (.int .i64 r)

def laws_b10At_L (φ : Nat) : Nat → Option LoopS := noL

def S_laws_b10At (φ : Nat) : List AV → List Blk → Option Int
  | [(.whole 0), (.int .i64 n2), (.int .i64 n3)], [(.vec b4 e5 (.int .u8) l6)] => laws_b10At φ n2 n3 b4 e5 l6 some
  | _, _ => none

def c_laws_b10At : List AV → List Blk → Bool
  | [(.whole 0), (.int .i64 n2), (.int .i64 n3)], [(.vec b4 e5 (.int .u8) l6)] => true
  | _, _ => false

def A_laws_b10At (φ : Nat) : Sum := .rd (S_laws_b10At φ) laws_b10At_val

def F_2 (φ : Nat) : FuncId → Option Sum := ins 5 (A_laws_b10At φ) (F_1 φ)


/-! ### spec_l00From -/
def spec_l00From {ρ : Type} (φ : Nat) (b2 : Bool) (e3 : Nat) (l4 : (List Int)) (k : (Int × Int) → Option ρ) : Option ρ :=
  k ((0 : Int), (0 : Int))

def spec_l00From_val (r : (Int × Int)) : AV × List Blk := ((.ptr 1 0), [(.cells 56 [(.whole 0), (.int .i64 r.1), (.int .u64 r.2)])])

def spec_l00From_L (φ : Nat) : Nat → Option LoopS := noL

def S_spec_l00From (φ : Nat) : List AV → List Blk → Option (Int × Int)
  | [(.whole 0)], [(.vec b2 e3 (.int .u8) l4)] => spec_l00From φ b2 e3 l4 some
  | _, _ => none

def c_spec_l00From : List AV → List Blk → Bool
  | [(.whole 0)], [(.vec b2 e3 (.int .u8) l4)] => true
  | _, _ => false

def A_spec_l00From (φ : Nat) : Sum := .mk (S_spec_l00From φ) spec_l00From_val

def F_3 (φ : Nat) : FuncId → Option Sum := ins 20 (A_spec_l00From φ) (F_2 φ)


/-! ### spec_l00Src_next -/
def spec_l00Src_next_c4 {ρ : Type} (φ : Nat) (n2 : Int) (n3 : Int) (n4 : Int) (n5 : Int) (b6 : Bool) (e7 : Nat) (l8 : (List Int)) (k0 : Int → Int → Int → Option ρ) : Option ρ :=
    bif (decide ((IntKind.wrap .i64 (n4 + (1 : Int))) ≤ (((List.length l8) : Nat) : Int))) then
      (k0 n3 (IntKind.wrap .i64 (n4 + (1 : Int))) (IntKind.wrap .u64 ((IntKind.wrap .u64 ((IntKind.wrap .u64 (n5 * (6364136223846793005 : Int))) + (IntKind.wrap .u64 n3))) + (1442695040888963407 : Int))))
    else
      Option.bind (nonneg (40 : Int)) fun r9 =>
      (k0 (IntKind.wrap .i64 (bits BinOp.and .u64 (Int.fdiv (IntKind.wrap .u64 ((IntKind.wrap .u64 ((IntKind.wrap .u64 (n5 * (6364136223846793005 : Int))) + (IntKind.wrap .u64 n3))) + (1442695040888963407 : Int))) ((2 : Int) ^ (Min.min r9 (IntKind.bits .u64)))) (255 : Int))) (IntKind.wrap .i64 (n4 + (1 : Int))) (IntKind.wrap .u64 ((IntKind.wrap .u64 ((IntKind.wrap .u64 (n5 * (6364136223846793005 : Int))) + (IntKind.wrap .u64 n3))) + (1442695040888963407 : Int))))

def Lin_spec_l00Src_next_c4 (φ : Nat) : Nat → Option LoopS := noL

def spec_l00Src_next_c4_st (n2 : Int) (n3 : Int) (n4 : Int) (n5 : Int) (b6 : Bool) (e7 : Nat) (l8 : (List Int)) : St := (St.mk (spread 0 62 [0, 2, 3] [(.ptr 0 0), (.int .i64 n2), (.int .i64 n3)]) [(.cells 56 [(.whole 1), (.int .i64 n4), (.int .u64 n5)]), (.vec b6 e7 (.int .u8) l8)])

def spec_l00Src_next_c4_s (φ : Nat) : LoopS := fun st K => match sel 0 [0, 2, 3] (norm 2 (hasN [0, 2, 3]) st).t, (norm 2 (hasN [0, 2, 3]) st).h with
  | [(.ptr 0 0), (.int .i64 n2), (.int .i64 n3)], [(.cells 56 [(.whole 1), (.int .i64 n4), (.int .u64 n5)]), (.vec b6 e7 (.int .u8) l8)] => bif normOk 2 (hasN [0, 2, 3]) st && Nat.beq (norm 2 (hasN [0, 2, 3]) st).t.length 62 then spec_l00Src_next_c4 φ n2 n3 n4 n5 b6 e7 l8 (fun n10 n12 n13 => K .ret (St.mk (spread 0 62 [0, 2, 3] [(.ptr 0 0), (.int .i64 n10), (.int .i64 n3)]) [(.cells 56 [(.whole 1), (.int .i64 n12), (.int .u64 n13)]), (.vec b6 e7 (.int .u8) l8)])) else none
  | _, _ => none

def spec_l00Src_next {ρ : Type} (φ : Nat) (n2 : Int) (n3 : Int) (b4 : Bool) (e5 : Nat) (l6 : (List Int)) (k : (Int × Int × Int) → Option ρ) : Option ρ :=
  bif (decide (n2 < (((List.length l6) : Nat) : Int))) then
    Option.bind (idx n2 (List.length l6)) fun r0 =>
    Option.bind (l6[r0]?) fun r1 =>
    spec_l00Src_next_c4 φ (0 : Int) (IntKind.wrap .i64 r1) n2 n3 b4 e5 l6
      (fun e17 e18 e19 =>
      k (e17, e18, e19))
  else
    spec_l00Src_next_c4 φ (0 : Int) (0 : Int) n2 n3 b4 e5 l6
      (fun e20 e21 e22 =>
      k (e20, e21, e22))

def spec_l00Src_next_val : List AV → List Blk → (Int × Int × Int) → AV × List Blk
  | [(.ptr 0 0)], [(.cells 56 [(.whole 1), (.int .i64 n2), (.int .u64 n3)]), (.vec b4 e5 (.int .u8) l6)], r => ((.int .i64 r.1), [(.cells 56 [(.whole 1), (.int .i64 r.2.1), (.int .u64 r.2.2)]), (.vec b4 e5 (.int .u8) l6)])
  | _, _, _ => (.any, [])

def spec_l00Src_next_L (φ : Nat) : Nat → Option LoopS := insL (cut 4) (spec_l00Src_next_c4_s φ) (noL)

def S_spec_l00Src_next (φ : Nat) : List AV → List Blk → Option (Int × Int × Int)
  | [(.ptr 0 0)], [(.cells 56 [(.whole 1), (.int .i64 n2), (.int .u64 n3)]), (.vec b4 e5 (.int .u8) l6)] => spec_l00Src_next φ n2 n3 b4 e5 l6 some
  | _, _ => none

def c_spec_l00Src_next : List AV → List Blk → Bool
  | [(.ptr 0 0)], [(.cells 56 [(.whole 1), (.int .i64 n2), (.int .u64 n3)]), (.vec b4 e5 (.int .u8) l6)] => true
  | _, _ => false

def A_spec_l00Src_next (φ : Nat) : Sum := .wr (S_spec_l00Src_next φ) spec_l00Src_next_val

def F_4 (φ : Nat) : FuncId → Option Sum := ins 36 (A_spec_l00Src_next φ) (F_3 φ)


/-! ### spec_l00Src_pick -/
def spec_l00Src_pick {ρ : Type} (φ : Nat) (n2 : Int) (n3 : Int) (n4 : Int) (b5 : Bool) (e6 : Nat) (l7 : (List Int)) (k : (Int × Int × Int) → Option ρ) : Option ρ :=
  bif (decide (n2 ≤ (1 : Int))) then
    k ((0 : Int), n3, n4)
  else
    Option.bind (spec_l00Src_next φ n3 n4 b5 e6 l7 some) fun r0 =>
    bif (decide (n2 > (200 : Int))) then
      Option.bind (spec_l00Src_next φ r0.2.1 r0.2.2 b5 e6 l7 some) fun r1 =>
      Option.bind (nonzero n2) fun r2 =>
      k ((Int.tmod (IntKind.wrap .i64 ((IntKind.wrap .i64 (r0.1 * (256 : Int))) + r1.1)) n2), r1.2.1, r1.2.2)
    else
      Option.bind (nonzero n2) fun r3 =>
      k ((Int.tmod r0.1 n2), r0.2.1, r0.2.2)

def spec_l00Src_pick_val : List AV → List Blk → (Int × Int × Int) → AV × List Blk
  | [(.ptr 0 0), (.int .i64 n2)], [(.cells 56 [(.whole 1), (.int .i64 n3), (.int .u64 n4)]), (.vec b5 e6 (.int .u8) l7)], r => ((.int .i64 r.1), [(.cells 56 [(.whole 1), (.int .i64 r.2.1), (.int .u64 r.2.2)]), (.vec b5 e6 (.int .u8) l7)])
  | _, _, _ => (.any, [])

def spec_l00Src_pick_L (φ : Nat) : Nat → Option LoopS := noL

def S_spec_l00Src_pick (φ : Nat) : List AV → List Blk → Option (Int × Int × Int)
  | [(.ptr 0 0), (.int .i64 n2)], [(.cells 56 [(.whole 1), (.int .i64 n3), (.int .u64 n4)]), (.vec b5 e6 (.int .u8) l7)] => spec_l00Src_pick φ n2 n3 n4 b5 e6 l7 some
  | _, _ => none

def c_spec_l00Src_pick : List AV → List Blk → Bool
  | [(.ptr 0 0), (.int .i64 n2)], [(.cells 56 [(.whole 1), (.int .i64 n3), (.int .u64 n4)]), (.vec b5 e6 (.int .u8) l7)] => true
  | _, _ => false

def A_spec_l00Src_pick (φ : Nat) : Sum := .wr (S_spec_l00Src_pick φ) spec_l00Src_pick_val

def F_5 (φ : Nat) : FuncId → Option Sum := ins 21 (A_spec_l00Src_pick φ) (F_4 φ)


/-! ### spec_B10Trace -/
def spec_B10Trace_3 {ρ : Type} (φ : Nat) (b2 : Bool) (e3 : Nat) (l4 : (List Int)) : Nat → Int → Int → Int → (List Nat) → (Int → Int → Int → (List Nat) → Option ρ) → Option ρ
  | 0, _, _, _, _, _ => none
  | n + 1, n1, n5, n6, l7, k0 =>
    bif (decide (n1 > (0 : Int))) then
      Option.bind (spec_l00Src_pick φ (17 : Int) n5 n6 b2 e3 l4 some) fun r8 =>
      Option.bind (room ((Nat.add (List.length l7) 0) + 1) 4) fun r9 =>
      spec_B10Trace_3 φ b2 e3 l4 n (IntKind.wrap .i64 (n1 - (1 : Int))) r8.2.1 r8.2.2 (l7 ++ [(fdiv .f32 (itof .f32 (IntKind.wrap .i64 (r8.1 - (8 : Int)))) (can .f32 1082130432))]) k0
    else
      (k0 n1 n5 n6 l7)

def Lin_spec_B10Trace_3 (φ : Nat) : Nat → Option LoopS := noL

def spec_B10Trace_3_st (n1 : Int) (b2 : Bool) (e3 : Nat) (l4 : (List Int)) (n5 : Int) (n6 : Int) (l7 : (List Nat)) : St := (St.mk (spread 0 23 [1, 5, 6] [(.int .i64 n1), (.ptr 1 0), (.whole 2)]) [(.vec b2 e3 (.int .u8) l4), (.cells 56 [(.whole 0), (.int .i64 n5), (.int .u64 n6)]), (.vec Bool.true 34 (.flt .f32) l7)])

def spec_B10Trace_3_s (φ : Nat) : LoopS := fun st K => match sel 0 [1, 5, 6] (norm 1 (hasN [1, 5, 6]) st).t, (norm 1 (hasN [1, 5, 6]) st).h with
  | [(.int .i64 n1), (.ptr 1 0), (.whole 2)], [(.vec b2 e3 (.int .u8) l4), (.cells 56 [(.whole 0), (.int .i64 n5), (.int .u64 n6)]), (.vec Bool.true 34 (.flt .f32) l7)] => bif normOk 1 (hasN [1, 5, 6]) st && Nat.beq (norm 1 (hasN [1, 5, 6]) st).t.length 23 then spec_B10Trace_3 φ b2 e3 l4 φ n1 n5 n6 l7 (fun n10 n14 n15 l16 => K (.exit 0) (St.mk (spread 0 23 [1, 5, 6] [(.int .i64 n10), (.ptr 1 0), (.whole 2)]) [(.vec b2 e3 (.int .u8) l4), (.cells 56 [(.whole 0), (.int .i64 n14), (.int .u64 n15)]), (.vec Bool.true 34 (.flt .f32) l16)])) else none
  | _, _ => none

def spec_B10Trace {ρ : Type} (φ : Nat) (n2 : Int) (b3 : Bool) (e4 : Nat) (l5 : (List Int)) (k : (List Nat) → Option ρ) : Option ρ :=
  Option.bind (spec_l00From φ b3 e4 l5 some) fun r0 =>
  spec_B10Trace_3 φ b3 e4 l5 φ n2 r0.1 r0.2 []
    (fun e17 e18 e19 e20 =>
    k e20)

def spec_B10Trace_val (r : (List Nat)) : AV × List Blk := ((.whole 1), [(.vec Bool.true 34 (.flt .f32) r)])

def spec_B10Trace_L (φ : Nat) : Nat → Option LoopS := insL 3 (spec_B10Trace_3_s φ) (noL)

def S_spec_B10Trace (φ : Nat) : List AV → List Blk → Option (List Nat)
  | [(.whole 0), (.int .i64 n2)], [(.vec b3 e4 (.int .u8) l5)] => spec_B10Trace φ n2 b3 e4 l5 some
  | _, _ => none

def c_spec_B10Trace : List AV → List Blk → Bool
  | [(.whole 0), (.int .i64 n2)], [(.vec b3 e4 (.int .u8) l5)] => true
  | _, _ => false

def A_spec_B10Trace (φ : Nat) : Sum := .mk (S_spec_B10Trace φ) spec_B10Trace_val

def F_6 (φ : Nat) : FuncId → Option Sum := ins 6 (A_spec_B10Trace φ) (F_5 φ)


/-! ### impl_length_float32 -/
def impl_length_float32 {ρ : Type} (φ : Nat) (b2 : Bool) (e3 : Nat) (l4 : (List Nat)) (k : Int → Option ρ) : Option ρ :=
  k (((List.length l4) : Nat) : Int)

def impl_length_float32_val (r : Int) : AV := (.int .i64 r)

def impl_length_float32_L (φ : Nat) : Nat → Option LoopS := noL

def S_impl_length_float32 (φ : Nat) : List AV → List Blk → Option Int
  | [(.whole 0)], [(.vec b2 e3 (.flt .f32) l4)] => impl_length_float32 φ b2 e3 l4 some
  | _, _ => none

def c_impl_length_float32 : List AV → List Blk → Bool
  | [(.whole 0)], [(.vec b2 e3 (.flt .f32) l4)] => true
  | _, _ => false

def A_impl_length_float32 (φ : Nat) : Sum := .rd (S_impl_length_float32 φ) impl_length_float32_val

def F_7 (φ : Nat) : FuncId → Option Sum := ins 33 (A_impl_length_float32 φ) (F_6 φ)


/-! ### impl_within -/
def impl_within {ρ : Type} (φ : Nat) (n0 : Int) (n1 : Int) (n2 : Int) (k : Bool → Option ρ) : Option ρ :=
  bif (decide (n1 ≤ n0)) then
    k (decide (n0 ≤ n2))
  else
    k Bool.false

def impl_within_val (r : Bool) : AV := (.bool r)

def impl_within_L (φ : Nat) : Nat → Option LoopS := noL

def S_impl_within (φ : Nat) : List AV → List Blk → Option Bool
  | [(.int .i64 n0), (.int .i64 n1), (.int .i64 n2)], [] => impl_within φ n0 n1 n2 some
  | _, _ => none

def c_impl_within : List AV → List Blk → Bool
  | [(.int .i64 n0), (.int .i64 n1), (.int .i64 n2)], [] => true
  | _, _ => false

def A_impl_within (φ : Nat) : Sum := .rd (S_impl_within φ) impl_within_val

def F_8 (φ : Nat) : FuncId → Option Sum := ins 32 (A_impl_within φ) (F_7 φ)


/-! ### impl_isCount -/
def impl_isCount {ρ : Type} (φ : Nat) (n0 : Int) (k : Bool → Option ρ) : Option ρ :=
  Option.bind (impl_within φ n0 (1 : Int) (128 : Int) some) fun r0 =>
  k r0

def impl_isCount_val (r : Bool) : AV := (.bool r)

def impl_isCount_L (φ : Nat) : Nat → Option LoopS := noL

def S_impl_isCount (φ : Nat) : List AV → List Blk → Option Bool
  | [(.int .i64 n0)], [] => impl_isCount φ n0 some
  | _, _ => none

def c_impl_isCount : List AV → List Blk → Bool
  | [(.int .i64 n0)], [] => true
  | _, _ => false

def A_impl_isCount (φ : Nat) : Sum := .rd (S_impl_isCount φ) impl_isCount_val

def F_9 (φ : Nat) : FuncId → Option Sum := ins 37 (A_impl_isCount φ) (F_8 φ)


/-! ### impl_IsTrace -/
def impl_IsTrace {ρ : Type} (φ : Nat) (b2 : Bool) (e3 : Nat) (l4 : (List Nat)) (k : Bool → Option ρ) : Option ρ :=
  Option.bind (impl_length_float32 φ b2 e3 l4 some) fun r0 =>
  Option.bind (impl_isCount φ r0 some) fun r1 =>
  k r1

def impl_IsTrace_val (r : Bool) : AV := (.bool r)

def impl_IsTrace_L (φ : Nat) : Nat → Option LoopS := noL

def S_impl_IsTrace (φ : Nat) : List AV → List Blk → Option Bool
  | [(.whole 0)], [(.vec b2 e3 (.flt .f32) l4)] => impl_IsTrace φ b2 e3 l4 some
  | _, _ => none

def c_impl_IsTrace : List AV → List Blk → Bool
  | [(.whole 0)], [(.vec b2 e3 (.flt .f32) l4)] => true
  | _, _ => false

def A_impl_IsTrace (φ : Nat) : Sum := .rd (S_impl_IsTrace φ) impl_IsTrace_val

def F_10 (φ : Nat) : FuncId → Option Sum := ins 27 (A_impl_IsTrace φ) (F_9 φ)


/-! ### impl_isSmooth -/
def impl_isSmooth {ρ : Type} (φ : Nat) (n2 : Int) (b3 : Bool) (e4 : Nat) (l5 : (List Nat)) (k : Bool → Option ρ) : Option ρ :=
  Option.bind (impl_IsTrace φ b3 e4 l5 some) fun r0 =>
  bif r0 then
    Option.bind (impl_within φ n2 (0 : Int) (16 : Int) some) fun r1 =>
    k r1
  else
    k Bool.false

def impl_isSmooth_val (r : Bool) : AV := (.bool r)

def impl_isSmooth_L (φ : Nat) : Nat → Option LoopS := noL

def S_impl_isSmooth (φ : Nat) : List AV → List Blk → Option Bool
  | [(.whole 0), (.int .i64 n2)], [(.vec b3 e4 (.flt .f32) l5)] => impl_isSmooth φ n2 b3 e4 l5 some
  | _, _ => none

def c_impl_isSmooth : List AV → List Blk → Bool
  | [(.whole 0), (.int .i64 n2)], [(.vec b3 e4 (.flt .f32) l5)] => true
  | _, _ => false

def A_impl_isSmooth (φ : Nat) : Sum := .rd (S_impl_isSmooth φ) impl_isSmooth_val

def F_11 (φ : Nat) : FuncId → Option Sum := ins 22 (A_impl_isSmooth φ) (F_10 φ)


/-! ### impl_at -/
def impl_at {ρ : Type} (φ : Nat) (n2 : Int) (b3 : Bool) (e4 : Nat) (l5 : (List Nat)) (k : Nat → Option ρ) : Option ρ :=
  Option.bind (impl_length_float32 φ b3 e4 l5 some) fun r0 =>
  Option.bind (impl_within φ n2 (0 : Int) (IntKind.wrap .i64 (r0 - (1 : Int))) some) fun r1 =>
  bif (!r1) then
    k (can .f32 0)
  else
    Option.bind (idx n2 (List.length l5)) fun r2 =>
    Option.bind (l5[r2]?) fun r3 =>
    k r3

def impl_at_val (r : Nat) : AV := (.flt .f32 r)

def impl_at_L (φ : Nat) : Nat → Option LoopS := noL

def S_impl_at (φ : Nat) : List AV → List Blk → Option Nat
  | [(.whole 0), (.int .i64 n2)], [(.vec b3 e4 (.flt .f32) l5)] => impl_at φ n2 b3 e4 l5 some
  | _, _ => none

def c_impl_at : List AV → List Blk → Bool
  | [(.whole 0), (.int .i64 n2)], [(.vec b3 e4 (.flt .f32) l5)] => true
  | _, _ => false

def A_impl_at (φ : Nat) : Sum := .rd (S_impl_at φ) impl_at_val

def F_12 (φ : Nat) : FuncId → Option Sum := ins 31 (A_impl_at φ) (F_11 φ)


/-! ### slices_Clone_float32_float32 -/
def slices_Clone_float32_float32 {ρ : Type} (φ : Nat) (b2 : Bool) (e3 : Nat) (l4 : (List Nat)) (k : (List Nat) → Option ρ) : Option ρ :=
  bif (List.isEmpty l4) then
    none
  else
    Option.bind (room (0 + (List.length l4)) 4) fun r0 =>
    k ([] ++ l4)

def slices_Clone_float32_float32_val (r : (List Nat)) : AV × List Blk := ((.whole 1), [(.vec Bool.true 34 (.flt .f32) r)])

def slices_Clone_float32_float32_L (φ : Nat) : Nat → Option LoopS := noL

def S_slices_Clone_float32_float32 (φ : Nat) : List AV → List Blk → Option (List Nat)
  | [(.whole 0)], [(.vec b2 e3 (.flt .f32) l4)] => slices_Clone_float32_float32 φ b2 e3 l4 some
  | _, _ => none

def c_slices_Clone_float32_float32 : List AV → List Blk → Bool
  | [(.whole 0)], [(.vec b2 e3 (.flt .f32) l4)] => true
  | _, _ => false

def A_slices_Clone_float32_float32 (φ : Nat) : Sum := .mk (S_slices_Clone_float32_float32 φ) slices_Clone_float32_float32_val

def F_13 (φ : Nat) : FuncId → Option Sum := ins 26 (A_slices_Clone_float32_float32 φ) (F_12 φ)


/-! ### impl_smooth -/
def impl_smooth_5 {ρ : Type} (φ : Nat) (n7 : Int) (n8 : Int) (n9 : Int) (b11 : Bool) (e12 : Nat) (l13 : (List Nat)) : Nat → Int → (List Nat) → (Int → (List Nat) → Option ρ) → Option ρ
  | 0, _, _, _ => none
  | n + 1, n10, l14, k0 =>
    bif (decide (n10 < n9)) then
      Option.bind (impl_at φ (IntKind.wrap .i64 (n10 - (1 : Int))) b11 e12 l13 some) fun r15 =>
      Option.bind (idx n10 (List.length l13)) fun r16 =>
      Option.bind (l13[r16]?) fun r17 =>
      Option.bind (idx n10 (List.length l13)) fun r18 =>
      Option.bind (l13[r18]?) fun r19 =>
      Option.bind (impl_at φ (IntKind.wrap .i64 (n10 + (1 : Int))) b11 e12 l13 some) fun r20 =>
      Option.bind (idx n10 (List.length l14)) fun r21 =>
      Option.bind (l14[r21]?) fun r22 =>
      impl_smooth_5 φ n7 n8 n9 b11 e12 l13 n (IntKind.wrap .i64 (n10 + (1 : Int))) (List.set l14 r21 (fmul .f32 (can .f32 1048576000) (fadd .f32 (fadd .f32 (fadd .f32 r15 r17) r19) r20))) k0
    else
      (k0 n10 l14)

def impl_smooth_5_1 {ρ : Type} (φ : Nat) (n41 : Int) (n42 : Int) (n43 : Int) (b45 : Bool) (e46 : Nat) (l47 : (List Nat)) (l48 : (List Nat)) : Nat → Int → (List Nat) → (Int → (List Nat) → Option ρ) → Option ρ
  | 0, _, _, _ => none
  | n + 1, n44, l49, k0 =>
    bif (decide (n44 < n43)) then
      Option.bind (impl_at φ (IntKind.wrap .i64 (n44 - (1 : Int))) Bool.true 34 l48 some) fun r50 =>
      Option.bind (idx n44 (List.length l48)) fun r51 =>
      Option.bind (l48[r51]?) fun r52 =>
      Option.bind (idx n44 (List.length l48)) fun r53 =>
      Option.bind (l48[r53]?) fun r54 =>
      Option.bind (impl_at φ (IntKind.wrap .i64 (n44 + (1 : Int))) Bool.true 34 l48 some) fun r55 =>
      Option.bind (idx n44 (List.length l49)) fun r56 =>
      Option.bind (l49[r56]?) fun r57 =>
      impl_smooth_5_1 φ n41 n42 n43 b45 e46 l47 l48 n (IntKind.wrap .i64 (n44 + (1 : Int))) (List.set l49 r56 (fmul .f32 (can .f32 1048576000) (fadd .f32 (fadd .f32 (fadd .f32 r50 r52) r54) r55))) k0
    else
      (k0 n44 l49)

def Lin_impl_smooth_5 (φ : Nat) : Nat → Option LoopS := noL

def impl_smooth_5_st (n7 : Int) (n8 : Int) (n9 : Int) (n10 : Int) (b11 : Bool) (e12 : Nat) (l13 : (List Nat)) (l14 : (List Nat)) : St := (St.mk (spread 0 48 [0, 5, 8, 9, 15, 16] [(.whole 0), (.whole 1), (.int .i64 n7), (.int .i64 n8), (.int .i64 n9), (.int .i64 n10)]) [(.vec b11 e12 (.flt .f32) l13), (.vec Bool.true 34 (.flt .f32) l14)])

def impl_smooth_5_1_st (n41 : Int) (n42 : Int) (n43 : Int) (n44 : Int) (b45 : Bool) (e46 : Nat) (l47 : (List Nat)) (l48 : (List Nat)) (l49 : (List Nat)) : St := (St.mk (spread 0 48 [0, 5, 8, 9, 15, 16] [(.whole 1), (.whole 2), (.int .i64 n41), (.int .i64 n42), (.int .i64 n43), (.int .i64 n44)]) [(.vec b45 e46 (.flt .f32) l47), (.vec Bool.true 34 (.flt .f32) l48), (.vec Bool.true 34 (.flt .f32) l49)])

def impl_smooth_5_s (φ : Nat) : LoopS := fun st K => match sel 0 [0, 5, 8, 9, 15, 16] (norm 1 (hasN [0, 5, 8, 9, 15, 16]) st).t, (norm 1 (hasN [0, 5, 8, 9, 15, 16]) st).h with
  | [(.whole 0), (.whole 1), (.int .i64 n7), (.int .i64 n8), (.int .i64 n9), (.int .i64 n10)], [(.vec b11 e12 (.flt .f32) l13), (.vec Bool.true 34 (.flt .f32) l14)] => bif normOk 1 (hasN [0, 5, 8, 9, 15, 16]) st && Nat.beq (norm 1 (hasN [0, 5, 8, 9, 15, 16]) st).t.length 48 then impl_smooth_5 φ n7 n8 n9 b11 e12 l13 φ n10 l14 (fun n26 l30 => K (.exit 2) (St.mk (spread 0 48 [0, 5, 8, 9, 15, 16] [(.whole 0), (.whole 1), (.int .i64 n7), (.int .i64 n8), (.int .i64 n9), (.int .i64 n26)]) [(.vec b11 e12 (.flt .f32) l13), (.vec Bool.true 34 (.flt .f32) l30)])) else none
  | [(.whole 1), (.whole 2), (.int .i64 n41), (.int .i64 n42), (.int .i64 n43), (.int .i64 n44)], [(.vec b45 e46 (.flt .f32) l47), (.vec Bool.true 34 (.flt .f32) l48), (.vec Bool.true 34 (.flt .f32) l49)] => bif normOk 1 (hasN [0, 5, 8, 9, 15, 16]) st && Nat.beq (norm 1 (hasN [0, 5, 8, 9, 15, 16]) st).t.length 48 then impl_smooth_5_1 φ n41 n42 n43 b45 e46 l47 l48 φ n44 l49 (fun n61 l66 => K (.exit 2) (St.mk (spread 0 48 [0, 5, 8, 9, 15, 16] [(.whole 1), (.whole 2), (.int .i64 n41), (.int .i64 n42), (.int .i64 n43), (.int .i64 n61)]) [(.vec b45 e46 (.flt .f32) l47), (.vec Bool.true 34 (.flt .f32) l48), (.vec Bool.true 34 (.flt .f32) l66)])) else none
  | _, _ => none

def impl_smooth_2 {ρ : Type} (φ : Nat) (n33 : Int) (b35 : Bool) (e36 : Nat) (l37 : (List Nat)) : Nat → Int → (List Nat) → (Int → (List Nat) → Option ρ) → Option ρ
  | 0, _, _, _ => none
  | n + 1, n34, l38, k0 =>
    bif (decide (n34 < n33)) then
      Option.bind (making (((List.length l38) : Nat) : Int) 4) fun r39 =>
      Option.bind (upto (((List.length l38) : Nat) : Int) r39) fun r40 =>
      impl_smooth_5_1 φ n33 n34 (((List.length (List.replicate r40 0)) : Nat) : Int) b35 e36 l37 l38 φ (0 : Int) (List.replicate r40 0)
        (fun e67 e68 =>
        impl_smooth_2 φ n33 b35 e36 l37 n (IntKind.wrap .i64 (n34 + (1 : Int))) e68 k0)
    else
      (k0 n34 l38)

def impl_smooth_2_1 {ρ : Type} (φ : Nat) (n0 : Int) (n1 : Int) (b2 : Bool) (e3 : Nat) (l4 : (List Nat)) : Nat → (Int → (List Nat) → Option ρ) → (Option ρ) → Option ρ
  | 0, _, _ => none
  | n + 1, k0, k1 =>
    bif (decide (n1 < n0)) then
      Option.bind (making (((List.length l4) : Nat) : Int) 4) fun r5 =>
      Option.bind (upto (((List.length l4) : Nat) : Int) r5) fun r6 =>
      impl_smooth_5 φ n0 n1 (((List.length (List.replicate r6 0)) : Nat) : Int) b2 e3 l4 φ (0 : Int) (List.replicate r6 0)
        (fun e31 e32 =>
        impl_smooth_2 φ n0 b2 e3 l4 n (IntKind.wrap .i64 (n1 + (1 : Int))) e32
          (fun e75 e76 =>
          (k0 e75 e76)))
    else
      (k1 )

def Lin_impl_smooth_2 (φ : Nat) : Nat → Option LoopS := insL 5 (impl_smooth_5_s φ) (noL)

def impl_smooth_2_st (n33 : Int) (n34 : Int) (b35 : Bool) (e36 : Nat) (l37 : (List Nat)) (l38 : (List Nat)) : St := (St.mk (spread 0 48 [0, 8, 9] [(.whole 1), (.int .i64 n33), (.int .i64 n34)]) [(.vec b35 e36 (.flt .f32) l37), (.vec Bool.true 34 (.flt .f32) l38)])

def impl_smooth_2_1_st (n0 : Int) (n1 : Int) (b2 : Bool) (e3 : Nat) (l4 : (List Nat)) : St := (St.mk (spread 0 48 [0, 8, 9] [(.whole 0), (.int .i64 n0), (.int .i64 n1)]) [(.vec b2 e3 (.flt .f32) l4)])

def impl_smooth_2_s (φ : Nat) : LoopS := fun st K => match sel 0 [0, 8, 9] (norm 1 (hasN [0, 8, 9]) st).t, (norm 1 (hasN [0, 8, 9]) st).h with
  | [(.whole 1), (.int .i64 n33), (.int .i64 n34)], [(.vec b35 e36 (.flt .f32) l37), (.vec Bool.true 34 (.flt .f32) l38)] => bif normOk 1 (hasN [0, 8, 9]) st && Nat.beq (norm 1 (hasN [0, 8, 9]) st).t.length 48 then impl_smooth_2 φ n33 b35 e36 l37 φ n34 l38 (fun n70 l74 => K (.exit 0) (St.mk (spread 0 48 [0, 8, 9] [(.whole 1), (.int .i64 n33), (.int .i64 n70)]) [(.vec b35 e36 (.flt .f32) l37), (.vec Bool.true 34 (.flt .f32) l74)])) else none
  | [(.whole 0), (.int .i64 n0), (.int .i64 n1)], [(.vec b2 e3 (.flt .f32) l4)] => bif normOk 1 (hasN [0, 8, 9]) st && Nat.beq (norm 1 (hasN [0, 8, 9]) st).t.length 48 then impl_smooth_2_1 φ n0 n1 b2 e3 l4 φ  (fun n78 l82 => K (.exit 0) (St.mk (spread 0 48 [0, 8, 9] [(.whole 1), (.int .i64 n0), (.int .i64 n78)]) [(.vec b2 e3 (.flt .f32) l4), (.vec Bool.true 34 (.flt .f32) l82)])) (K (.exit 0) (St.mk (spread 0 48 [0, 8, 9] [(.whole 0), (.int .i64 n0), (.int .i64 n1)]) [(.vec b2 e3 (.flt .f32) l4)])) else none
  | _, _ => none

def impl_smooth {ρ : Type} (φ : Nat) (n2 : Int) (b3 : Bool) (e4 : Nat) (l5 : (List Nat)) (k : (List Nat) → Option ρ) : Option ρ :=
  impl_smooth_2_1 φ n2 (0 : Int) b3 e4 l5 φ
    (fun e88 e89 =>
    Option.bind (slices_Clone_float32_float32 φ Bool.true 34 e89 some) fun r90 =>
    k r90)
    (
    Option.bind (slices_Clone_float32_float32 φ b3 e4 l5 some) fun r91 =>
    k r91)

def impl_smooth_val (r : (List Nat)) : AV × List Blk := ((.whole 1), [(.vec Bool.true 34 (.flt .f32) r)])

def impl_smooth_L (φ : Nat) : Nat → Option LoopS := insL 2 (impl_smooth_2_s φ) (noL)

def S_impl_smooth (φ : Nat) : List AV → List Blk → Option (List Nat)
  | [(.whole 0), (.int .i64 n2)], [(.vec b3 e4 (.flt .f32) l5)] => impl_smooth φ n2 b3 e4 l5 some
  | _, _ => none

def c_impl_smooth : List AV → List Blk → Bool
  | [(.whole 0), (.int .i64 n2)], [(.vec b3 e4 (.flt .f32) l5)] => true
  | _, _ => false

def A_impl_smooth (φ : Nat) : Sum := .mk (S_impl_smooth φ) impl_smooth_val

def F_14 (φ : Nat) : FuncId → Option Sum := ins 23 (A_impl_smooth φ) (F_13 φ)


/-! ### impl_SmoothTrace -/
def impl_SmoothTrace {ρ : Type} (φ : Nat) (n2 : Int) (b3 : Bool) (e4 : Nat) (l5 : (List Nat)) (k : (Bool × (List Nat)) → Option ρ) : Option ρ :=
  Option.bind (impl_isSmooth φ n2 b3 e4 l5 some) fun r0 =>
  bif (!r0) then
    k (Bool.false, [])
  else
    Option.bind (impl_smooth φ n2 b3 e4 l5 some) fun r1 =>
    k (Bool.true, r1)

def impl_SmoothTrace_val (r : (Bool × (List Nat))) : AV × List Blk := ((.tup [(.whole 1), (.bool r.1)]), [(.vec Bool.true 34 (.flt .f32) r.2)])

def impl_SmoothTrace_L (φ : Nat) : Nat → Option LoopS := noL

def S_impl_SmoothTrace (φ : Nat) : List AV → List Blk → Option (Bool × (List Nat))
  | [(.whole 0), (.int .i64 n2)], [(.vec b3 e4 (.flt .f32) l5)] => impl_SmoothTrace φ n2 b3 e4 l5 some
  | _, _ => none

def c_impl_SmoothTrace : List AV → List Blk → Bool
  | [(.whole 0), (.int .i64 n2)], [(.vec b3 e4 (.flt .f32) l5)] => true
  | _, _ => false

def A_impl_SmoothTrace (φ : Nat) : Sum := .mk (S_impl_SmoothTrace φ) impl_SmoothTrace_val

def F_15 (φ : Nat) : FuncId → Option Sum := ins 7 (A_impl_SmoothTrace φ) (F_14 φ)


/-! ### impl_lessTraces -/
def impl_lessTraces_3 {ρ : Type} (φ : Nat) (n1 : Int) (b3 : Bool) (e4 : Nat) (l5 : (List Nat)) (b6 : Bool) (e7 : Nat) (l8 : (List Nat)) : Nat → Int → (List Nat) → (Int → (List Nat) → Option ρ) → Option ρ
  | 0, _, _, _ => none
  | n + 1, n2, l9, k0 =>
    bif (decide (n2 < n1)) then
      Option.bind (idx n2 (List.length l8)) fun r10 =>
      Option.bind (l8[r10]?) fun r11 =>
      Option.bind (idx n2 (List.length l9)) fun r12 =>
      Option.bind (l9[r12]?) fun r13 =>
      Option.bind (idx n2 (List.length l9)) fun r14 =>
      Option.bind (l9[r14]?) fun r15 =>
      impl_lessTraces_3 φ n1 b3 e4 l5 b6 e7 l8 n (IntKind.wrap .i64 (n2 + (1 : Int))) (List.set l9 r14 (fsub .f32 r13 r11)) k0
    else
      (k0 n2 l9)

def Lin_impl_lessTraces_3 (φ : Nat) : Nat → Option LoopS := noL

def impl_lessTraces_3_st (n1 : Int) (n2 : Int) (b3 : Bool) (e4 : Nat) (l5 : (List Nat)) (b6 : Bool) (e7 : Nat) (l8 : (List Nat)) (l9 : (List Nat)) : St := (St.mk (spread 0 26 [5, 10, 11, 12] [(.whole 2), (.whole 1), (.int .i64 n1), (.int .i64 n2)]) [(.vec b3 e4 (.flt .f32) l5), (.vec b6 e7 (.flt .f32) l8), (.vec Bool.true 34 (.flt .f32) l9)])

def impl_lessTraces_3_s (φ : Nat) : LoopS := fun st K => match sel 0 [5, 10, 11, 12] (norm 2 (hasN [5, 10, 11, 12]) st).t, (norm 2 (hasN [5, 10, 11, 12]) st).h with
  | [(.whole 2), (.whole 1), (.int .i64 n1), (.int .i64 n2)], [(.vec b3 e4 (.flt .f32) l5), (.vec b6 e7 (.flt .f32) l8), (.vec Bool.true 34 (.flt .f32) l9)] => bif normOk 2 (hasN [5, 10, 11, 12]) st && Nat.beq (norm 2 (hasN [5, 10, 11, 12]) st).t.length 26 then impl_lessTraces_3 φ n1 b3 e4 l5 b6 e7 l8 φ n2 l9 (fun n17 l24 => K (.exit 0) (St.mk (spread 0 26 [5, 10, 11, 12] [(.whole 2), (.whole 1), (.int .i64 n1), (.int .i64 n17)]) [(.vec b3 e4 (.flt .f32) l5), (.vec b6 e7 (.flt .f32) l8), (.vec Bool.true 34 (.flt .f32) l24)])) else none
  | _, _ => none

def impl_lessTraces {ρ : Type} (φ : Nat) (b4 : Bool) (e5 : Nat) (l6 : (List Nat)) (b7 : Bool) (e8 : Nat) (l9 : (List Nat)) (k : (List Nat) → Option ρ) : Option ρ :=
  Option.bind (slices_Clone_float32_float32 φ b4 e5 l6 some) fun r0 =>
  impl_lessTraces_3 φ (((List.length l9) : Nat) : Int) b4 e5 l6 b7 e8 l9 φ (0 : Int) r0
    (fun e25 e26 =>
    k e26)

def impl_lessTraces_val (r : (List Nat)) : AV × List Blk := ((.whole 2), [(.vec Bool.true 34 (.flt .f32) r)])

def impl_lessTraces_L (φ : Nat) : Nat → Option LoopS := insL 3 (impl_lessTraces_3_s φ) (noL)

def S_impl_lessTraces (φ : Nat) : List AV → List Blk → Option (List Nat)
  | [(.whole 0), (.whole 1)], [(.vec b4 e5 (.flt .f32) l6), (.vec b7 e8 (.flt .f32) l9)] => impl_lessTraces φ b4 e5 l6 b7 e8 l9 some
  | _, _ => none

def c_impl_lessTraces : List AV → List Blk → Bool
  | [(.whole 0), (.whole 1)], [(.vec b4 e5 (.flt .f32) l6), (.vec b7 e8 (.flt .f32) l9)] => true
  | _, _ => false

def A_impl_lessTraces (φ : Nat) : Sum := .mk (S_impl_lessTraces φ) impl_lessTraces_val

def F_16 (φ : Nat) : FuncId → Option Sum := ins 24 (A_impl_lessTraces φ) (F_15 φ)


/-! ### impl_RoughTrace -/
def impl_RoughTrace {ρ : Type} (φ : Nat) (n2 : Int) (b3 : Bool) (e4 : Nat) (l5 : (List Nat)) (k : (Bool × (List Nat)) → Option ρ) : Option ρ :=
  Option.bind (impl_isSmooth φ n2 b3 e4 l5 some) fun r0 =>
  bif (!r0) then
    k (Bool.false, [])
  else
    Option.bind (impl_smooth φ n2 b3 e4 l5 some) fun r1 =>
    Option.bind (impl_lessTraces φ b3 e4 l5 Bool.true 34 r1 some) fun r2 =>
    k (Bool.true, r2)

def impl_RoughTrace_val (r : (Bool × (List Nat))) : AV × List Blk := ((.tup [(.whole 1), (.bool r.1)]), [(.vec Bool.true 34 (.flt .f32) r.2)])

def impl_RoughTrace_L (φ : Nat) : Nat → Option LoopS := noL

def S_impl_RoughTrace (φ : Nat) : List AV → List Blk → Option (Bool × (List Nat))
  | [(.whole 0), (.int .i64 n2)], [(.vec b3 e4 (.flt .f32) l5)] => impl_RoughTrace φ n2 b3 e4 l5 some
  | _, _ => none

def c_impl_RoughTrace : List AV → List Blk → Bool
  | [(.whole 0), (.int .i64 n2)], [(.vec b3 e4 (.flt .f32) l5)] => true
  | _, _ => false

def A_impl_RoughTrace (φ : Nat) : Sum := .mk (S_impl_RoughTrace φ) impl_RoughTrace_val

def F_17 (φ : Nat) : FuncId → Option Sum := ins 8 (A_impl_RoughTrace φ) (F_16 φ)


/-! ### impl_areEven -/
def impl_areEven {ρ : Type} (φ : Nat) (b4 : Bool) (e5 : Nat) (l6 : (List Nat)) (b7 : Bool) (e8 : Nat) (l9 : (List Nat)) (k : Bool → Option ρ) : Option ρ :=
  Option.bind (impl_IsTrace φ b4 e5 l6 some) fun r0 =>
  bif r0 then
    k ((((List.length l6) : Nat) : Int) == (((List.length l9) : Nat) : Int))
  else
    k Bool.false

def impl_areEven_val (r : Bool) : AV := (.bool r)

def impl_areEven_L (φ : Nat) : Nat → Option LoopS := noL

def S_impl_areEven (φ : Nat) : List AV → List Blk → Option Bool
  | [(.whole 0), (.whole 1)], [(.vec b4 e5 (.flt .f32) l6), (.vec b7 e8 (.flt .f32) l9)] => impl_areEven φ b4 e5 l6 b7 e8 l9 some
  | _, _ => none

def c_impl_areEven : List AV → List Blk → Bool
  | [(.whole 0), (.whole 1)], [(.vec b4 e5 (.flt .f32) l6), (.vec b7 e8 (.flt .f32) l9)] => true
  | _, _ => false

def A_impl_areEven (φ : Nat) : Sum := .rd (S_impl_areEven φ) impl_areEven_val

def F_18 (φ : Nat) : FuncId → Option Sum := ins 25 (A_impl_areEven φ) (F_17 φ)


/-! ### impl_AddTraces -/
def impl_AddTraces_5 {ρ : Type} (φ : Nat) (n2 : Int) (b4 : Bool) (e5 : Nat) (l6 : (List Nat)) (b7 : Bool) (e8 : Nat) (l9 : (List Nat)) : Nat → Int → (List Nat) → (Int → (List Nat) → Option ρ) → Option ρ
  | 0, _, _, _ => none
  | n + 1, n3, l10, k0 =>
    bif (decide (n3 < n2)) then
      Option.bind (idx n3 (List.length l9)) fun r11 =>
      Option.bind (l9[r11]?) fun r12 =>
      Option.bind (idx n3 (List.length l10)) fun r13 =>
      Option.bind (l10[r13]?) fun r14 =>
      Option.bind (idx n3 (List.length l10)) fun r15 =>
      Option.bind (l10[r15]?) fun r16 =>
      impl_AddTraces_5 φ n2 b4 e5 l6 b7 e8 l9 n (IntKind.wrap .i64 (n3 + (1 : Int))) (List.set l10 r15 (fadd .f32 r14 r12)) k0
    else
      (k0 n3 l10)

def Lin_impl_AddTraces_5 (φ : Nat) : Nat → Option LoopS := noL

def impl_AddTraces_5_st (n2 : Int) (n3 : Int) (b4 : Bool) (e5 : Nat) (l6 : (List Nat)) (b7 : Bool) (e8 : Nat) (l9 : (List Nat)) (l10 : (List Nat)) : St := (St.mk (spread 0 31 [6, 15, 16, 17] [(.whole 2), (.whole 1), (.int .i64 n2), (.int .i64 n3)]) [(.vec b4 e5 (.flt .f32) l6), (.vec b7 e8 (.flt .f32) l9), (.vec Bool.true 34 (.flt .f32) l10)])

def impl_AddTraces_5_s (φ : Nat) : LoopS := fun st K => match sel 0 [6, 15, 16, 17] (norm 2 (hasN [6, 15, 16, 17]) st).t, (norm 2 (hasN [6, 15, 16, 17]) st).h with
  | [(.whole 2), (.whole 1), (.int .i64 n2), (.int .i64 n3)], [(.vec b4 e5 (.flt .f32) l6), (.vec b7 e8 (.flt .f32) l9), (.vec Bool.true 34 (.flt .f32) l10)] => bif normOk 2 (hasN [6, 15, 16, 17]) st && Nat.beq (norm 2 (hasN [6, 15, 16, 17]) st).t.length 31 then impl_AddTraces_5 φ n2 b4 e5 l6 b7 e8 l9 φ n3 l10 (fun n18 l25 => K (.exit 0) (St.mk (spread 0 31 [6, 15, 16, 17] [(.whole 2), (.whole 1), (.int .i64 n2), (.int .i64 n18)]) [(.vec b4 e5 (.flt .f32) l6), (.vec b7 e8 (.flt .f32) l9), (.vec Bool.true 34 (.flt .f32) l25)])) else none
  | _, _ => none

def impl_AddTraces {ρ : Type} (φ : Nat) (b4 : Bool) (e5 : Nat) (l6 : (List Nat)) (b7 : Bool) (e8 : Nat) (l9 : (List Nat)) (k : (Bool × (List Nat)) → Option ρ) : Option ρ :=
  Option.bind (impl_areEven φ b4 e5 l6 b7 e8 l9 some) fun r0 =>
  bif (!r0) then
    k (Bool.false, [])
  else
    Option.bind (slices_Clone_float32_float32 φ b4 e5 l6 some) fun r1 =>
    impl_AddTraces_5 φ (((List.length l9) : Nat) : Int) b4 e5 l6 b7 e8 l9 φ (0 : Int) r1
      (fun e26 e27 =>
      k (Bool.true, e27))

def impl_AddTraces_val (r : (Bool × (List Nat))) : AV × List Blk := ((.tup [(.whole 2), (.bool r.1)]), [(.vec Bool.true 34 (.flt .f32) r.2)])

def impl_AddTraces_L (φ : Nat) : Nat → Option LoopS := insL 5 (impl_AddTraces_5_s φ) (noL)

def S_impl_AddTraces (φ : Nat) : List AV → List Blk → Option (Bool × (List Nat))
  | [(.whole 0), (.whole 1)], [(.vec b4 e5 (.flt .f32) l6), (.vec b7 e8 (.flt .f32) l9)] => impl_AddTraces φ b4 e5 l6 b7 e8 l9 some
  | _, _ => none

def c_impl_AddTraces : List AV → List Blk → Bool
  | [(.whole 0), (.whole 1)], [(.vec b4 e5 (.flt .f32) l6), (.vec b7 e8 (.flt .f32) l9)] => true
  | _, _ => false

def A_impl_AddTraces (φ : Nat) : Sum := .mk (S_impl_AddTraces φ) impl_AddTraces_val

def F_19 (φ : Nat) : FuncId → Option Sum := ins 9 (A_impl_AddTraces φ) (F_18 φ)


/-! ### impl_DifferTrace -/
def impl_DifferTrace_5 {ρ : Type} (φ : Nat) (b3 : Bool) (e4 : Nat) (l5 : (List Nat)) : Nat → Int → (List Nat) → (Int → (List Nat) → Option ρ) → Option ρ
  | 0, _, _, _ => none
  | n + 1, n2, l6, k0 =>
    bif (decide (n2 < (((List.length l5) : Nat) : Int))) then
      Option.bind (idx n2 (List.length l5)) fun r7 =>
      Option.bind (l5[r7]?) fun r8 =>
      Option.bind (idx (IntKind.wrap .i64 (n2 - (1 : Int))) (List.length l5)) fun r9 =>
      Option.bind (l5[r9]?) fun r10 =>
      Option.bind (idx n2 (List.length l6)) fun r11 =>
      Option.bind (l6[r11]?) fun r12 =>
      impl_DifferTrace_5 φ b3 e4 l5 n (IntKind.wrap .i64 (n2 + (1 : Int))) (List.set l6 r11 (fsub .f32 r8 r10)) k0
    else
      (k0 n2 l6)

def Lin_impl_DifferTrace_5 (φ : Nat) : Nat → Option LoopS := noL

def impl_DifferTrace_5_st (n2 : Int) (b3 : Bool) (e4 : Nat) (l5 : (List Nat)) (l6 : (List Nat)) : St := (St.mk (spread 0 31 [0, 4, 5] [(.whole 0), (.whole 1), (.int .i64 n2)]) [(.vec b3 e4 (.flt .f32) l5), (.vec Bool.true 34 (.flt .f32) l6)])

def impl_DifferTrace_5_s (φ : Nat) : LoopS := fun st K => match sel 0 [0, 4, 5] (norm 1 (hasN [0, 4, 5]) st).t, (norm 1 (hasN [0, 4, 5]) st).h with
  | [(.whole 0), (.whole 1), (.int .i64 n2)], [(.vec b3 e4 (.flt .f32) l5), (.vec Bool.true 34 (.flt .f32) l6)] => bif normOk 1 (hasN [0, 4, 5]) st && Nat.beq (norm 1 (hasN [0, 4, 5]) st).t.length 31 then impl_DifferTrace_5 φ b3 e4 l5 φ n2 l6 (fun n13 l17 => K (.exit 0) (St.mk (spread 0 31 [0, 4, 5] [(.whole 0), (.whole 1), (.int .i64 n13)]) [(.vec b3 e4 (.flt .f32) l5), (.vec Bool.true 34 (.flt .f32) l17)])) else none
  | _, _ => none

def impl_DifferTrace {ρ : Type} (φ : Nat) (b2 : Bool) (e3 : Nat) (l4 : (List Nat)) (k : (Bool × (List Nat)) → Option ρ) : Option ρ :=
  Option.bind (impl_IsTrace φ b2 e3 l4 some) fun r0 =>
  bif (!r0) then
    k (Bool.false, [])
  else
    Option.bind (slices_Clone_float32_float32 φ b2 e3 l4 some) fun r1 =>
    impl_DifferTrace_5 φ b2 e3 l4 φ (1 : Int) r1
      (fun e18 e19 =>
      k (Bool.true, e19))

def impl_DifferTrace_val (r : (Bool × (List Nat))) : AV × List Blk := ((.tup [(.whole 1), (.bool r.1)]), [(.vec Bool.true 34 (.flt .f32) r.2)])

def impl_DifferTrace_L (φ : Nat) : Nat → Option LoopS := insL 5 (impl_DifferTrace_5_s φ) (noL)

def S_impl_DifferTrace (φ : Nat) : List AV → List Blk → Option (Bool × (List Nat))
  | [(.whole 0)], [(.vec b2 e3 (.flt .f32) l4)] => impl_DifferTrace φ b2 e3 l4 some
  | _, _ => none

def c_impl_DifferTrace : List AV → List Blk → Bool
  | [(.whole 0)], [(.vec b2 e3 (.flt .f32) l4)] => true
  | _, _ => false

def A_impl_DifferTrace (φ : Nat) : Sum := .mk (S_impl_DifferTrace φ) impl_DifferTrace_val

def F_20 (φ : Nat) : FuncId → Option Sum := ins 10 (A_impl_DifferTrace φ) (F_19 φ)


/-! ### impl_IntegrateTrace -/
def impl_IntegrateTrace_6 {ρ : Type} (φ : Nat) (n2 : Int) (b4 : Bool) (e5 : Nat) (l6 : (List Nat)) : Nat → Nat → Int → (List Nat) → (Nat → Int → (List Nat) → Option ρ) → Option ρ
  | 0, _, _, _, _ => none
  | n + 1, x1, n3, l7, k0 =>
    bif (decide (n3 < n2)) then
      Option.bind (idx n3 (List.length l6)) fun r8 =>
      Option.bind (l6[r8]?) fun r9 =>
      Option.bind (room ((Nat.add (List.length l7) 0) + 1) 4) fun r10 =>
      impl_IntegrateTrace_6 φ n2 b4 e5 l6 n (fadd .f32 x1 r9) (IntKind.wrap .i64 (n3 + (1 : Int))) (l7 ++ [(fadd .f32 x1 r9)]) k0
    else
      (k0 x1 n3 l7)

def Lin_impl_IntegrateTrace_6 (φ : Nat) : Nat → Option LoopS := noL

def impl_IntegrateTrace_6_st (x1 : Nat) (n2 : Int) (n3 : Int) (b4 : Bool) (e5 : Nat) (l6 : (List Nat)) (l7 : (List Nat)) : St := (St.mk (spread 0 26 [4, 5, 11, 12, 13] [(.whole 1), (.flt .f32 x1), (.whole 0), (.int .i64 n2), (.int .i64 n3)]) [(.vec b4 e5 (.flt .f32) l6), (.vec Bool.true 34 (.flt .f32) l7)])

def impl_IntegrateTrace_6_s (φ : Nat) : LoopS := fun st K => match sel 0 [4, 5, 11, 12, 13] (norm 1 (hasN [4, 5, 11, 12, 13]) st).t, (norm 1 (hasN [4, 5, 11, 12, 13]) st).h with
  | [(.whole 1), (.flt .f32 x1), (.whole 0), (.int .i64 n2), (.int .i64 n3)], [(.vec b4 e5 (.flt .f32) l6), (.vec Bool.true 34 (.flt .f32) l7)] => bif normOk 1 (hasN [4, 5, 11, 12, 13]) st && Nat.beq (norm 1 (hasN [4, 5, 11, 12, 13]) st).t.length 26 then impl_IntegrateTrace_6 φ n2 b4 e5 l6 φ x1 n3 l7 (fun x11 n13 l17 => K (.exit 0) (St.mk (spread 0 26 [4, 5, 11, 12, 13] [(.whole 1), (.flt .f32 x11), (.whole 0), (.int .i64 n2), (.int .i64 n13)]) [(.vec b4 e5 (.flt .f32) l6), (.vec Bool.true 34 (.flt .f32) l17)])) else none
  | _, _ => none

def impl_IntegrateTrace {ρ : Type} (φ : Nat) (b2 : Bool) (e3 : Nat) (l4 : (List Nat)) (k : (Bool × (List Nat)) → Option ρ) : Option ρ :=
  Option.bind (impl_IsTrace φ b2 e3 l4 some) fun r0 =>
  bif (!r0) then
    k (Bool.false, [])
  else
    impl_IntegrateTrace_6 φ (((List.length l4) : Nat) : Int) b2 e3 l4 φ (can .f32 0) (0 : Int) []
      (fun e18 e19 e20 =>
      k (Bool.true, e20))

def impl_IntegrateTrace_val (r : (Bool × (List Nat))) : AV × List Blk := ((.tup [(.whole 1), (.bool r.1)]), [(.vec Bool.true 34 (.flt .f32) r.2)])

def impl_IntegrateTrace_L (φ : Nat) : Nat → Option LoopS := insL 6 (impl_IntegrateTrace_6_s φ) (noL)

def S_impl_IntegrateTrace (φ : Nat) : List AV → List Blk → Option (Bool × (List Nat))
  | [(.whole 0)], [(.vec b2 e3 (.flt .f32) l4)] => impl_IntegrateTrace φ b2 e3 l4 some
  | _, _ => none

def c_impl_IntegrateTrace : List AV → List Blk → Bool
  | [(.whole 0)], [(.vec b2 e3 (.flt .f32) l4)] => true
  | _, _ => false

def A_impl_IntegrateTrace (φ : Nat) : Sum := .mk (S_impl_IntegrateTrace φ) impl_IntegrateTrace_val

def F_21 (φ : Nat) : FuncId → Option Sum := ins 11 (A_impl_IntegrateTrace φ) (F_20 φ)


/-! ### laws_b10Gap -/
def laws_b10Gap {ρ : Type} (φ : Nat) (x0 : Nat) (x1 : Nat) (k : Nat → Option ρ) : Option ρ :=
  bif (flt .f64 x0 x1) then
    k (fsub .f64 x1 x0)
  else
    k (fsub .f64 x0 x1)

def laws_b10Gap_val (r : Nat) : AV := (.flt .f64 r)

def laws_b10Gap_L (φ : Nat) : Nat → Option LoopS := noL

def S_laws_b10Gap (φ : Nat) : List AV → List Blk → Option Nat
  | [(.flt .f64 x0), (.flt .f64 x1)], [] => laws_b10Gap φ x0 x1 some
  | _, _ => none

def c_laws_b10Gap : List AV → List Blk → Bool
  | [(.flt .f64 x0), (.flt .f64 x1)], [] => true
  | _, _ => false

def A_laws_b10Gap (φ : Nat) : Sum := .rd (S_laws_b10Gap φ) laws_b10Gap_val

def F_22 (φ : Nat) : FuncId → Option Sum := ins 16 (A_laws_b10Gap φ) (F_21 φ)


/-! ### laws_b10Alike -/
def laws_b10Alike_4 {ρ : Type} (φ : Nat) (x0 : Nat) (b1 : Bool) (n2 : Int) (b4 : Bool) (e5 : Nat) (l6 : (List Nat)) (b7 : Bool) (e8 : Nat) (l9 : (List Nat)) : Nat → Int → (Int → Option ρ) → (Int → Option ρ) → Option ρ
  | 0, _, _, _ => none
  | n + 1, n3, k0, k1 =>
    bif (decide (n3 < n2)) then
      Option.bind (idx n3 (List.length l6)) fun r10 =>
      Option.bind (l6[r10]?) fun r11 =>
      Option.bind (fconv .f32 r11 .f64) fun r12 =>
      Option.bind (idx n3 (List.length l9)) fun r13 =>
      Option.bind (l9[r13]?) fun r14 =>
      Option.bind (fconv .f32 r14 .f64) fun r15 =>
      Option.bind (laws_b10Gap φ r12 r15 some) fun r16 =>
      bif (!(fle .f64 r16 x0)) then
        (k0 n3)
      else
        laws_b10Alike_4 φ x0 b1 n2 b4 e5 l6 b7 e8 l9 n (IntKind.wrap .i64 (n3 + (1 : Int))) k0 k1
    else
      (k1 n3)

def Lin_laws_b10Alike_4 (φ : Nat) : Nat → Option LoopS := noL

def laws_b10Alike_4_st (x0 : Nat) (b1 : Bool) (n2 : Int) (n3 : Int) (b4 : Bool) (e5 : Nat) (l6 : (List Nat)) (b7 : Bool) (e8 : Nat) (l9 : (List Nat)) : St := (St.mk (spread 0 33 [0, 1, 2, 6, 14, 15] [(.whole 0), (.whole 1), (.flt .f64 x0), (.bool b1), (.int .i64 n2), (.int .i64 n3)]) [(.vec b4 e5 (.flt .f32) l6), (.vec b7 e8 (.flt .f32) l9)])

def laws_b10Alike_4_s (φ : Nat) : LoopS := fun st K => match sel 0 [0, 1, 2, 6, 14, 15] (norm 2 (hasN [0, 1, 2, 6, 14, 15]) st).t, (norm 2 (hasN [0, 1, 2, 6, 14, 15]) st).h with
  | [(.whole 0), (.whole 1), (.flt .f64 x0), (.bool b1), (.int .i64 n2), (.int .i64 n3)], [(.vec b4 e5 (.flt .f32) l6), (.vec b7 e8 (.flt .f32) l9)] => bif normOk 2 (hasN [0, 1, 2, 6, 14, 15]) st && Nat.beq (norm 2 (hasN [0, 1, 2, 6, 14, 15]) st).t.length 33 then laws_b10Alike_4 φ x0 b1 n2 b4 e5 l6 b7 e8 l9 φ n3 (fun n20 => K .ret (St.mk (spread 0 33 [0, 1, 2, 6, 14, 15] [(.whole 0), (.whole 1), (.flt .f64 x0), (.bool Bool.false), (.int .i64 n2), (.int .i64 n20)]) [(.vec b4 e5 (.flt .f32) l6), (.vec b7 e8 (.flt .f32) l9)])) (fun n30 => K (.exit 0) (St.mk (spread 0 33 [0, 1, 2, 6, 14, 15] [(.whole 0), (.whole 1), (.flt .f64 x0), (.bool b1), (.int .i64 n2), (.int .i64 n30)]) [(.vec b4 e5 (.flt .f32) l6), (.vec b7 e8 (.flt .f32) l9)])) else none
  | _, _ => none

def laws_b10Alike {ρ : Type} (φ : Nat) (x4 : Nat) (b5 : Bool) (e6 : Nat) (l7 : (List Nat)) (b8 : Bool) (e9 : Nat) (l10 : (List Nat)) (k : Bool → Option ρ) : Option ρ :=
  bif ((((List.length l7) : Nat) : Int) != (((List.length l10) : Nat) : Int)) then
    k Bool.false
  else
    laws_b10Alike_4 φ x4 Bool.false (((List.length l7) : Nat) : Int) b5 e6 l7 b8 e9 l10 φ (0 : Int)
      (fun e37 =>
      k Bool.false)
      (fun e38 =>
      k Bool.true)

def laws_b10Alike_val (r : Bool) : AV := (.bool r)

def laws_b10Alike_L (φ : Nat) : Nat → Option LoopS := insL 4 (laws_b10Alike_4_s φ) (noL)

def S_laws_b10Alike (φ : Nat) : List AV → List Blk → Option Bool
  | [(.whole 0), (.whole 1), (.flt .f64 x4)], [(.vec b5 e6 (.flt .f32) l7), (.vec b8 e9 (.flt .f32) l10)] => laws_b10Alike φ x4 b5 e6 l7 b8 e9 l10 some
  | _, _ => none

def c_laws_b10Alike : List AV → List Blk → Bool
  | [(.whole 0), (.whole 1), (.flt .f64 x4)], [(.vec b5 e6 (.flt .f32) l7), (.vec b8 e9 (.flt .f32) l10)] => true
  | _, _ => false

def A_laws_b10Alike (φ : Nat) : Sum := .rd (S_laws_b10Alike φ) laws_b10Alike_val

def F_23 (φ : Nat) : FuncId → Option Sum := ins 12 (A_laws_b10Alike φ) (F_22 φ)


/-! ### laws_b10Most -/
def laws_b10Most_3 {ρ : Type} (φ : Nat) (n1 : Int) (b3 : Bool) (e4 : Nat) (l5 : (List Nat)) : Nat → Nat → Int → (Nat → Int → Option ρ) → Option ρ
  | 0, _, _, _ => none
  | n + 1, x0, n2, k0 =>
    bif (decide (n2 < n1)) then
      Option.bind (idx n2 (List.length l5)) fun r6 =>
      Option.bind (l5[r6]?) fun r7 =>
      Option.bind (fconv .f32 r7 .f64) fun r8 =>
      Option.bind (idx n2 (List.length l5)) fun r9 =>
      Option.bind (l5[r9]?) fun r10 =>
      Option.bind (fconv .f32 r10 .f64) fun r11 =>
      laws_b10Most_3 φ n1 b3 e4 l5 n (bif Bool.true then (fmax .f64 (bif Bool.true then (fmax .f64 x0 r8) else (fmin .f64 x0 r8)) (fneg .f64 r11)) else (fmin .f64 (bif Bool.true then (fmax .f64 x0 r8) else (fmin .f64 x0 r8)) (fneg .f64 r11))) (IntKind.wrap .i64 (n2 + (1 : Int))) k0
    else
      (k0 x0 n2)

def Lin_laws_b10Most_3 (φ : Nat) : Nat → Option LoopS := noL

def laws_b10Most_3_st (x0 : Nat) (n1 : Int) (n2 : Int) (b3 : Bool) (e4 : Nat) (l5 : (List Nat)) : St := (St.mk (spread 0 25 [0, 3, 6, 7] [(.whole 0), (.flt .f64 x0), (.int .i64 n1), (.int .i64 n2)]) [(.vec b3 e4 (.flt .f32) l5)])

def laws_b10Most_3_s (φ : Nat) : LoopS := fun st K => match sel 0 [0, 3, 6, 7] (norm 1 (hasN [0, 3, 6, 7]) st).t, (norm 1 (hasN [0, 3, 6, 7]) st).h with
  | [(.whole 0), (.flt .f64 x0), (.int .i64 n1), (.int .i64 n2)], [(.vec b3 e4 (.flt .f32) l5)] => bif normOk 1 (hasN [0, 3, 6, 7]) st && Nat.beq (norm 1 (hasN [0, 3, 6, 7]) st).t.length 25 then laws_b10Most_3 φ n1 b3 e4 l5 φ x0 n2 (fun x12 n14 => K (.exit 0) (St.mk (spread 0 25 [0, 3, 6, 7] [(.whole 0), (.flt .f64 x12), (.int .i64 n1), (.int .i64 n14)]) [(.vec b3 e4 (.flt .f32) l5)])) else none
  | _, _ => none

def laws_b10Most {ρ : Type} (φ : Nat) (b2 : Bool) (e3 : Nat) (l4 : (List Nat)) (k : Nat → Option ρ) : Option ρ :=
  laws_b10Most_3 φ (((List.length l4) : Nat) : Int) b2 e3 l4 φ (can .f64 0) (0 : Int)
    (fun e18 e19 =>
    k e18)

def laws_b10Most_val (r : Nat) : AV := (.flt .f64 r)

def laws_b10Most_L (φ : Nat) : Nat → Option LoopS := insL 3 (laws_b10Most_3_s φ) (noL)

def S_laws_b10Most (φ : Nat) : List AV → List Blk → Option Nat
  | [(.whole 0)], [(.vec b2 e3 (.flt .f32) l4)] => laws_b10Most φ b2 e3 l4 some
  | _, _ => none

def c_laws_b10Most : List AV → List Blk → Bool
  | [(.whole 0)], [(.vec b2 e3 (.flt .f32) l4)] => true
  | _, _ => false

def A_laws_b10Most (φ : Nat) : Sum := .rd (S_laws_b10Most φ) laws_b10Most_val

def F_24 (φ : Nat) : FuncId → Option Sum := ins 13 (A_laws_b10Most φ) (F_23 φ)


/-! ### math_NaN -/
def math_NaN {ρ : Type} (φ : Nat) (k : Nat → Option ρ) : Option ρ :=
  Option.bind (x_f64frombits (9221120237041090561 : Int)) fun r0 =>
  k r0

def math_NaN_val (r : Nat) : AV := (.flt .f64 r)

def math_NaN_L (φ : Nat) : Nat → Option LoopS := noL

def S_math_NaN (φ : Nat) : List AV → List Blk → Option Nat
  | [], [] => math_NaN φ  some
  | _, _ => none

def c_math_NaN : List AV → List Blk → Bool
  | [], [] => true
  | _, _ => false

def A_math_NaN (φ : Nat) : Sum := .rd (S_math_NaN φ) math_NaN_val

def F_25 (φ : Nat) : FuncId → Option Sum := ins 41 (A_math_NaN φ) (F_24 φ)


/-! ### spec_l01SineWide -/
def spec_l01SineWide_17 {ρ : Type} (φ : Nat) (b12 : Bool) (x13 : Nat) (x14 : Nat) : Nat → Nat → Int → (Nat → Int → Option ρ) → Option ρ
  | 0, _, _, _ => none
  | n + 1, x15, n16, k0 =>
    bif (decide (n16 ≥ (1 : Int))) then
      spec_l01SineWide_17 φ b12 x13 x14 n (fsub .f64 (can .f64 4607182418800017408) (fdiv .f64 (fmul .f64 x14 x15) (itof .f64 (IntKind.wrap .i64 ((IntKind.wrap .i64 ((2 : Int) * n16)) * (IntKind.wrap .i64 ((IntKind.wrap .i64 ((2 : Int) * n16)) + (1 : Int)))))))) (IntKind.wrap .i64 (n16 - (1 : Int))) k0
    else
      (k0 x15 n16)

def Lin_spec_l01SineWide_17 (φ : Nat) : Nat → Option LoopS := noL

def spec_l01SineWide_17_st (b12 : Bool) (x13 : Nat) (x14 : Nat) (x15 : Nat) (n16 : Int) : St := (St.mk (spread 0 67 [4, 5, 6, 7, 8] [(.bool b12), (.flt .f64 x13), (.flt .f64 x14), (.flt .f64 x15), (.int .i64 n16)]) [])

def spec_l01SineWide_17_s (φ : Nat) : LoopS := fun st K => match sel 0 [4, 5, 6, 7, 8] (norm 0 (hasN [4, 5, 6, 7, 8]) st).t, (norm 0 (hasN [4, 5, 6, 7, 8]) st).h with
  | [(.bool b12), (.flt .f64 x13), (.flt .f64 x14), (.flt .f64 x15), (.int .i64 n16)], [] => bif normOk 0 (hasN [4, 5, 6, 7, 8]) st && Nat.beq (norm 0 (hasN [4, 5, 6, 7, 8]) st).t.length 67 then spec_l01SineWide_17 φ b12 x13 x14 φ x15 n16 (fun x20 n21 => K (.exit 0) (St.mk (spread 0 67 [4, 5, 6, 7, 8] [(.bool b12), (.flt .f64 x13), (.flt .f64 x14), (.flt .f64 x20), (.int .i64 n21)]) [])) else none
  | _, _ => none

def spec_l01SineWide_c13 {ρ : Type} (φ : Nat) (x9 : Nat) (x10 : Nat) (b11 : Bool) (k0 : Nat → Option ρ) : Option ρ :=
    spec_l01SineWide_17 φ b11 (fmul .f64 x10 (can .f64 4618760256179416344)) (fmul .f64 (fmul .f64 x10 (can .f64 4618760256179416344)) (fmul .f64 x10 (can .f64 4618760256179416344))) φ (can .f64 4607182418800017408) (8 : Int)
      (fun e22 e23 =>
      bif b11 then
        (k0 (fneg .f64 (fmul .f64 (fmul .f64 x10 (can .f64 4618760256179416344)) e22)))
      else
        (k0 (fmul .f64 (fmul .f64 x10 (can .f64 4618760256179416344)) e22)))

def Lin_spec_l01SineWide_c13 (φ : Nat) : Nat → Option LoopS := insL 17 (spec_l01SineWide_17_s φ) (noL)

def spec_l01SineWide_c13_st (x9 : Nat) (x10 : Nat) (b11 : Bool) : St := (St.mk (spread 0 67 [2, 3, 4] [(.flt .f64 x9), (.flt .f64 x10), (.bool b11)]) [])

def spec_l01SineWide_c13_s (φ : Nat) : LoopS := fun st K => match sel 0 [2, 3, 4] (norm 0 (hasN [2, 3, 4]) st).t, (norm 0 (hasN [2, 3, 4]) st).h with
  | [(.flt .f64 x9), (.flt .f64 x10), (.bool b11)], [] => bif normOk 0 (hasN [2, 3, 4]) st && Nat.beq (norm 0 (hasN [2, 3, 4]) st).t.length 67 then spec_l01SineWide_c13 φ x9 x10 b11 (fun x24 => K .ret (St.mk (spread 0 67 [2, 4] [(.flt .f64 x24), (.bool b11)]) [])) else none
  | _, _ => none

def spec_l01SineWide_c11 {ρ : Type} (φ : Nat) (x6 : Nat) (x7 : Nat) (b8 : Bool) (k0 : Nat → Option ρ) : Option ρ :=
    bif (fgt .f64 x7 (can .f64 4598175219545276416)) then
      spec_l01SineWide_c13 φ x6 (fsub .f64 (can .f64 4602678819172646912) x7) b8
        (fun e26 =>
        (k0 e26))
    else
      spec_l01SineWide_c13 φ x6 x7 b8
        (fun e27 =>
        (k0 e27))

def Lin_spec_l01SineWide_c11 (φ : Nat) : Nat → Option LoopS := insL (cut 13) (spec_l01SineWide_c13_s φ) (noL)

def spec_l01SineWide_c11_st (x6 : Nat) (x7 : Nat) (b8 : Bool) : St := (St.mk (spread 0 67 [2, 3, 4] [(.flt .f64 x6), (.flt .f64 x7), (.bool b8)]) [])

def spec_l01SineWide_c11_s (φ : Nat) : LoopS := fun st K => match sel 0 [2, 3, 4] (norm 0 (hasN [2, 3, 4]) st).t, (norm 0 (hasN [2, 3, 4]) st).h with
  | [(.flt .f64 x6), (.flt .f64 x7), (.bool b8)], [] => bif normOk 0 (hasN [2, 3, 4]) st && Nat.beq (norm 0 (hasN [2, 3, 4]) st).t.length 67 then spec_l01SineWide_c11 φ x6 x7 b8 (fun x28 => K .ret (St.mk (spread 0 67 [2, 4] [(.flt .f64 x28), (.bool b8)]) [])) else none
  | _, _ => none

def spec_l01SineWide_c8 {ρ : Type} (φ : Nat) (x4 : Nat) (x5 : Nat) (k0 : Nat → Option ρ) : Option ρ :=
    bif (fge .f64 x5 (can .f64 4602678819172646912)) then
      spec_l01SineWide_c11 φ x4 (fsub .f64 x5 (can .f64 4602678819172646912)) (fge .f64 x5 (can .f64 4602678819172646912))
        (fun e30 =>
        (k0 e30))
    else
      spec_l01SineWide_c11 φ x4 x5 (fge .f64 x5 (can .f64 4602678819172646912))
        (fun e31 =>
        (k0 e31))

def Lin_spec_l01SineWide_c8 (φ : Nat) : Nat → Option LoopS := insL (cut 11) (spec_l01SineWide_c11_s φ) (noL)

def spec_l01SineWide_c8_st (x4 : Nat) (x5 : Nat) : St := (St.mk (spread 0 67 [2, 3] [(.flt .f64 x4), (.flt .f64 x5)]) [])

def spec_l01SineWide_c8_s (φ : Nat) : LoopS := fun st K => match sel 0 [2, 3] (norm 0 (hasN [2, 3]) st).t, (norm 0 (hasN [2, 3]) st).h with
  | [(.flt .f64 x4), (.flt .f64 x5)], [] => bif normOk 0 (hasN [2, 3]) st && Nat.beq (norm 0 (hasN [2, 3]) st).t.length 67 then spec_l01SineWide_c8 φ x4 x5 (fun x32 => K .ret (St.mk (spread 0 67 [2] [(.flt .f64 x32)]) [])) else none
  | _, _ => none

def spec_l01SineWide_c5 {ρ : Type} (φ : Nat) (x1 : Nat) (x2 : Nat) (k0 : Nat → Option ρ) : Option ρ :=
    Option.bind (ftoi .f64 x1 .i64) fun r3 =>
    bif (flt .f64 (fsub .f64 x1 (itof .f64 r3)) (can .f64 0)) then
      spec_l01SineWide_c8 φ x2 (fadd .f64 (fsub .f64 x1 (itof .f64 r3)) (can .f64 4607182418800017408))
        (fun e33 =>
        (k0 e33))
    else
      spec_l01SineWide_c8 φ x2 (fsub .f64 x1 (itof .f64 r3))
        (fun e34 =>
        (k0 e34))

def Lin_spec_l01SineWide_c5 (φ : Nat) : Nat → Option LoopS := insL (cut 8) (spec_l01SineWide_c8_s φ) (noL)

def spec_l01SineWide_c5_st (x1 : Nat) (x2 : Nat) : St := (St.mk (spread 0 67 [0, 2] [(.flt .f64 x1), (.flt .f64 x2)]) [])

def spec_l01SineWide_c5_s (φ : Nat) : LoopS := fun st K => match sel 0 [0, 2] (norm 0 (hasN [0, 2]) st).t, (norm 0 (hasN [0, 2]) st).h with
  | [(.flt .f64 x1), (.flt .f64 x2)], [] => bif normOk 0 (hasN [0, 2]) st && Nat.beq (norm 0 (hasN [0, 2]) st).t.length 67 then spec_l01SineWide_c5 φ x1 x2 (fun x35 => K .ret (St.mk (spread 0 67 [2] [(.flt .f64 x35)]) [])) else none
  | _, _ => none

def spec_l01SineWide {ρ : Type} (φ : Nat) (x0 : Nat) (k : Nat → Option ρ) : Option ρ :=
  bif (fne .f64 (fsub .f64 x0 x0) (can .f64 0)) then
    Option.bind (math_NaN φ some) fun r0 =>
    k r0
  else
    bif (fge .f64 x0 (can .f64 4841369599423283200)) then
      k (can .f64 0)
    else
      bif (fle .f64 x0 (can .f64 14064741636278059008)) then
        k (can .f64 0)
      else
        spec_l01SineWide_c5 φ x0 (can .f64 0)
          (fun e36 =>
          k e36)

def spec_l01SineWide_val (r : Nat) : AV := (.flt .f64 r)

def spec_l01SineWide_L (φ : Nat) : Nat → Option LoopS := insL (cut 5) (spec_l01SineWide_c5_s φ) (noL)

def S_spec_l01SineWide (φ : Nat) : List AV → List Blk → Option Nat
  | [(.flt .f64 x0)], [] => spec_l01SineWide φ x0 some
  | _, _ => none

def c_spec_l01SineWide : List AV → List Blk → Bool
  | [(.flt .f64 x0)], [] => true
  | _, _ => false

def A_spec_l01SineWide (φ : Nat) : Sum := .rd (S_spec_l01SineWide φ) spec_l01SineWide_val

def F_26 (φ : Nat) : FuncId → Option Sum := ins 39 (A_spec_l01SineWide φ) (F_25 φ)


/-! ### spec_l01Narrow -/
def spec_l01Narrow {ρ : Type} (φ : Nat) (x0 : Nat) (k : Nat → Option ρ) : Option ρ :=
  Option.bind (fconv .f64 x0 .f32) fun r0 =>
  k r0

def spec_l01Narrow_val (r : Nat) : AV := (.flt .f32 r)

def spec_l01Narrow_L (φ : Nat) : Nat → Option LoopS := noL

def S_spec_l01Narrow (φ : Nat) : List AV → List Blk → Option Nat
  | [(.flt .f64 x0)], [] => spec_l01Narrow φ x0 some
  | _, _ => none

def c_spec_l01Narrow : List AV → List Blk → Bool
  | [(.flt .f64 x0)], [] => true
  | _, _ => false

def A_spec_l01Narrow (φ : Nat) : Sum := .rd (S_spec_l01Narrow φ) spec_l01Narrow_val

def F_27 (φ : Nat) : FuncId → Option Sum := ins 38 (A_spec_l01Narrow φ) (F_26 φ)


/-! ### spec_l01Sine -/
def spec_l01Sine {ρ : Type} (φ : Nat) (x0 : Nat) (k : Nat → Option ρ) : Option ρ :=
  Option.bind (fconv .f32 x0 .f64) fun r0 =>
  Option.bind (spec_l01SineWide φ r0 some) fun r1 =>
  Option.bind (spec_l01Narrow φ r1 some) fun r2 =>
  k r2

def spec_l01Sine_val (r : Nat) : AV := (.flt .f32 r)

def spec_l01Sine_L (φ : Nat) : Nat → Option LoopS := noL

def S_spec_l01Sine (φ : Nat) : List AV → List Blk → Option Nat
  | [(.flt .f32 x0)], [] => spec_l01Sine φ x0 some
  | _, _ => none

def c_spec_l01Sine : List AV → List Blk → Bool
  | [(.flt .f32 x0)], [] => true
  | _, _ => false

def A_spec_l01Sine (φ : Nat) : Sum := .rd (S_spec_l01Sine φ) spec_l01Sine_val

def F_28 (φ : Nat) : FuncId → Option Sum := ins 28 (A_spec_l01Sine φ) (F_27 φ)


/-! ### spec_SineTurns -/
def spec_SineTurns {ρ : Type} (φ : Nat) (x0 : Nat) (k : Nat → Option ρ) : Option ρ :=
  Option.bind (spec_l01Sine φ x0 some) fun r0 =>
  k r0

def spec_SineTurns_val (r : Nat) : AV := (.flt .f32 r)

def spec_SineTurns_L (φ : Nat) : Nat → Option LoopS := noL

def S_spec_SineTurns (φ : Nat) : List AV → List Blk → Option Nat
  | [(.flt .f32 x0)], [] => spec_SineTurns φ x0 some
  | _, _ => none

def c_spec_SineTurns : List AV → List Blk → Bool
  | [(.flt .f32 x0)], [] => true
  | _, _ => false

def A_spec_SineTurns (φ : Nat) : Sum := .rd (S_spec_SineTurns φ) spec_SineTurns_val

def F_29 (φ : Nat) : FuncId → Option Sum := ins 14 (A_spec_SineTurns φ) (F_28 φ)


/-! ### impl_isFinite -/
def impl_isFinite {ρ : Type} (φ : Nat) (x0 : Nat) (k : Bool → Option ρ) : Option ρ :=
  k (feq .f64 (fsub .f64 x0 x0) (can .f64 0))

def impl_isFinite_val (r : Bool) : AV := (.bool r)

def impl_isFinite_L (φ : Nat) : Nat → Option LoopS := noL

def S_impl_isFinite (φ : Nat) : List AV → List Blk → Option Bool
  | [(.flt .f64 x0)], [] => impl_isFinite φ x0 some
  | _, _ => none

def c_impl_isFinite : List AV → List Blk → Bool
  | [(.flt .f64 x0)], [] => true
  | _, _ => false

def A_impl_isFinite (φ : Nat) : Sum := .rd (S_impl_isFinite φ) impl_isFinite_val

def F_30 (φ : Nat) : FuncId → Option Sum := ins 40 (A_impl_isFinite φ) (F_29 φ)


/-! ### impl_IsFinite -/
def impl_IsFinite {ρ : Type} (φ : Nat) (x0 : Nat) (k : Bool → Option ρ) : Option ρ :=
  Option.bind (fconv .f32 x0 .f64) fun r0 =>
  Option.bind (impl_isFinite φ r0 some) fun r1 =>
  k r1

def impl_IsFinite_val (r : Bool) : AV := (.bool r)

def impl_IsFinite_L (φ : Nat) : Nat → Option LoopS := noL

def S_impl_IsFinite (φ : Nat) : List AV → List Blk → Option Bool
  | [(.flt .f32 x0)], [] => impl_IsFinite φ x0 some
  | _, _ => none

def c_impl_IsFinite : List AV → List Blk → Bool
  | [(.flt .f32 x0)], [] => true
  | _, _ => false

def A_impl_IsFinite (φ : Nat) : Sum := .rd (S_impl_IsFinite φ) impl_IsFinite_val

def F_31 (φ : Nat) : FuncId → Option Sum := ins 29 (A_impl_IsFinite φ) (F_30 φ)


/-! ### math_Abs -/
def math_Abs {ρ : Type} (φ : Nat) (x0 : Nat) (k : Nat → Option ρ) : Option ρ :=
  Option.bind (x_f64bits x0) fun r0 =>
  Option.bind (x_f64frombits (bits BinOp.andNot .u64 ((r0 : Nat) : Int) (9223372036854775808 : Int))) fun r1 =>
  k r1

def math_Abs_val (r : Nat) : AV := (.flt .f64 r)

def math_Abs_L (φ : Nat) : Nat → Option LoopS := noL

def S_math_Abs (φ : Nat) : List AV → List Blk → Option Nat
  | [(.flt .f64 x0)], [] => math_Abs φ x0 some
  | _, _ => none

def c_math_Abs : List AV → List Blk → Bool
  | [(.flt .f64 x0)], [] => true
  | _, _ => false

def A_math_Abs (φ : Nat) : Sum := .rd (S_math_Abs φ) math_Abs_val

def F_32 (φ : Nat) : FuncId → Option Sum := ins 42 (A_math_Abs φ) (F_31 φ)


/-! ### math_Trunc -/
def math_Trunc {ρ : Type} (φ : Nat) (x0 : Nat) (k : Nat → Option ρ) : Option ρ :=
  Option.bind (x_fround Ieee.Toward.zero x0) fun r0 =>
  k r0

def math_Trunc_val (r : Nat) : AV := (.flt .f64 r)

def math_Trunc_L (φ : Nat) : Nat → Option LoopS := noL

def S_math_Trunc (φ : Nat) : List AV → List Blk → Option Nat
  | [(.flt .f64 x0)], [] => math_Trunc φ x0 some
  | _, _ => none

def c_math_Trunc : List AV → List Blk → Bool
  | [(.flt .f64 x0)], [] => true
  | _, _ => false

def A_math_Trunc (φ : Nat) : Sum := .rd (S_math_Trunc φ) math_Trunc_val

def F_33 (φ : Nat) : FuncId → Option Sum := ins 49 (A_math_Trunc φ) (F_32 φ)


/-! ### impl_fraction -/
def impl_fraction_c4 {ρ : Type} (φ : Nat) (x1 : Nat) (x2 : Nat) (x3 : Nat) (k0 : Nat → Option ρ) : Option ρ :=
    bif (flt .f64 (fsub .f64 x1 x3) (can .f64 0)) then
      (k0 (fadd .f64 (fsub .f64 x1 x3) (can .f64 4607182418800017408)))
    else
      (k0 (fsub .f64 x1 x3))

def Lin_impl_fraction_c4 (φ : Nat) : Nat → Option LoopS := noL

def impl_fraction_c4_st (x1 : Nat) (x2 : Nat) (x3 : Nat) : St := (St.mk (spread 0 17 [0, 2, 3] [(.flt .f64 x1), (.flt .f64 x2), (.flt .f64 x3)]) [])

def impl_fraction_c4_s (φ : Nat) : LoopS := fun st K => match sel 0 [0, 2, 3] (norm 0 (hasN [0, 2, 3]) st).t, (norm 0 (hasN [0, 2, 3]) st).h with
  | [(.flt .f64 x1), (.flt .f64 x2), (.flt .f64 x3)], [] => bif normOk 0 (hasN [0, 2, 3]) st && Nat.beq (norm 0 (hasN [0, 2, 3]) st).t.length 17 then impl_fraction_c4 φ x1 x2 x3 (fun x5 => K .ret (St.mk (spread 0 17 [0, 2, 3] [(.flt .f64 x1), (.flt .f64 x5), (.flt .f64 x3)]) [])) else none
  | _, _ => none

def impl_fraction {ρ : Type} (φ : Nat) (x0 : Nat) (k : Nat → Option ρ) : Option ρ :=
  Option.bind (math_Trunc φ x0 some) fun r0 =>
  bif (feq .f64 r0 (can .f64 0)) then
    impl_fraction_c4 φ x0 (can .f64 0) (can .f64 0)
      (fun e7 =>
      k e7)
  else
    impl_fraction_c4 φ x0 (can .f64 0) r0
      (fun e8 =>
      k e8)

def impl_fraction_val (r : Nat) : AV := (.flt .f64 r)

def impl_fraction_L (φ : Nat) : Nat → Option LoopS := insL (cut 4) (impl_fraction_c4_s φ) (noL)

def S_impl_fraction (φ : Nat) : List AV → List Blk → Option Nat
  | [(.flt .f64 x0)], [] => impl_fraction φ x0 some
  | _, _ => none

def c_impl_fraction : List AV → List Blk → Bool
  | [(.flt .f64 x0)], [] => true
  | _, _ => false

def A_impl_fraction (φ : Nat) : Sum := .rd (S_impl_fraction φ) impl_fraction_val

def F_34 (φ : Nat) : FuncId → Option Sum := ins 47 (A_impl_fraction φ) (F_33 φ)


/-! ### impl_sine -/
def impl_sine_11 {ρ : Type} (φ : Nat) (b7 : Bool) (x8 : Nat) (x9 : Nat) : Nat → Nat → Int → (Nat → Int → Option ρ) → Option ρ
  | 0, _, _, _ => none
  | n + 1, x10, n11, k0 =>
    bif (decide (n11 ≥ (1 : Int))) then
      impl_sine_11 φ b7 x8 x9 n (fsub .f64 (can .f64 4607182418800017408) (fdiv .f64 (fmul .f64 x9 x10) (itof .f64 (IntKind.wrap .i64 ((IntKind.wrap .i64 ((2 : Int) * n11)) * (IntKind.wrap .i64 ((IntKind.wrap .i64 ((2 : Int) * n11)) + (1 : Int)))))))) (IntKind.wrap .i64 (n11 - (1 : Int))) k0
    else
      (k0 x10 n11)

def Lin_impl_sine_11 (φ : Nat) : Nat → Option LoopS := noL

def impl_sine_11_st (b7 : Bool) (x8 : Nat) (x9 : Nat) (x10 : Nat) (n11 : Int) : St := (St.mk (spread 0 49 [4, 5, 6, 7, 8] [(.bool b7), (.flt .f64 x8), (.flt .f64 x9), (.flt .f64 x10), (.int .i64 n11)]) [])

def impl_sine_11_s (φ : Nat) : LoopS := fun st K => match sel 0 [4, 5, 6, 7, 8] (norm 0 (hasN [4, 5, 6, 7, 8]) st).t, (norm 0 (hasN [4, 5, 6, 7, 8]) st).h with
  | [(.bool b7), (.flt .f64 x8), (.flt .f64 x9), (.flt .f64 x10), (.int .i64 n11)], [] => bif normOk 0 (hasN [4, 5, 6, 7, 8]) st && Nat.beq (norm 0 (hasN [4, 5, 6, 7, 8]) st).t.length 49 then impl_sine_11 φ b7 x8 x9 φ x10 n11 (fun x15 n16 => K (.exit 0) (St.mk (spread 0 49 [4, 5, 6, 7, 8] [(.bool b7), (.flt .f64 x8), (.flt .f64 x9), (.flt .f64 x15), (.int .i64 n16)]) [])) else none
  | _, _ => none

def impl_sine_c7 {ρ : Type} (φ : Nat) (x4 : Nat) (x5 : Nat) (b6 : Bool) (k0 : Nat → Option ρ) : Option ρ :=
    impl_sine_11 φ b6 (fmul .f64 x5 (can .f64 4618760256179416344)) (fmul .f64 (fmul .f64 x5 (can .f64 4618760256179416344)) (fmul .f64 x5 (can .f64 4618760256179416344))) φ (can .f64 4607182418800017408) (8 : Int)
      (fun e17 e18 =>
      bif b6 then
        (k0 (fneg .f64 (fmul .f64 (fmul .f64 x5 (can .f64 4618760256179416344)) e17)))
      else
        (k0 (fmul .f64 (fmul .f64 x5 (can .f64 4618760256179416344)) e17)))

def Lin_impl_sine_c7 (φ : Nat) : Nat → Option LoopS := insL 11 (impl_sine_11_s φ) (noL)

def impl_sine_c7_st (x4 : Nat) (x5 : Nat) (b6 : Bool) : St := (St.mk (spread 0 49 [2, 3, 4] [(.flt .f64 x4), (.flt .f64 x5), (.bool b6)]) [])

def impl_sine_c7_s (φ : Nat) : LoopS := fun st K => match sel 0 [2, 3, 4] (norm 0 (hasN [2, 3, 4]) st).t, (norm 0 (hasN [2, 3, 4]) st).h with
  | [(.flt .f64 x4), (.flt .f64 x5), (.bool b6)], [] => bif normOk 0 (hasN [2, 3, 4]) st && Nat.beq (norm 0 (hasN [2, 3, 4]) st).t.length 49 then impl_sine_c7 φ x4 x5 b6 (fun x19 => K .ret (St.mk (spread 0 49 [2, 4] [(.flt .f64 x19), (.bool b6)]) [])) else none
  | _, _ => none

def impl_sine_c5 {ρ : Type} (φ : Nat) (x1 : Nat) (x2 : Nat) (b3 : Bool) (k0 : Nat → Option ρ) : Option ρ :=
    bif (fgt .f64 x2 (can .f64 4598175219545276416)) then
      impl_sine_c7 φ x1 (fsub .f64 (can .f64 4602678819172646912) x2) b3
        (fun e21 =>
        (k0 e21))
    else
      impl_sine_c7 φ x1 x2 b3
        (fun e22 =>
        (k0 e22))

def Lin_impl_sine_c5 (φ : Nat) : Nat → Option LoopS := insL (cut 7) (impl_sine_c7_s φ) (noL)

def impl_sine_c5_st (x1 : Nat) (x2 : Nat) (b3 : Bool) : St := (St.mk (spread 0 49 [2, 3, 4] [(.flt .f64 x1), (.flt .f64 x2), (.bool b3)]) [])

def impl_sine_c5_s (φ : Nat) : LoopS := fun st K => match sel 0 [2, 3, 4] (norm 0 (hasN [2, 3, 4]) st).t, (norm 0 (hasN [2, 3, 4]) st).h with
  | [(.flt .f64 x1), (.flt .f64 x2), (.bool b3)], [] => bif normOk 0 (hasN [2, 3, 4]) st && Nat.beq (norm 0 (hasN [2, 3, 4]) st).t.length 49 then impl_sine_c5 φ x1 x2 b3 (fun x23 => K .ret (St.mk (spread 0 49 [2, 4] [(.flt .f64 x23), (.bool b3)]) [])) else none
  | _, _ => none

def impl_sine {ρ : Type} (φ : Nat) (x0 : Nat) (k : Nat → Option ρ) : Option ρ :=
  Option.bind (impl_fraction φ x0 some) fun r0 =>
  bif (fge .f64 r0 (can .f64 4602678819172646912)) then
    impl_sine_c5 φ (can .f64 0) (fsub .f64 r0 (can .f64 4602678819172646912)) (fge .f64 r0 (can .f64 4602678819172646912))
      (fun e25 =>
      k e25)
  else
    impl_sine_c5 φ (can .f64 0) r0 (fge .f64 r0 (can .f64 4602678819172646912))
      (fun e26 =>
      k e26)

def impl_sine_val (r : Nat) : AV := (.flt .f64 r)

def impl_sine_L (φ : Nat) : Nat → Option LoopS := insL (cut 5) (impl_sine_c5_s φ) (noL)

def S_impl_sine (φ : Nat) : List AV → List Blk → Option Nat
  | [(.flt .f64 x0)], [] => impl_sine φ x0 some
  | _, _ => none

def c_impl_sine : List AV → List Blk → Bool
  | [(.flt .f64 x0)], [] => true
  | _, _ => false

def A_impl_sine (φ : Nat) : Sum := .rd (S_impl_sine φ) impl_sine_val

def F_35 (φ : Nat) : FuncId → Option Sum := ins 43 (A_impl_sine φ) (F_34 φ)


/-! ### impl_SineTurns -/
def impl_SineTurns {ρ : Type} (φ : Nat) (x0 : Nat) (k : Nat → Option ρ) : Option ρ :=
  Option.bind (fconv .f32 x0 .f64) fun r0 =>
  Option.bind (impl_isFinite φ r0 some) fun r1 =>
  bif (!r1) then
    Option.bind (math_NaN φ some) fun r2 =>
    Option.bind (fconv .f64 r2 .f32) fun r3 =>
    k r3
  else
    Option.bind (math_Abs φ r0 some) fun r4 =>
    bif (fge .f64 r4 (can .f64 4841369599423283200)) then
      k (can .f32 0)
    else
      Option.bind (impl_sine φ r0 some) fun r5 =>
      Option.bind (fconv .f64 r5 .f32) fun r6 =>
      k r6

def impl_SineTurns_val (r : Nat) : AV := (.flt .f32 r)

def impl_SineTurns_L (φ : Nat) : Nat → Option LoopS := noL

def S_impl_SineTurns (φ : Nat) : List AV → List Blk → Option Nat
  | [(.flt .f32 x0)], [] => impl_SineTurns φ x0 some
  | _, _ => none

def c_impl_SineTurns : List AV → List Blk → Bool
  | [(.flt .f32 x0)], [] => true
  | _, _ => false

def A_impl_SineTurns (φ : Nat) : Sum := .rd (S_impl_SineTurns φ) impl_SineTurns_val

def F_36 (φ : Nat) : FuncId → Option Sum := ins 30 (A_impl_SineTurns φ) (F_35 φ)


/-! ### impl_NotchTrace -/
def impl_NotchTrace_6 {ρ : Type} (φ : Nat) (x9 : Nat) (n10 : Int) (b12 : Bool) (e13 : Nat) (l14 : (List Nat)) : Nat → Int → (List Nat) → (Int → (List Nat) → Option ρ) → Option ρ
  | 0, _, _, _ => none
  | n + 1, n11, l15, k0 =>
    bif (decide (n11 < n10)) then
      Option.bind (idx n11 (List.length l14)) fun r16 =>
      Option.bind (l14[r16]?) fun r17 =>
      Option.bind (impl_at φ (IntKind.wrap .i64 (n11 - (1 : Int))) b12 e13 l14 some) fun r18 =>
      Option.bind (impl_at φ (IntKind.wrap .i64 (n11 - (2 : Int))) b12 e13 l14 some) fun r19 =>
      Option.bind (room ((Nat.add (List.length l15) 0) + 1) 4) fun r20 =>
      impl_NotchTrace_6 φ x9 n10 b12 e13 l14 n (IntKind.wrap .i64 (n11 + (1 : Int))) (l15 ++ [(fadd .f32 (fsub .f32 r17 (fmul .f32 x9 r18)) r19)]) k0
    else
      (k0 n11 l15)

def Lin_impl_NotchTrace_6 (φ : Nat) : Nat → Option LoopS := noL

def impl_NotchTrace_6_st (x9 : Nat) (n10 : Int) (n11 : Int) (b12 : Bool) (e13 : Nat) (l14 : (List Nat)) (l15 : (List Nat)) : St := (St.mk (spread 0 49 [0, 6, 7, 23, 24, 25] [(.whole 0), (.flt .f32 x9), (.whole 1), (.whole 0), (.int .i64 n10), (.int .i64 n11)]) [(.vec b12 e13 (.flt .f32) l14), (.vec Bool.true 34 (.flt .f32) l15)])

def impl_NotchTrace_6_s (φ : Nat) : LoopS := fun st K => match sel 0 [0, 6, 7, 23, 24, 25] (norm 1 (hasN [0, 6, 7, 23, 24, 25]) st).t, (norm 1 (hasN [0, 6, 7, 23, 24, 25]) st).h with
  | [(.whole 0), (.flt .f32 x9), (.whole 1), (.whole 0), (.int .i64 n10), (.int .i64 n11)], [(.vec b12 e13 (.flt .f32) l14), (.vec Bool.true 34 (.flt .f32) l15)] => bif normOk 1 (hasN [0, 6, 7, 23, 24, 25]) st && Nat.beq (norm 1 (hasN [0, 6, 7, 23, 24, 25]) st).t.length 49 then impl_NotchTrace_6 φ x9 n10 b12 e13 l14 φ n11 l15 (fun n23 l27 => K (.exit 0) (St.mk (spread 0 49 [0, 6, 7, 23, 24, 25] [(.whole 0), (.flt .f32 x9), (.whole 1), (.whole 0), (.int .i64 n10), (.int .i64 n23)]) [(.vec b12 e13 (.flt .f32) l14), (.vec Bool.true 34 (.flt .f32) l27)])) else none
  | _, _ => none

def impl_NotchTrace_c3 {ρ : Type} (φ : Nat) (x2 : Nat) (b3 : Bool) (b4 : Bool) (e5 : Nat) (l6 : (List Nat)) (l7 : (List Nat)) (k0 : (List Nat) → Option ρ) : Option ρ :=
    Option.bind (impl_SineTurns φ (fadd .f32 x2 (can .f32 1048576000)) some) fun r8 =>
    impl_NotchTrace_6 φ (fmul .f32 (can .f32 1073741824) r8) (((List.length l6) : Nat) : Int) b4 e5 l6 φ (0 : Int) []
      (fun e28 e29 =>
      (k0 e29))

def Lin_impl_NotchTrace_c3 (φ : Nat) : Nat → Option LoopS := insL 6 (impl_NotchTrace_6_s φ) (noL)

def impl_NotchTrace_c3_st (x2 : Nat) (b3 : Bool) (b4 : Bool) (e5 : Nat) (l6 : (List Nat)) (l7 : (List Nat)) : St := (St.mk (spread 0 49 [0, 1, 4, 5] [(.whole 0), (.flt .f32 x2), (.whole 1), (.bool b3)]) [(.vec b4 e5 (.flt .f32) l6), (.vec Bool.true 34 (.flt .f32) l7)])

def impl_NotchTrace_c3_s (φ : Nat) : LoopS := fun st K => match sel 0 [0, 1, 4, 5] (norm 1 (hasN [0, 1, 4, 5]) st).t, (norm 1 (hasN [0, 1, 4, 5]) st).h with
  | [(.whole 0), (.flt .f32 x2), (.whole 1), (.bool b3)], [(.vec b4 e5 (.flt .f32) l6), (.vec Bool.true 34 (.flt .f32) l7)] => bif normOk 1 (hasN [0, 1, 4, 5]) st && Nat.beq (norm 1 (hasN [0, 1, 4, 5]) st).t.length 49 then impl_NotchTrace_c3 φ x2 b3 b4 e5 l6 l7 (fun l34 => K .ret (St.mk (spread 0 49 [0, 4, 5] [(.whole 0), (.whole 1), (.bool Bool.true)]) [(.vec b4 e5 (.flt .f32) l6), (.vec Bool.true 34 (.flt .f32) l34)])) else none
  | _, _ => none

def impl_NotchTrace {ρ : Type} (φ : Nat) (x2 : Nat) (b3 : Bool) (e4 : Nat) (l5 : (List Nat)) (k : (Bool × (List Nat)) → Option ρ) : Option ρ :=
  Option.bind (impl_IsTrace φ b3 e4 l5 some) fun r0 =>
  bif (!r0) then
    k (Bool.false, [])
  else
    Option.bind (impl_IsFinite φ x2 some) fun r1 =>
    bif (!r1) then
      k (Bool.false, [])
    else
      impl_NotchTrace_c3 φ x2 Bool.false b3 e4 l5 []
        (fun e35 =>
        k (Bool.true, e35))

def impl_NotchTrace_val (r : (Bool × (List Nat))) : AV × List Blk := ((.tup [(.whole 1), (.bool r.1)]), [(.vec Bool.true 34 (.flt .f32) r.2)])

def impl_NotchTrace_L (φ : Nat) : Nat → Option LoopS := insL (cut 3) (impl_NotchTrace_c3_s φ) (noL)

def S_impl_NotchTrace (φ : Nat) : List AV → List Blk → Option (Bool × (List Nat))
  | [(.whole 0), (.flt .f32 x2)], [(.vec b3 e4 (.flt .f32) l5)] => impl_NotchTrace φ x2 b3 e4 l5 some
  | _, _ => none

def c_impl_NotchTrace : List AV → List Blk → Bool
  | [(.whole 0), (.flt .f32 x2)], [(.vec b3 e4 (.flt .f32) l5)] => true
  | _, _ => false

def A_impl_NotchTrace (φ : Nat) : Sum := .mk (S_impl_NotchTrace φ) impl_NotchTrace_val

def F_37 (φ : Nat) : FuncId → Option Sum := ins 15 (A_impl_NotchTrace φ) (F_36 φ)


/-! ### impl_MuteTrace -/
def impl_MuteTrace_c3 {ρ : Type} (φ : Nat) (n4 : Int) (n5 : Int) (b6 : Bool) (b7 : Bool) (e8 : Nat) (l9 : (List Nat)) (l10 : (List Nat)) (k0 : (List Nat) → Option ρ) : Option ρ :=
    Option.bind (slices_Clone_float32_float32 φ b7 e8 l9 some) fun r11 =>
    Option.bind (upto n5 (List.length r11)) fun r12 =>
    Option.bind (upto n4 r12) fun r13 =>
    bif (Bool.true && (Nat.ble (r13 + (r12 - r13)) (List.length r11))) then
      (k0 (List.append ((List.take r13 r11) ++ (List.replicate (r12 - r13) 0)) (List.drop (r13 + (List.length (List.replicate (r12 - r13) 0))) r11)))
    else
      none

def Lin_impl_MuteTrace_c3 (φ : Nat) : Nat → Option LoopS := noL

def impl_MuteTrace_c3_st (n4 : Int) (n5 : Int) (b6 : Bool) (b7 : Bool) (e8 : Nat) (l9 : (List Nat)) (l10 : (List Nat)) : St := (St.mk (spread 0 32 [0, 1, 2, 6, 7] [(.whole 0), (.int .i64 n4), (.int .i64 n5), (.whole 1), (.bool b6)]) [(.vec b7 e8 (.flt .f32) l9), (.vec Bool.true 34 (.flt .f32) l10)])

def impl_MuteTrace_c3_s (φ : Nat) : LoopS := fun st K => match sel 0 [0, 1, 2, 6, 7] (norm 1 (hasN [0, 1, 2, 6, 7]) st).t, (norm 1 (hasN [0, 1, 2, 6, 7]) st).h with
  | [(.whole 0), (.int .i64 n4), (.int .i64 n5), (.whole 1), (.bool b6)], [(.vec b7 e8 (.flt .f32) l9), (.vec Bool.true 34 (.flt .f32) l10)] => bif normOk 1 (hasN [0, 1, 2, 6, 7]) st && Nat.beq (norm 1 (hasN [0, 1, 2, 6, 7]) st).t.length 32 then impl_MuteTrace_c3 φ n4 n5 b6 b7 e8 l9 l10 (fun l20 => K .ret (St.mk (spread 0 32 [0, 1, 2, 6, 7] [(.whole 0), (.int .i64 n4), (.int .i64 n5), (.whole 1), (.bool Bool.true)]) [(.vec b7 e8 (.flt .f32) l9), (.vec Bool.true 34 (.flt .f32) l20)])) else none
  | _, _ => none

def impl_MuteTrace {ρ : Type} (φ : Nat) (n2 : Int) (n3 : Int) (b4 : Bool) (e5 : Nat) (l6 : (List Nat)) (k : (Bool × (List Nat)) → Option ρ) : Option ρ :=
  Option.bind (impl_IsTrace φ b4 e5 l6 some) fun r0 =>
  bif (!r0) then
    k (Bool.false, [])
  else
    Option.bind (impl_length_float32 φ b4 e5 l6 some) fun r1 =>
    Option.bind (impl_within φ n3 (0 : Int) r1 some) fun r2 =>
    bif (!r2) then
      k (Bool.false, [])
    else
      Option.bind (impl_within φ n2 (0 : Int) n3 some) fun r3 =>
      bif (!r3) then
        k (Bool.false, [])
      else
        impl_MuteTrace_c3 φ n2 n3 Bool.false b4 e5 l6 []
          (fun e21 =>
          k (Bool.true, e21))

def impl_MuteTrace_val (r : (Bool × (List Nat))) : AV × List Blk := ((.tup [(.whole 1), (.bool r.1)]), [(.vec Bool.true 34 (.flt .f32) r.2)])

def impl_MuteTrace_L (φ : Nat) : Nat → Option LoopS := insL (cut 3) (impl_MuteTrace_c3_s φ) (noL)

def S_impl_MuteTrace (φ : Nat) : List AV → List Blk → Option (Bool × (List Nat))
  | [(.whole 0), (.int .i64 n2), (.int .i64 n3)], [(.vec b4 e5 (.flt .f32) l6)] => impl_MuteTrace φ n2 n3 b4 e5 l6 some
  | _, _ => none

def c_impl_MuteTrace : List AV → List Blk → Bool
  | [(.whole 0), (.int .i64 n2), (.int .i64 n3)], [(.vec b4 e5 (.flt .f32) l6)] => true
  | _, _ => false

def A_impl_MuteTrace (φ : Nat) : Sum := .mk (S_impl_MuteTrace φ) impl_MuteTrace_val

def F_38 (φ : Nat) : FuncId → Option Sum := ins 17 (A_impl_MuteTrace φ) (F_37 φ)


/-! ### impl_TaperTrace -/
def impl_TaperTrace_8 {ρ : Type} (φ : Nat) (n19 : Int) (n20 : Int) (n21 : Int) (n22 : Int) (n23 : Int) (b25 : Bool) (e26 : Nat) (l27 : (List Nat)) (l29 : (List Int)) : Nat → Int → (List Nat) → (Int → (List Nat) → Option ρ) → Option ρ
  | 0, _, _, _ => none
  | n + 1, n24, l28, k0 =>
    bif (decide (n24 < n23)) then
      Option.bind (idx n24 (List.length l29)) fun r30 =>
      Option.bind (l29[r30]?) fun r31 =>
      Option.bind (idx r31 (List.length l28)) fun r32 =>
      Option.bind (l28[r32]?) fun r33 =>
      Option.bind (idx r31 (List.length l28)) fun r34 =>
      Option.bind (l28[r34]?) fun r35 =>
      impl_TaperTrace_8 φ n19 n20 n21 n22 n23 b25 e26 l27 l29 n (IntKind.wrap .i64 (n24 + (1 : Int))) (List.set l28 r34 (fdiv .f32 (fmul .f32 r33 (itof .f32 (IntKind.wrap .i64 (n20 + (1 : Int))))) (itof .f32 (IntKind.wrap .i64 (n19 + (1 : Int)))))) k0
    else
      (k0 n24 l28)

def Lin_impl_TaperTrace_8 (φ : Nat) : Nat → Option LoopS := noL

def impl_TaperTrace_8_st (n19 : Int) (n20 : Int) (n21 : Int) (n22 : Int) (n23 : Int) (n24 : Int) (b25 : Bool) (e26 : Nat) (l27 : (List Nat)) (l28 : (List Nat)) (l29 : (List Int)) : St := (St.mk (spread 0 57 [0, 1, 6, 7, 23, 24, 33, 34, 35] [(.whole 0), (.int .i64 n19), (.whole 1), (.int .i64 n20), (.int .i64 n21), (.int .i64 n22), (.whole 2), (.int .i64 n23), (.int .i64 n24)]) [(.vec b25 e26 (.flt .f32) l27), (.vec Bool.true 34 (.flt .f32) l28), (.vec Bool.true 2 (.int .i64) l29)])

def impl_TaperTrace_8_s (φ : Nat) : LoopS := fun st K => match sel 0 [0, 1, 6, 7, 23, 24, 33, 34, 35] (norm 1 (hasN [0, 1, 6, 7, 23, 24, 33, 34, 35]) st).t, (norm 1 (hasN [0, 1, 6, 7, 23, 24, 33, 34, 35]) st).h with
  | [(.whole 0), (.int .i64 n19), (.whole 1), (.int .i64 n20), (.int .i64 n21), (.int .i64 n22), (.whole 2), (.int .i64 n23), (.int .i64 n24)], [(.vec b25 e26 (.flt .f32) l27), (.vec Bool.true 34 (.flt .f32) l28), (.vec Bool.true 2 (.int .i64) l29)] => bif normOk 1 (hasN [0, 1, 6, 7, 23, 24, 33, 34, 35]) st && Nat.beq (norm 1 (hasN [0, 1, 6, 7, 23, 24, 33, 34, 35]) st).t.length 57 then impl_TaperTrace_8 φ n19 n20 n21 n22 n23 b25 e26 l27 l29 φ n24 l28 (fun n41 l45 => K (.exit 2) (St.mk (spread 0 57 [0, 1, 6, 7, 23, 24, 33, 34, 35] [(.whole 0), (.int .i64 n19), (.whole 1), (.int .i64 n20), (.int .i64 n21), (.int .i64 n22), (.whole 2), (.int .i64 n23), (.int .i64 n41)]) [(.vec b25 e26 (.flt .f32) l27), (.vec Bool.true 34 (.flt .f32) l45), (.vec Bool.true 2 (.int .i64) l29)])) else none
  | _, _ => none

def impl_TaperTrace_5 {ρ : Type} (φ : Nat) (n11 : Int) (n12 : Int) (b14 : Bool) (e15 : Nat) (l16 : (List Nat)) : Nat → Int → (List Nat) → (Int → (List Nat) → Option ρ) → Option ρ
  | 0, _, _, _ => none
  | n + 1, n13, l17, k0 =>
    bif (decide (n13 < n12)) then
      Option.bind (impl_length_float32 φ b14 e15 l16 some) fun r18 =>
      impl_TaperTrace_8 φ n11 n13 n12 n13 ((2 : Nat) : Int) b14 e15 l16 [n13, (IntKind.wrap .i64 ((IntKind.wrap .i64 (r18 - (1 : Int))) - n13))] φ (0 : Int) l17
        (fun e47 e48 =>
        impl_TaperTrace_5 φ n11 n12 b14 e15 l16 n (IntKind.wrap .i64 (n13 + (1 : Int))) e48 k0)
    else
      (k0 n13 l17)

def Lin_impl_TaperTrace_5 (φ : Nat) : Nat → Option LoopS := insL 8 (impl_TaperTrace_8_s φ) (noL)

def impl_TaperTrace_5_st (n11 : Int) (n12 : Int) (n13 : Int) (b14 : Bool) (e15 : Nat) (l16 : (List Nat)) (l17 : (List Nat)) : St := (St.mk (spread 0 57 [0, 1, 6, 23, 24] [(.whole 0), (.int .i64 n11), (.whole 1), (.int .i64 n12), (.int .i64 n13)]) [(.vec b14 e15 (.flt .f32) l16), (.vec Bool.true 34 (.flt .f32) l17)])

def impl_TaperTrace_5_s (φ : Nat) : LoopS := fun st K => match sel 0 [0, 1, 6, 23, 24] (norm 1 (hasN [0, 1, 6, 23, 24]) st).t, (norm 1 (hasN [0, 1, 6, 23, 24]) st).h with
  | [(.whole 0), (.int .i64 n11), (.whole 1), (.int .i64 n12), (.int .i64 n13)], [(.vec b14 e15 (.flt .f32) l16), (.vec Bool.true 34 (.flt .f32) l17)] => bif normOk 1 (hasN [0, 1, 6, 23, 24]) st && Nat.beq (norm 1 (hasN [0, 1, 6, 23, 24]) st).t.length 57 then impl_TaperTrace_5 φ n11 n12 b14 e15 l16 φ n13 l17 (fun n51 l55 => K (.exit 0) (St.mk (spread 0 57 [0, 1, 6, 23, 24] [(.whole 0), (.int .i64 n11), (.whole 1), (.int .i64 n12), (.int .i64 n51)]) [(.vec b14 e15 (.flt .f32) l16), (.vec Bool.true 34 (.flt .f32) l55)])) else none
  | _, _ => none

def impl_TaperTrace_c3 {ρ : Type} (φ : Nat) (n4 : Int) (b5 : Bool) (b6 : Bool) (e7 : Nat) (l8 : (List Nat)) (l9 : (List Nat)) (k0 : (List Nat) → Option ρ) : Option ρ :=
    Option.bind (slices_Clone_float32_float32 φ b6 e7 l8 some) fun r10 =>
    impl_TaperTrace_5 φ n4 n4 b6 e7 l8 φ (0 : Int) r10
      (fun e56 e57 =>
      (k0 e57))

def Lin_impl_TaperTrace_c3 (φ : Nat) : Nat → Option LoopS := insL 5 (impl_TaperTrace_5_s φ) (noL)

def impl_TaperTrace_c3_st (n4 : Int) (b5 : Bool) (b6 : Bool) (e7 : Nat) (l8 : (List Nat)) (l9 : (List Nat)) : St := (St.mk (spread 0 57 [0, 1, 4, 5] [(.whole 0), (.int .i64 n4), (.whole 1), (.bool b5)]) [(.vec b6 e7 (.flt .f32) l8), (.vec Bool.true 34 (.flt .f32) l9)])

def impl_TaperTrace_c3_s (φ : Nat) : LoopS := fun st K => match sel 0 [0, 1, 4, 5] (norm 1 (hasN [0, 1, 4, 5]) st).t, (norm 1 (hasN [0, 1, 4, 5]) st).h with
  | [(.whole 0), (.int .i64 n4), (.whole 1), (.bool b5)], [(.vec b6 e7 (.flt .f32) l8), (.vec Bool.true 34 (.flt .f32) l9)] => bif normOk 1 (hasN [0, 1, 4, 5]) st && Nat.beq (norm 1 (hasN [0, 1, 4, 5]) st).t.length 57 then impl_TaperTrace_c3 φ n4 b5 b6 e7 l8 l9 (fun l63 => K .ret (St.mk (spread 0 57 [0, 1, 4, 5] [(.whole 0), (.int .i64 n4), (.whole 1), (.bool Bool.true)]) [(.vec b6 e7 (.flt .f32) l8), (.vec Bool.true 34 (.flt .f32) l63)])) else none
  | _, _ => none

def impl_TaperTrace {ρ : Type} (φ : Nat) (n2 : Int) (b3 : Bool) (e4 : Nat) (l5 : (List Nat)) (k : (Bool × (List Nat)) → Option ρ) : Option ρ :=
  Option.bind (impl_IsTrace φ b3 e4 l5 some) fun r0 =>
  bif (!r0) then
    k (Bool.false, [])
  else
    Option.bind (impl_length_float32 φ b3 e4 l5 some) fun r1 =>
    Option.bind (nonzero (2 : Int)) fun r2 =>
    Option.bind (impl_within φ n2 (0 : Int) (IntKind.wrap .i64 (Int.tdiv r1 (2 : Int))) some) fun r3 =>
    bif (!r3) then
      k (Bool.false, [])
    else
      impl_TaperTrace_c3 φ n2 Bool.false b3 e4 l5 []
        (fun e64 =>
        k (Bool.true, e64))

def impl_TaperTrace_val (r : (Bool × (List Nat))) : AV × List Blk := ((.tup [(.whole 1), (.bool r.1)]), [(.vec Bool.true 34 (.flt .f32) r.2)])

def impl_TaperTrace_L (φ : Nat) : Nat → Option LoopS := insL (cut 3) (impl_TaperTrace_c3_s φ) (noL)

def S_impl_TaperTrace (φ : Nat) : List AV → List Blk → Option (Bool × (List Nat))
  | [(.whole 0), (.int .i64 n2)], [(.vec b3 e4 (.flt .f32) l5)] => impl_TaperTrace φ n2 b3 e4 l5 some
  | _, _ => none

def c_impl_TaperTrace : List AV → List Blk → Bool
  | [(.whole 0), (.int .i64 n2)], [(.vec b3 e4 (.flt .f32) l5)] => true
  | _, _ => false

def A_impl_TaperTrace (φ : Nat) : Sum := .mk (S_impl_TaperTrace φ) impl_TaperTrace_val

def F_39 (φ : Nat) : FuncId → Option Sum := ins 18 (A_impl_TaperTrace φ) (F_38 φ)


/-! ### impl_energy -/
def impl_energy_3 {ρ : Type} (φ : Nat) (lo1 : Nat) (len2 : Nat) (n3 : Int) (b5 : Bool) (e6 : Nat) (l7 : (List Nat)) : Nat → Nat → Int → (Nat → Int → Option ρ) → Option ρ
  | 0, _, _, _ => none
  | n + 1, x0, n4, k0 =>
    bif (decide (n4 < n3)) then
      Option.bind (idx n4 len2) fun r8 =>
      Option.bind (l7[(lo1 + r8)]?) fun r9 =>
      impl_energy_3 φ lo1 len2 n3 b5 e6 l7 n (fadd .f32 x0 (fmul .f32 r9 r9)) (IntKind.wrap .i64 (n4 + (1 : Int))) k0
    else
      (k0 x0 n4)

def Lin_impl_energy_3 (φ : Nat) : Nat → Option LoopS := noL

def impl_energy_3_st (x0 : Nat) (lo1 : Nat) (len2 : Nat) (n3 : Int) (n4 : Int) (b5 : Bool) (e6 : Nat) (l7 : (List Nat)) : St := (St.mk (spread 0 19 [3, 6, 7, 8] [(.flt .f32 x0), (.sub 0 lo1 len2 1), (.int .i64 n3), (.int .i64 n4)]) [(.vec b5 e6 (.flt .f32) l7)])

def impl_energy_3_s (φ : Nat) : LoopS := fun st K => match sel 0 [3, 6, 7, 8] (norm 1 (hasN [3, 6, 7, 8]) st).t, (norm 1 (hasN [3, 6, 7, 8]) st).h with
  | [(.flt .f32 x0), (.sub 0 lo1 len2 1), (.int .i64 n3), (.int .i64 n4)], [(.vec b5 e6 (.flt .f32) l7)] => bif normOk 1 (hasN [3, 6, 7, 8]) st && Nat.beq (norm 1 (hasN [3, 6, 7, 8]) st).t.length 19 then impl_energy_3 φ lo1 len2 n3 b5 e6 l7 φ x0 n4 (fun x10 n14 => K (.exit 0) (St.mk (spread 0 19 [3, 6, 7, 8] [(.flt .f32 x10), (.sub 0 lo1 len2 1), (.int .i64 n3), (.int .i64 n14)]) [(.vec b5 e6 (.flt .f32) l7)])) else none
  | _, _ => none

def impl_energy {ρ : Type} (φ : Nat) (lo2 : Nat) (len3 : Nat) (b4 : Bool) (e5 : Nat) (l6 : (List Nat)) (k : Nat → Option ρ) : Option ρ :=
  impl_energy_3 φ lo2 len3 ((len3 : Nat) : Int) b4 e5 l6 φ (can .f32 0) (0 : Int)
    (fun e18 e19 =>
    k e18)

def impl_energy_val (r : Nat) : AV := (.flt .f32 r)

def impl_energy_L (φ : Nat) : Nat → Option LoopS := insL 3 (impl_energy_3_s φ) (noL)

def S_impl_energy (φ : Nat) : List AV → List Blk → Option Nat
  | [(.sub 0 lo2 len3 1)], [(.vec b4 e5 (.flt .f32) l6)] => impl_energy φ lo2 len3 b4 e5 l6 some
  | _, _ => none

def c_impl_energy : List AV → List Blk → Bool
  | [(.sub 0 lo2 len3 1)], [(.vec b4 e5 (.flt .f32) l6)] => true
  | _, _ => false

def A_impl_energy (φ : Nat) : Sum := .rd (S_impl_energy φ) impl_energy_val

def F_40 (φ : Nat) : FuncId → Option Sum := ins 35 (A_impl_energy φ) (F_39 φ)


/-! ### math_Sqrt -/
def math_Sqrt {ρ : Type} (φ : Nat) (x0 : Nat) (k : Nat → Option ρ) : Option ρ :=
  Option.bind (x_sqrt x0) fun r0 =>
  k r0

def math_Sqrt_val (r : Nat) : AV := (.flt .f64 r)

def math_Sqrt_L (φ : Nat) : Nat → Option LoopS := noL

def S_math_Sqrt (φ : Nat) : List AV → List Blk → Option Nat
  | [(.flt .f64 x0)], [] => math_Sqrt φ x0 some
  | _, _ => none

def c_math_Sqrt : List AV → List Blk → Bool
  | [(.flt .f64 x0)], [] => true
  | _, _ => false

def A_math_Sqrt (φ : Nat) : Sum := .rd (S_math_Sqrt φ) math_Sqrt_val

def F_41 (φ : Nat) : FuncId → Option Sum := ins 44 (A_math_Sqrt φ) (F_40 φ)


/-! ### impl_RootNumber -/
def impl_RootNumber {ρ : Type} (φ : Nat) (x0 : Nat) (k : Nat → Option ρ) : Option ρ :=
  Option.bind (fconv .f32 x0 .f64) fun r0 =>
  Option.bind (math_Sqrt φ r0 some) fun r1 =>
  Option.bind (fconv .f64 r1 .f32) fun r2 =>
  k r2

def impl_RootNumber_val (r : Nat) : AV := (.flt .f32 r)

def impl_RootNumber_L (φ : Nat) : Nat → Option LoopS := noL

def S_impl_RootNumber (φ : Nat) : List AV → List Blk → Option Nat
  | [(.flt .f32 x0)], [] => impl_RootNumber φ x0 some
  | _, _ => none

def c_impl_RootNumber : List AV → List Blk → Bool
  | [(.flt .f32 x0)], [] => true
  | _, _ => false

def A_impl_RootNumber (φ : Nat) : Sum := .rd (S_impl_RootNumber φ) impl_RootNumber_val

def F_42 (φ : Nat) : FuncId → Option Sum := ins 34 (A_impl_RootNumber φ) (F_41 φ)


/-! ### impl_GainTrace -/
def impl_GainTrace_5 {ρ : Type} (φ : Nat) (n10 : Int) (n11 : Int) (b13 : Bool) (e14 : Nat) (l15 : (List Nat)) : Nat → Int → (List Nat) → (Int → (List Nat) → Option ρ) → Option ρ
  | 0, _, _, _ => none
  | n + 1, n12, l16, k0 =>
    bif (decide (n12 < n11)) then
      Option.bind (idx n12 (List.length l15)) fun r17 =>
      Option.bind (l15[r17]?) fun r18 =>
      Option.bind (impl_length_float32 φ b13 e14 l15 some) fun r19 =>
      Option.bind (upto (bif Bool.false then (ite ((IntKind.wrap .i64 ((IntKind.wrap .i64 (n12 + n10)) + (1 : Int))) > r19) (IntKind.wrap .i64 ((IntKind.wrap .i64 (n12 + n10)) + (1 : Int))) r19) else (ite ((IntKind.wrap .i64 ((IntKind.wrap .i64 (n12 + n10)) + (1 : Int))) < r19) (IntKind.wrap .i64 ((IntKind.wrap .i64 (n12 + n10)) + (1 : Int))) r19)) (List.length l15)) fun r20 =>
      Option.bind (upto (bif Bool.true then (ite ((IntKind.wrap .i64 (n12 - n10)) > (0 : Int)) (IntKind.wrap .i64 (n12 - n10)) (0 : Int)) else (ite ((IntKind.wrap .i64 (n12 - n10)) < (0 : Int)) (IntKind.wrap .i64 (n12 - n10)) (0 : Int))) r20) fun r21 =>
      Option.bind (impl_energy φ r21 (r20 - r21) b13 e14 l15 some) fun r22 =>
      Option.bind (impl_RootNumber φ (fdiv .f32 r22 (itof .f32 (IntKind.wrap .i64 ((bif Bool.false then (ite ((IntKind.wrap .i64 ((IntKind.wrap .i64 (n12 + n10)) + (1 : Int))) > r19) (IntKind.wrap .i64 ((IntKind.wrap .i64 (n12 + n10)) + (1 : Int))) r19) else (ite ((IntKind.wrap .i64 ((IntKind.wrap .i64 (n12 + n10)) + (1 : Int))) < r19) (IntKind.wrap .i64 ((IntKind.wrap .i64 (n12 + n10)) + (1 : Int))) r19)) - (bif Bool.true then (ite ((IntKind.wrap .i64 (n12 - n10)) > (0 : Int)) (IntKind.wrap .i64 (n12 - n10)) (0 : Int)) else (ite ((IntKind.wrap .i64 (n12 - n10)) < (0 : Int)) (IntKind.wrap .i64 (n12 - n10)) (0 : Int))))))) some) fun r23 =>
      bif (fne .f32 r23 (can .f32 0)) then
        Option.bind (idx n12 (List.length l16)) fun r24 =>
        Option.bind (l16[r24]?) fun r25 =>
        impl_GainTrace_5 φ n10 n11 b13 e14 l15 n (IntKind.wrap .i64 (n12 + (1 : Int))) (List.set l16 r24 (fdiv .f32 r18 r23)) k0
      else
        impl_GainTrace_5 φ n10 n11 b13 e14 l15 n (IntKind.wrap .i64 (n12 + (1 : Int))) l16 k0
    else
      (k0 n12 l16)

def Lin_impl_GainTrace_5 (φ : Nat) : Nat → Option LoopS := noL

def impl_GainTrace_5_st (n10 : Int) (n11 : Int) (n12 : Int) (b13 : Bool) (e14 : Nat) (l15 : (List Nat)) (l16 : (List Nat)) : St := (St.mk (spread 0 62 [0, 1, 6, 23, 24, 25] [(.whole 0), (.int .i64 n10), (.whole 1), (.whole 0), (.int .i64 n11), (.int .i64 n12)]) [(.vec b13 e14 (.flt .f32) l15), (.vec Bool.true 34 (.flt .f32) l16)])

def impl_GainTrace_5_s (φ : Nat) : LoopS := fun st K => match sel 0 [0, 1, 6, 23, 24, 25] (norm 1 (hasN [0, 1, 6, 23, 24, 25]) st).t, (norm 1 (hasN [0, 1, 6, 23, 24, 25]) st).h with
  | [(.whole 0), (.int .i64 n10), (.whole 1), (.whole 0), (.int .i64 n11), (.int .i64 n12)], [(.vec b13 e14 (.flt .f32) l15), (.vec Bool.true 34 (.flt .f32) l16)] => bif normOk 1 (hasN [0, 1, 6, 23, 24, 25]) st && Nat.beq (norm 1 (hasN [0, 1, 6, 23, 24, 25]) st).t.length 62 then impl_GainTrace_5 φ n10 n11 b13 e14 l15 φ n12 l16 (fun n28 l32 => K (.exit 0) (St.mk (spread 0 62 [0, 1, 6, 23, 24, 25] [(.whole 0), (.int .i64 n10), (.whole 1), (.whole 0), (.int .i64 n11), (.int .i64 n28)]) [(.vec b13 e14 (.flt .f32) l15), (.vec Bool.true 34 (.flt .f32) l32)])) else none
  | _, _ => none

def impl_GainTrace_c3 {ρ : Type} (φ : Nat) (n2 : Int) (b3 : Bool) (b4 : Bool) (e5 : Nat) (l6 : (List Nat)) (l7 : (List Nat)) (k0 : (List Nat) → Option ρ) : Option ρ :=
    Option.bind (making (((List.length l6) : Nat) : Int) 4) fun r8 =>
    Option.bind (upto (((List.length l6) : Nat) : Int) r8) fun r9 =>
    impl_GainTrace_5 φ n2 (((List.length l6) : Nat) : Int) b4 e5 l6 φ (0 : Int) (List.replicate r9 0)
      (fun e33 e34 =>
      (k0 e34))

def Lin_impl_GainTrace_c3 (φ : Nat) : Nat → Option LoopS := insL 5 (impl_GainTrace_5_s φ) (noL)

def impl_GainTrace_c3_st (n2 : Int) (b3 : Bool) (b4 : Bool) (e5 : Nat) (l6 : (List Nat)) (l7 : (List Nat)) : St := (St.mk (spread 0 62 [0, 1, 4, 5] [(.whole 0), (.int .i64 n2), (.whole 1), (.bool b3)]) [(.vec b4 e5 (.flt .f32) l6), (.vec Bool.true 34 (.flt .f32) l7)])

def impl_GainTrace_c3_s (φ : Nat) : LoopS := fun st K => match sel 0 [0, 1, 4, 5] (norm 1 (hasN [0, 1, 4, 5]) st).t, (norm 1 (hasN [0, 1, 4, 5]) st).h with
  | [(.whole 0), (.int .i64 n2), (.whole 1), (.bool b3)], [(.vec b4 e5 (.flt .f32) l6), (.vec Bool.true 34 (.flt .f32) l7)] => bif normOk 1 (hasN [0, 1, 4, 5]) st && Nat.beq (norm 1 (hasN [0, 1, 4, 5]) st).t.length 62 then impl_GainTrace_c3 φ n2 b3 b4 e5 l6 l7 (fun l40 => K .ret (St.mk (spread 0 62 [0, 1, 4, 5] [(.whole 0), (.int .i64 n2), (.whole 1), (.bool Bool.true)]) [(.vec b4 e5 (.flt .f32) l6), (.vec Bool.true 34 (.flt .f32) l40)])) else none
  | _, _ => none

def impl_GainTrace {ρ : Type} (φ : Nat) (n2 : Int) (b3 : Bool) (e4 : Nat) (l5 : (List Nat)) (k : (Bool × (List Nat)) → Option ρ) : Option ρ :=
  Option.bind (impl_IsTrace φ b3 e4 l5 some) fun r0 =>
  bif (!r0) then
    k (Bool.false, [])
  else
    Option.bind (impl_within φ n2 (0 : Int) (128 : Int) some) fun r1 =>
    bif (!r1) then
      k (Bool.false, [])
    else
      impl_GainTrace_c3 φ n2 Bool.false b3 e4 l5 []
        (fun e41 =>
        k (Bool.true, e41))

def impl_GainTrace_val (r : (Bool × (List Nat))) : AV × List Blk := ((.tup [(.whole 1), (.bool r.1)]), [(.vec Bool.true 34 (.flt .f32) r.2)])

def impl_GainTrace_L (φ : Nat) : Nat → Option LoopS := insL (cut 3) (impl_GainTrace_c3_s φ) (noL)

def S_impl_GainTrace (φ : Nat) : List AV → List Blk → Option (Bool × (List Nat))
  | [(.whole 0), (.int .i64 n2)], [(.vec b3 e4 (.flt .f32) l5)] => impl_GainTrace φ n2 b3 e4 l5 some
  | _, _ => none

def c_impl_GainTrace : List AV → List Blk → Bool
  | [(.whole 0), (.int .i64 n2)], [(.vec b3 e4 (.flt .f32) l5)] => true
  | _, _ => false

def A_impl_GainTrace (φ : Nat) : Sum := .mk (S_impl_GainTrace φ) impl_GainTrace_val

def F_43 (φ : Nat) : FuncId → Option Sum := ins 19 (A_impl_GainTrace φ) (F_42 φ)


/-! ### laws_b10Most_v2 -/
def laws_b10Most_v2_3 {ρ : Type} (φ : Nat) (lo0 : Nat) (len1 : Nat) (n3 : Int) (b5 : Bool) (e6 : Nat) (l7 : (List Nat)) : Nat → Nat → Int → (Nat → Int → Option ρ) → Option ρ
  | 0, _, _, _ => none
  | n + 1, x2, n4, k0 =>
    bif (decide (n4 < n3)) then
      Option.bind (idx n4 len1) fun r8 =>
      Option.bind (l7[(lo0 + r8)]?) fun r9 =>
      Option.bind (fconv .f32 r9 .f64) fun r10 =>
      Option.bind (idx n4 len1) fun r11 =>
      Option.bind (l7[(lo0 + r11)]?) fun r12 =>
      Option.bind (fconv .f32 r12 .f64) fun r13 =>
      laws_b10Most_v2_3 φ lo0 len1 n3 b5 e6 l7 n (bif Bool.true then (fmax .f64 (bif Bool.true then (fmax .f64 x2 r10) else (fmin .f64 x2 r10)) (fneg .f64 r13)) else (fmin .f64 (bif Bool.true then (fmax .f64 x2 r10) else (fmin .f64 x2 r10)) (fneg .f64 r13))) (IntKind.wrap .i64 (n4 + (1 : Int))) k0
    else
      (k0 x2 n4)

def Lin_laws_b10Most_v2_3 (φ : Nat) : Nat → Option LoopS := noL

def laws_b10Most_v2_3_st (lo0 : Nat) (len1 : Nat) (x2 : Nat) (n3 : Int) (n4 : Int) (b5 : Bool) (e6 : Nat) (l7 : (List Nat)) : St := (St.mk (spread 0 25 [0, 3, 6, 7] [(.sub 0 lo0 len1 1), (.flt .f64 x2), (.int .i64 n3), (.int .i64 n4)]) [(.vec b5 e6 (.flt .f32) l7)])

def laws_b10Most_v2_3_s (φ : Nat) : LoopS := fun st K => match sel 0 [0, 3, 6, 7] (norm 1 (hasN [0, 3, 6, 7]) st).t, (norm 1 (hasN [0, 3, 6, 7]) st).h with
  | [(.sub 0 lo0 len1 1), (.flt .f64 x2), (.int .i64 n3), (.int .i64 n4)], [(.vec b5 e6 (.flt .f32) l7)] => bif normOk 1 (hasN [0, 3, 6, 7]) st && Nat.beq (norm 1 (hasN [0, 3, 6, 7]) st).t.length 25 then laws_b10Most_v2_3 φ lo0 len1 n3 b5 e6 l7 φ x2 n4 (fun x16 n18 => K (.exit 0) (St.mk (spread 0 25 [0, 3, 6, 7] [(.sub 0 lo0 len1 1), (.flt .f64 x16), (.int .i64 n3), (.int .i64 n18)]) [(.vec b5 e6 (.flt .f32) l7)])) else none
  | _, _ => none

def laws_b10Most_v2 {ρ : Type} (φ : Nat) (lo2 : Nat) (len3 : Nat) (b4 : Bool) (e5 : Nat) (l6 : (List Nat)) (k : Nat → Option ρ) : Option ρ :=
  laws_b10Most_v2_3 φ lo2 len3 ((len3 : Nat) : Int) b4 e5 l6 φ (can .f64 0) (0 : Int)
    (fun e22 e23 =>
    k e22)

def laws_b10Most_v2_val (r : Nat) : AV := (.flt .f64 r)

def laws_b10Most_v2_L (φ : Nat) : Nat → Option LoopS := insL 3 (laws_b10Most_v2_3_s φ) (noL)

def S_laws_b10Most_v2 (φ : Nat) : List AV → List Blk → Option Nat
  | [(.sub 0 lo2 len3 1)], [(.vec b4 e5 (.flt .f32) l6)] => laws_b10Most_v2 φ lo2 len3 b4 e5 l6 some
  | _, _ => none

def c_laws_b10Most_v2 : List AV → List Blk → Bool
  | [(.sub 0 lo2 len3 1)], [(.vec b4 e5 (.flt .f32) l6)] => true
  | _, _ => false

def A_laws_b10Most_v2 (φ : Nat) : Sum := .alt c_laws_b10Most_v2 (.rd (S_laws_b10Most_v2 φ) laws_b10Most_v2_val) (A_laws_b10Most φ)

def F_44 (φ : Nat) : FuncId → Option Sum := ins 13 (A_laws_b10Most_v2 φ) (F_43 φ)


/-! ### laws_FnFilters -/
def laws_FnFilters_16 {ρ : Type} (φ : Nat) (n23 : Int) (x24 : Nat) (b26 : Bool) (e27 : Nat) (l28 : (List Int)) (b29 : Bool) (e30 : Nat) (l31 : (List Int)) (l32 : (List Nat)) : Nat → Int → (List Nat) → (Int → (List Nat) → Option ρ) → Option ρ
  | 0, _, _, _ => none
  | n + 1, n25, l33, k0 =>
    bif (decide (n25 < n23)) then
      Option.bind (spec_SineTurns φ (fadd .f32 (fmul .f32 (itof .f32 n25) x24) (can .f32 1040187392)) some) fun r34 =>
      Option.bind (room ((Nat.add (List.length l33) 0) + 1) 4) fun r35 =>
      laws_FnFilters_16 φ n23 x24 b26 e27 l28 b29 e30 l31 l32 n (IntKind.wrap .i64 (n25 + (1 : Int))) (l33 ++ [r34]) k0
    else
      (k0 n25 l33)

def Lin_laws_FnFilters_16 (φ : Nat) : Nat → Option LoopS := noL

def laws_FnFilters_16_st (n23 : Int) (x24 : Nat) (n25 : Int) (b26 : Bool) (e27 : Nat) (l28 : (List Int)) (b29 : Bool) (e30 : Nat) (l31 : (List Int)) (l32 : (List Nat)) (l33 : (List Nat)) : St := (St.mk (spread 0 299 [1, 5, 6, 18, 19, 20] [(.whole 1), (.int .i64 n23), (.whole 2), (.flt .f32 x24), (.whole 3), (.int .i64 n25)]) [(.vec b26 e27 (.int .u8) l28), (.vec b29 e30 (.int .u8) l31), (.vec Bool.true 34 (.flt .f32) l32), (.vec Bool.true 34 (.flt .f32) l33)])

def laws_FnFilters_16_s (φ : Nat) : LoopS := fun st K => match sel 0 [1, 5, 6, 18, 19, 20] (norm 2 (hasN [1, 5, 6, 18, 19, 20]) st).t, (norm 2 (hasN [1, 5, 6, 18, 19, 20]) st).h with
  | [(.whole 1), (.int .i64 n23), (.whole 2), (.flt .f32 x24), (.whole 3), (.int .i64 n25)], [(.vec b26 e27 (.int .u8) l28), (.vec b29 e30 (.int .u8) l31), (.vec Bool.true 34 (.flt .f32) l32), (.vec Bool.true 34 (.flt .f32) l33)] => bif normOk 2 (hasN [1, 5, 6, 18, 19, 20]) st && Nat.beq (norm 2 (hasN [1, 5, 6, 18, 19, 20]) st).t.length 299 then laws_FnFilters_16 φ n23 x24 b26 e27 l28 b29 e30 l31 l32 φ n25 l33 (fun n38 l46 => K (.exit 0) (St.mk (spread 0 299 [1, 5, 6, 18, 19, 20] [(.whole 1), (.int .i64 n23), (.whole 2), (.flt .f32 x24), (.whole 3), (.int .i64 n38)]) [(.vec b26 e27 (.int .u8) l28), (.vec b29 e30 (.int .u8) l31), (.vec Bool.true 34 (.flt .f32) l32), (.vec Bool.true 34 (.flt .f32) l46)])) else none
  | _, _ => none

def laws_FnFilters_23 {ρ : Type} (φ : Nat) (n50 : Int) (b52 : Bool) (e53 : Nat) (l54 : (List Int)) (b55 : Bool) (e56 : Nat) (l57 : (List Int)) (l58 : (List Nat)) (l59 : (List Nat)) : Nat → Int → (Int → Option ρ) → (Int → Option ρ) → Option ρ
  | 0, _, _, _ => none
  | n + 1, n51, k0, k1 =>
    bif (decide (n51 < (((List.length l59) : Nat) : Int))) then
      Option.bind (idx n51 (List.length l59)) fun r60 =>
      Option.bind (l59[r60]?) fun r61 =>
      Option.bind (fconv .f32 r61 .f64) fun r62 =>
      Option.bind (laws_b10Gap φ r62 (can .f64 0) some) fun r63 =>
      bif (fgt .f64 r63 (can .f64 4562254508917369340)) then
        (k0 n51)
      else
        laws_FnFilters_23 φ n50 b52 e53 l54 b55 e56 l57 l58 l59 n (IntKind.wrap .i64 (n51 + (1 : Int))) k0 k1
    else
      (k1 n51)

def Lin_laws_FnFilters_23 (φ : Nat) : Nat → Option LoopS := noL

def laws_FnFilters_23_st (n50 : Int) (n51 : Int) (b52 : Bool) (e53 : Nat) (l54 : (List Int)) (b55 : Bool) (e56 : Nat) (l57 : (List Int)) (l58 : (List Nat)) (l59 : (List Nat)) : St := (St.mk (spread 0 299 [1, 5, 6, 21, 23] [(.whole 1), (.int .i64 n50), (.whole 2), (.whole 3), (.int .i64 n51)]) [(.vec b52 e53 (.int .u8) l54), (.vec b55 e56 (.int .u8) l57), (.vec Bool.true 34 (.flt .f32) l58), (.vec Bool.true 34 (.flt .f32) l59)])

def laws_FnFilters_23_s (φ : Nat) : LoopS := fun st K => match sel 0 [1, 4, 5, 6, 21, 23] (norm 2 (hasN [1, 4, 5, 6, 21, 23]) st).t, (norm 2 (hasN [1, 4, 5, 6, 21, 23]) st).h with
  | [(.whole 1), .any, (.int .i64 n50), (.whole 2), (.whole 3), (.int .i64 n51)], [(.vec b52 e53 (.int .u8) l54), (.vec b55 e56 (.int .u8) l57), (.vec Bool.true 34 (.flt .f32) l58), (.vec Bool.true 34 (.flt .f32) l59)] => bif normOk 2 (hasN [1, 4, 5, 6, 21, 23]) st && Nat.beq (norm 2 (hasN [1, 4, 5, 6, 21, 23]) st).t.length 299 then laws_FnFilters_23 φ n50 b52 e53 l54 b55 e56 l57 l58 l59 φ n51 (fun n66 => K .ret (St.mk (spread 0 299 [1, 4, 5, 6, 21, 23] [(.whole 1), (.bool Bool.false), (.int .i64 n50), (.whole 2), (.whole 3), (.int .i64 n66)]) [(.vec b52 e53 (.int .u8) l54), (.vec b55 e56 (.int .u8) l57), (.vec Bool.true 34 (.flt .f32) l58), (.vec Bool.true 34 (.flt .f32) l59)])) (fun n76 => K (.exit 2) (St.mk (spread 0 299 [1, 5, 6, 21, 23] [(.whole 1), (.int .i64 n50), (.whole 2), (.whole 3), (.int .i64 n76)]) [(.vec b52 e53 (.int .u8) l54), (.vec b55 e56 (.int .u8) l57), (.vec Bool.true 34 (.flt .f32) l58), (.vec Bool.true 34 (.flt .f32) l59)])) else none
  | _, _ => none

def laws_FnFilters_c41 {ρ : Type} (φ : Nat) (n150 : Int) (n151 : Int) (n152 : Int) (n153 : Int) (n154 : Int) (b155 : Bool) (e156 : Nat) (l157 : (List Int)) (b158 : Bool) (e159 : Nat) (l160 : (List Int)) (l161 : (List Nat)) (l162 : (List Nat)) (l163 : (List Nat)) (l164 : (List Nat)) (k0 : Option ρ) (k1 : Option ρ) : Option ρ :=
    Option.bind (idx n152 (List.length l161)) fun r165 =>
    Option.bind (l161[r165]?) fun r166 =>
    bif (feq .f32 r166 (can .f32 0)) then
      Option.bind (idx n152 (List.length l164)) fun r167 =>
      Option.bind (l164[r167]?) fun r168 =>
      bif (fne .f32 r168 (can .f32 0)) then
        (k0 )
      else
        Option.bind (idx n152 (List.length l161)) fun r169 =>
        Option.bind (l161[r169]?) fun r170 =>
        bif (fne .f32 r170 (can .f32 0)) then
          Option.bind (idx n152 (List.length l164)) fun r171 =>
          Option.bind (l164[r171]?) fun r172 =>
          Option.bind (idx n152 (List.length l164)) fun r173 =>
          Option.bind (l164[r173]?) fun r174 =>
          Option.bind (fconv .f32 (fmul .f32 r172 r174) .f64) fun r175 =>
          Option.bind (laws_b10Gap φ r175 (can .f64 4607182418800017408) some) fun r176 =>
          bif (fgt .f64 r176 (can .f64 4562254508917369340)) then
            (k0 )
          else
            (k1 )
        else
          (k1 )
    else
      Option.bind (idx n152 (List.length l161)) fun r177 =>
      Option.bind (l161[r177]?) fun r178 =>
      bif (fne .f32 r178 (can .f32 0)) then
        Option.bind (idx n152 (List.length l164)) fun r179 =>
        Option.bind (l164[r179]?) fun r180 =>
        Option.bind (idx n152 (List.length l164)) fun r181 =>
        Option.bind (l164[r181]?) fun r182 =>
        Option.bind (fconv .f32 (fmul .f32 r180 r182) .f64) fun r183 =>
        Option.bind (laws_b10Gap φ r183 (can .f64 4607182418800017408) some) fun r184 =>
        bif (fgt .f64 r184 (can .f64 4562254508917369340)) then
          (k0 )
        else
          (k1 )
      else
        (k1 )

def Lin_laws_FnFilters_c41 (φ : Nat) : Nat → Option LoopS := noL

def laws_FnFilters_c41_st (n150 : Int) (n151 : Int) (n152 : Int) (n153 : Int) (n154 : Int) (b155 : Bool) (e156 : Nat) (l157 : (List Int)) (b158 : Bool) (e159 : Nat) (l160 : (List Int)) (l161 : (List Nat)) (l162 : (List Nat)) (l163 : (List Nat)) (l164 : (List Nat)) : St := (St.mk (spread 0 299 [6, 24, 25, 26, 28, 32, 34, 215, 216] [(.whole 2), (.int .i64 n150), (.int .i64 n151), (.whole 3), (.whole 4), (.whole 5), (.int .i64 n152), (.int .i64 n153), (.int .i64 n154)]) [(.vec b155 e156 (.int .u8) l157), (.vec b158 e159 (.int .u8) l160), (.vec Bool.true 34 (.flt .f32) l161), (.vec Bool.true 34 (.flt .f32) l162), (.vec Bool.true 34 (.flt .f32) l163), (.vec Bool.true 34 (.flt .f32) l164)])

def laws_FnFilters_c41_s (φ : Nat) : LoopS := fun st K => match sel 0 [4, 6, 24, 25, 26, 28, 32, 34, 215, 216] (norm 2 (hasN [4, 6, 24, 25, 26, 28, 32, 34, 215, 216]) st).t, (norm 2 (hasN [4, 6, 24, 25, 26, 28, 32, 34, 215, 216]) st).h with
  | [.any, (.whole 2), (.int .i64 n150), (.int .i64 n151), (.whole 3), (.whole 4), (.whole 5), (.int .i64 n152), (.int .i64 n153), (.int .i64 n154)], [(.vec b155 e156 (.int .u8) l157), (.vec b158 e159 (.int .u8) l160), (.vec Bool.true 34 (.flt .f32) l161), (.vec Bool.true 34 (.flt .f32) l162), (.vec Bool.true 34 (.flt .f32) l163), (.vec Bool.true 34 (.flt .f32) l164)] => bif normOk 2 (hasN [4, 6, 24, 25, 26, 28, 32, 34, 215, 216]) st && Nat.beq (norm 2 (hasN [4, 6, 24, 25, 26, 28, 32, 34, 215, 216]) st).t.length 299 then laws_FnFilters_c41 φ n150 n151 n152 n153 n154 b155 e156 l157 b158 e159 l160 l161 l162 l163 l164 (K .ret (St.mk (spread 0 299 [4, 6, 24, 25, 26, 28, 32, 34, 215, 216] [(.bool Bool.false), (.whole 2), (.int .i64 n150), (.int .i64 n151), (.whole 3), (.whole 4), (.whole 5), (.int .i64 n152), (.int .i64 n153), (.int .i64 n154)]) [(.vec b155 e156 (.int .u8) l157), (.vec b158 e159 (.int .u8) l160), (.vec Bool.true 34 (.flt .f32) l161), (.vec Bool.true 34 (.flt .f32) l162), (.vec Bool.true 34 (.flt .f32) l163), (.vec Bool.true 34 (.flt .f32) l164)])) (K .normal (St.mk (spread 0 299 [6, 24, 25, 26, 28, 32, 34, 215, 216] [(.whole 2), (.int .i64 n150), (.int .i64 n151), (.whole 3), (.whole 4), (.whole 5), (.int .i64 n152), (.int .i64 n153), (.int .i64 n154)]) [(.vec b155 e156 (.int .u8) l157), (.vec b158 e159 (.int .u8) l160), (.vec Bool.true 34 (.flt .f32) l161), (.vec Bool.true 34 (.flt .f32) l162), (.vec Bool.true 34 (.flt .f32) l163), (.vec Bool.true 34 (.flt .f32) l164)])) else none
  | _, _ => none

def laws_FnFilters_c39 {ρ : Type} (φ : Nat) (n122 : Int) (n123 : Int) (n124 : Int) (b125 : Bool) (n126 : Int) (n127 : Int) (b128 : Bool) (e129 : Nat) (l130 : (List Int)) (b131 : Bool) (e132 : Nat) (l133 : (List Int)) (l134 : (List Nat)) (l135 : (List Nat)) (l136 : (List Nat)) (l137 : (List Nat)) (k0 : Option ρ) (k1 : Option ρ) (k2 : Option ρ) : Option ρ :=
    bif b125 then
      Option.bind (idx n124 (List.length l135)) fun r138 =>
      Option.bind (l135[r138]?) fun r139 =>
      bif (fne .f32 r139 (can .f32 0)) then
        (k0 )
      else
        bif (!b125) then
          Option.bind (idx n124 (List.length l135)) fun r140 =>
          Option.bind (l135[r140]?) fun r141 =>
          Option.bind (idx n124 (List.length l134)) fun r142 =>
          Option.bind (l134[r142]?) fun r143 =>
          bif (fne .f32 r141 r143) then
            (k0 )
          else
            Option.bind (upto (IntKind.wrap .i64 (n124 + (1 : Int))) (List.length l136)) fun r144 =>
            Option.bind (upto n124 r144) fun r145 =>
            Option.bind (laws_b10Most_v2 φ r145 (r144 - r145) Bool.true 34 l136 some) fun r146 =>
            Option.bind (upto (IntKind.wrap .i64 (n124 + (1 : Int))) (List.length l134)) fun r147 =>
            Option.bind (upto n124 r147) fun r148 =>
            Option.bind (laws_b10Most_v2 φ r148 (r147 - r148) Bool.true 34 l134 some) fun r149 =>
            bif (fgt .f64 r146 r149) then
              (k0 )
            else
              laws_FnFilters_c41 φ n122 n123 n124 n126 n127 b128 e129 l130 b131 e132 l133 l134 l135 l136 l137
                (
                (k1 ))
                (
                (k2 ))
        else
          Option.bind (upto (IntKind.wrap .i64 (n124 + (1 : Int))) (List.length l136)) fun r216 =>
          Option.bind (upto n124 r216) fun r217 =>
          Option.bind (laws_b10Most_v2 φ r217 (r216 - r217) Bool.true 34 l136 some) fun r218 =>
          Option.bind (upto (IntKind.wrap .i64 (n124 + (1 : Int))) (List.length l134)) fun r219 =>
          Option.bind (upto n124 r219) fun r220 =>
          Option.bind (laws_b10Most_v2 φ r220 (r219 - r220) Bool.true 34 l134 some) fun r221 =>
          bif (fgt .f64 r218 r221) then
            (k0 )
          else
            laws_FnFilters_c41 φ n122 n123 n124 n126 n127 b128 e129 l130 b131 e132 l133 l134 l135 l136 l137
              (
              (k1 ))
              (
              (k2 ))
    else
      bif (!b125) then
        Option.bind (idx n124 (List.length l135)) fun r222 =>
        Option.bind (l135[r222]?) fun r223 =>
        Option.bind (idx n124 (List.length l134)) fun r224 =>
        Option.bind (l134[r224]?) fun r225 =>
        bif (fne .f32 r223 r225) then
          (k0 )
        else
          Option.bind (upto (IntKind.wrap .i64 (n124 + (1 : Int))) (List.length l136)) fun r226 =>
          Option.bind (upto n124 r226) fun r227 =>
          Option.bind (laws_b10Most_v2 φ r227 (r226 - r227) Bool.true 34 l136 some) fun r228 =>
          Option.bind (upto (IntKind.wrap .i64 (n124 + (1 : Int))) (List.length l134)) fun r229 =>
          Option.bind (upto n124 r229) fun r230 =>
          Option.bind (laws_b10Most_v2 φ r230 (r229 - r230) Bool.true 34 l134 some) fun r231 =>
          bif (fgt .f64 r228 r231) then
            (k0 )
          else
            laws_FnFilters_c41 φ n122 n123 n124 n126 n127 b128 e129 l130 b131 e132 l133 l134 l135 l136 l137
              (
              (k1 ))
              (
              (k2 ))
      else
        Option.bind (upto (IntKind.wrap .i64 (n124 + (1 : Int))) (List.length l136)) fun r232 =>
        Option.bind (upto n124 r232) fun r233 =>
        Option.bind (laws_b10Most_v2 φ r233 (r232 - r233) Bool.true 34 l136 some) fun r234 =>
        Option.bind (upto (IntKind.wrap .i64 (n124 + (1 : Int))) (List.length l134)) fun r235 =>
        Option.bind (upto n124 r235) fun r236 =>
        Option.bind (laws_b10Most_v2 φ r236 (r235 - r236) Bool.true 34 l134 some) fun r237 =>
        bif (fgt .f64 r234 r237) then
          (k0 )
        else
          laws_FnFilters_c41 φ n122 n123 n124 n126 n127 b128 e129 l130 b131 e132 l133 l134 l135 l136 l137
            (
            (k1 ))
            (
            (k2 ))

def Lin_laws_FnFilters_c39 (φ : Nat) : Nat → Option LoopS := insL (cut 41) (laws_FnFilters_c41_s φ) (noL)

def laws_FnFilters_c39_st (n122 : Int) (n123 : Int) (n124 : Int) (b125 : Bool) (n126 : Int) (n127 : Int) (b128 : Bool) (e129 : Nat) (l130 : (List Int)) (b131 : Bool) (e132 : Nat) (l133 : (List Int)) (l134 : (List Nat)) (l135 : (List Nat)) (l136 : (List Nat)) (l137 : (List Nat)) : St := (St.mk (spread 0 299 [6, 24, 25, 26, 28, 32, 34, 35, 215, 216] [(.whole 2), (.int .i64 n122), (.int .i64 n123), (.whole 3), (.whole 4), (.whole 5), (.int .i64 n124), (.bool b125), (.int .i64 n126), (.int .i64 n127)]) [(.vec b128 e129 (.int .u8) l130), (.vec b131 e132 (.int .u8) l133), (.vec Bool.true 34 (.flt .f32) l134), (.vec Bool.true 34 (.flt .f32) l135), (.vec Bool.true 34 (.flt .f32) l136), (.vec Bool.true 34 (.flt .f32) l137)])

def laws_FnFilters_c39_s (φ : Nat) : LoopS := fun st K => match sel 0 [4, 6, 24, 25, 26, 28, 32, 34, 35, 215, 216] (norm 2 (hasN [4, 6, 24, 25, 26, 28, 32, 34, 35, 215, 216]) st).t, (norm 2 (hasN [4, 6, 24, 25, 26, 28, 32, 34, 35, 215, 216]) st).h with
  | [.any, (.whole 2), (.int .i64 n122), (.int .i64 n123), (.whole 3), (.whole 4), (.whole 5), (.int .i64 n124), (.bool b125), (.int .i64 n126), (.int .i64 n127)], [(.vec b128 e129 (.int .u8) l130), (.vec b131 e132 (.int .u8) l133), (.vec Bool.true 34 (.flt .f32) l134), (.vec Bool.true 34 (.flt .f32) l135), (.vec Bool.true 34 (.flt .f32) l136), (.vec Bool.true 34 (.flt .f32) l137)] => bif normOk 2 (hasN [4, 6, 24, 25, 26, 28, 32, 34, 35, 215, 216]) st && Nat.beq (norm 2 (hasN [4, 6, 24, 25, 26, 28, 32, 34, 35, 215, 216]) st).t.length 299 then laws_FnFilters_c39 φ n122 n123 n124 b125 n126 n127 b128 e129 l130 b131 e132 l133 l134 l135 l136 l137 (K .ret (St.mk (spread 0 299 [4, 6, 24, 25, 26, 28, 32, 34, 35, 215, 216] [(.bool Bool.false), (.whole 2), (.int .i64 n122), (.int .i64 n123), (.whole 3), (.whole 4), (.whole 5), (.int .i64 n124), (.bool b125), (.int .i64 n126), (.int .i64 n127)]) [(.vec b128 e129 (.int .u8) l130), (.vec b131 e132 (.int .u8) l133), (.vec Bool.true 34 (.flt .f32) l134), (.vec Bool.true 34 (.flt .f32) l135), (.vec Bool.true 34 (.flt .f32) l136), (.vec Bool.true 34 (.flt .f32) l137)])) (K .ret (St.mk (spread 0 299 [4, 6, 24, 25, 26, 28, 32, 34, 215, 216] [(.bool Bool.false), (.whole 2), (.int .i64 n122), (.int .i64 n123), (.whole 3), (.whole 4), (.whole 5), (.int .i64 n124), (.int .i64 n126), (.int .i64 n127)]) [(.vec b128 e129 (.int .u8) l130), (.vec b131 e132 (.int .u8) l133), (.vec Bool.true 34 (.flt .f32) l134), (.vec Bool.true 34 (.flt .f32) l135), (.vec Bool.true 34 (.flt .f32) l136), (.vec Bool.true 34 (.flt .f32) l137)])) (K .normal (St.mk (spread 0 299 [6, 24, 25, 26, 28, 32, 34, 215, 216] [(.whole 2), (.int .i64 n122), (.int .i64 n123), (.whole 3), (.whole 4), (.whole 5), (.int .i64 n124), (.int .i64 n126), (.int .i64 n127)]) [(.vec b128 e129 (.int .u8) l130), (.vec b131 e132 (.int .u8) l133), (.vec Bool.true 34 (.flt .f32) l134), (.vec Bool.true 34 (.flt .f32) l135), (.vec Bool.true 34 (.flt .f32) l136), (.vec Bool.true 34 (.flt .f32) l137)])) else none
  | _, _ => none

def laws_FnFilters_36 {ρ : Type} (φ : Nat) (n108 : Int) (n109 : Int) (n110 : Int) (b112 : Bool) (e113 : Nat) (l114 : (List Int)) (b115 : Bool) (e116 : Nat) (l117 : (List Int)) (l118 : (List Nat)) (l119 : (List Nat)) (l120 : (List Nat)) (l121 : (List Nat)) : Nat → Int → (Int → Option ρ) → (Int → Option ρ) → Option ρ
  | 0, _, _, _ => none
  | n + 1, n111, k0, k1 =>
    bif (decide (n111 < n110)) then
      bif (decide (n111 ≥ n108)) then
        laws_FnFilters_c39 φ n108 n109 n111 (decide (n111 < n109)) n110 n111 b112 e113 l114 b115 e116 l117 l118 l119 l120 l121
          (
          (k0 n111))
          (
          (k0 n111))
          (
          laws_FnFilters_36 φ n108 n109 n110 b112 e113 l114 b115 e116 l117 l118 l119 l120 l121 n (IntKind.wrap .i64 (n111 + (1 : Int))) k0 k1)
      else
        laws_FnFilters_c39 φ n108 n109 n111 Bool.false n110 n111 b112 e113 l114 b115 e116 l117 l118 l119 l120 l121
          (
          (k0 n111))
          (
          (k0 n111))
          (
          laws_FnFilters_36 φ n108 n109 n110 b112 e113 l114 b115 e116 l117 l118 l119 l120 l121 n (IntKind.wrap .i64 (n111 + (1 : Int))) k0 k1)
    else
      (k1 n111)

def Lin_laws_FnFilters_36 (φ : Nat) : Nat → Option LoopS := insL (cut 39) (laws_FnFilters_c39_s φ) (noL)

def laws_FnFilters_36_st (n108 : Int) (n109 : Int) (n110 : Int) (n111 : Int) (b112 : Bool) (e113 : Nat) (l114 : (List Int)) (b115 : Bool) (e116 : Nat) (l117 : (List Int)) (l118 : (List Nat)) (l119 : (List Nat)) (l120 : (List Nat)) (l121 : (List Nat)) : St := (St.mk (spread 0 299 [6, 24, 25, 26, 28, 32, 215, 216] [(.whole 2), (.int .i64 n108), (.int .i64 n109), (.whole 3), (.whole 4), (.whole 5), (.int .i64 n110), (.int .i64 n111)]) [(.vec b112 e113 (.int .u8) l114), (.vec b115 e116 (.int .u8) l117), (.vec Bool.true 34 (.flt .f32) l118), (.vec Bool.true 34 (.flt .f32) l119), (.vec Bool.true 34 (.flt .f32) l120), (.vec Bool.true 34 (.flt .f32) l121)])

def laws_FnFilters_36_s (φ : Nat) : LoopS := fun st K => match sel 0 [4, 6, 24, 25, 26, 28, 32, 215, 216] (norm 2 (hasN [4, 6, 24, 25, 26, 28, 32, 215, 216]) st).t, (norm 2 (hasN [4, 6, 24, 25, 26, 28, 32, 215, 216]) st).h with
  | [.any, (.whole 2), (.int .i64 n108), (.int .i64 n109), (.whole 3), (.whole 4), (.whole 5), (.int .i64 n110), (.int .i64 n111)], [(.vec b112 e113 (.int .u8) l114), (.vec b115 e116 (.int .u8) l117), (.vec Bool.true 34 (.flt .f32) l118), (.vec Bool.true 34 (.flt .f32) l119), (.vec Bool.true 34 (.flt .f32) l120), (.vec Bool.true 34 (.flt .f32) l121)] => bif normOk 2 (hasN [4, 6, 24, 25, 26, 28, 32, 215, 216]) st && Nat.beq (norm 2 (hasN [4, 6, 24, 25, 26, 28, 32, 215, 216]) st).t.length 299 then laws_FnFilters_36 φ n108 n109 n110 b112 e113 l114 b115 e116 l117 l118 l119 l120 l121 φ n111 (fun n290 => K .ret (St.mk (spread 0 299 [4, 6, 24, 25, 26, 28, 32, 215, 216] [(.bool Bool.false), (.whole 2), (.int .i64 n108), (.int .i64 n109), (.whole 3), (.whole 4), (.whole 5), (.int .i64 n110), (.int .i64 n290)]) [(.vec b112 e113 (.int .u8) l114), (.vec b115 e116 (.int .u8) l117), (.vec Bool.true 34 (.flt .f32) l118), (.vec Bool.true 34 (.flt .f32) l119), (.vec Bool.true 34 (.flt .f32) l120), (.vec Bool.true 34 (.flt .f32) l121)])) (fun n304 => K (.exit 4) (St.mk (spread 0 299 [6, 24, 25, 26, 28, 32, 215, 216] [(.whole 2), (.int .i64 n108), (.int .i64 n109), (.whole 3), (.whole 4), (.whole 5), (.int .i64 n110), (.int .i64 n304)]) [(.vec b112 e113 (.int .u8) l114), (.vec b115 e116 (.int .u8) l117), (.vec Bool.true 34 (.flt .f32) l118), (.vec Bool.true 34 (.flt .f32) l119), (.vec Bool.true 34 (.flt .f32) l120), (.vec Bool.true 34 (.flt .f32) l121)])) else none
  | _, _ => none

def laws_FnFilters_c35 {ρ : Type} (φ : Nat) (n96 : Int) (n97 : Int) (b98 : Bool) (e99 : Nat) (l100 : (List Int)) (b101 : Bool) (e102 : Nat) (l103 : (List Int)) (l104 : (List Nat)) (l105 : (List Nat)) (l106 : (List Nat)) (l107 : (List Nat)) (k0 : Bool → Option ρ) : Option ρ :=
    laws_FnFilters_36 φ n96 n97 (((List.length l104) : Nat) : Int) b98 e99 l100 b101 e102 l103 l104 l105 l106 l107 φ (0 : Int)
      (fun e315 =>
      (k0 Bool.false))
      (fun e316 =>
      (k0 Bool.true))

def Lin_laws_FnFilters_c35 (φ : Nat) : Nat → Option LoopS := insL 36 (laws_FnFilters_36_s φ) (noL)

def laws_FnFilters_c35_st (n96 : Int) (n97 : Int) (b98 : Bool) (e99 : Nat) (l100 : (List Int)) (b101 : Bool) (e102 : Nat) (l103 : (List Int)) (l104 : (List Nat)) (l105 : (List Nat)) (l106 : (List Nat)) (l107 : (List Nat)) : St := (St.mk (spread 0 299 [6, 24, 25, 26, 28, 32] [(.whole 2), (.int .i64 n96), (.int .i64 n97), (.whole 3), (.whole 4), (.whole 5)]) [(.vec b98 e99 (.int .u8) l100), (.vec b101 e102 (.int .u8) l103), (.vec Bool.true 34 (.flt .f32) l104), (.vec Bool.true 34 (.flt .f32) l105), (.vec Bool.true 34 (.flt .f32) l106), (.vec Bool.true 34 (.flt .f32) l107)])

def laws_FnFilters_c35_s (φ : Nat) : LoopS := fun st K => match sel 0 [4, 6, 24, 25, 26, 28, 32] (norm 2 (hasN [4, 6, 24, 25, 26, 28, 32]) st).t, (norm 2 (hasN [4, 6, 24, 25, 26, 28, 32]) st).h with
  | [.any, (.whole 2), (.int .i64 n96), (.int .i64 n97), (.whole 3), (.whole 4), (.whole 5)], [(.vec b98 e99 (.int .u8) l100), (.vec b101 e102 (.int .u8) l103), (.vec Bool.true 34 (.flt .f32) l104), (.vec Bool.true 34 (.flt .f32) l105), (.vec Bool.true 34 (.flt .f32) l106), (.vec Bool.true 34 (.flt .f32) l107)] => bif normOk 2 (hasN [4, 6, 24, 25, 26, 28, 32]) st && Nat.beq (norm 2 (hasN [4, 6, 24, 25, 26, 28, 32]) st).t.length 299 then laws_FnFilters_c35 φ n96 n97 b98 e99 l100 b101 e102 l103 l104 l105 l106 l107 (fun b317 => K .ret (St.mk (spread 0 299 [4, 6, 24, 25, 26, 28, 32] [(.bool b317), (.whole 2), (.int .i64 n96), (.int .i64 n97), (.whole 3), (.whole 4), (.whole 5)]) [(.vec b98 e99 (.int .u8) l100), (.vec b101 e102 (.int .u8) l103), (.vec Bool.true 34 (.flt .f32) l104), (.vec Bool.true 34 (.flt .f32) l105), (.vec Bool.true 34 (.flt .f32) l106), (.vec Bool.true 34 (.flt .f32) l107)])) else none
  | _, _ => none

def laws_FnFilters_c13 {ρ : Type} (φ : Nat) (b13 : Bool) (n14 : Int) (b15 : Bool) (e16 : Nat) (l17 : (List Int)) (b18 : Bool) (e19 : Nat) (l20 : (List Int)) (l21 : (List Nat)) (k0 : Option ρ) (k1 : Bool → Option ρ) : Option ρ :=
    Option.bind (laws_b10At φ (1 : Int) (17 : Int) b18 e19 l20 some) fun r22 =>
    laws_FnFilters_16 φ n14 (fdiv .f32 (itof .f32 r22) (can .f32 1107296256)) b15 e16 l17 b18 e19 l20 l21 φ (0 : Int) []
      (fun e47 e48 =>
      Option.bind (impl_NotchTrace φ (fdiv .f32 (itof .f32 r22) (can .f32 1107296256)) Bool.true 34 e48 some) fun r49 =>
      bif (!r49.1) then
        (k0 )
      else
        laws_FnFilters_23 φ n14 b15 e16 l17 b18 e19 l20 l21 r49.2 φ (2 : Int)
          (fun e85 =>
          (k0 ))
          (fun e86 =>
          Option.bind (laws_b10At φ (2 : Int) n14 b18 e19 l20 some) fun r87 =>
          Option.bind (laws_b10At φ (3 : Int) (IntKind.wrap .i64 ((IntKind.wrap .i64 (n14 - r87)) + (1 : Int))) b18 e19 l20 some) fun r88 =>
          Option.bind (impl_MuteTrace φ r87 (IntKind.wrap .i64 (r87 + r88)) Bool.true 34 l21 some) fun r89 =>
          Option.bind (nonzero (2 : Int)) fun r90 =>
          Option.bind (laws_b10At φ (4 : Int) (IntKind.wrap .i64 ((IntKind.wrap .i64 (Int.tdiv n14 (2 : Int))) + (1 : Int))) b18 e19 l20 some) fun r91 =>
          Option.bind (impl_TaperTrace φ r91 Bool.true 34 l21 some) fun r92 =>
          Option.bind (laws_b10At φ (5 : Int) (4 : Int) b18 e19 l20 some) fun r93 =>
          Option.bind (impl_GainTrace φ r93 Bool.true 34 l21 some) fun r94 =>
          Option.bind (impl_GainTrace φ (0 : Int) Bool.true 34 l21 some) fun r95 =>
          bif (!r89.1) then
            (k0 )
          else
            bif (!r92.1) then
              (k0 )
            else
              bif (!r94.1) then
                (k0 )
              else
                bif (!r95.1) then
                  (k0 )
                else
                  bif ((((List.length r94.2) : Nat) : Int) != (((List.length l21) : Nat) : Int)) then
                    (k0 )
                  else
                    laws_FnFilters_c35 φ r87 (IntKind.wrap .i64 (r87 + r88)) b15 e16 l17 b18 e19 l20 l21 r89.2 r92.2 r95.2
                      (fun e330 =>
                      (k1 e330))))

def Lin_laws_FnFilters_c13 (φ : Nat) : Nat → Option LoopS := insL 16 (laws_FnFilters_16_s φ) (insL 23 (laws_FnFilters_23_s φ) (insL (cut 35) (laws_FnFilters_c35_s φ) (noL)))

def laws_FnFilters_c13_st (b13 : Bool) (n14 : Int) (b15 : Bool) (e16 : Nat) (l17 : (List Int)) (b18 : Bool) (e19 : Nat) (l20 : (List Int)) (l21 : (List Nat)) : St := (St.mk (spread 0 299 [1, 4, 5, 6] [(.whole 1), (.bool b13), (.int .i64 n14), (.whole 2)]) [(.vec b15 e16 (.int .u8) l17), (.vec b18 e19 (.int .u8) l20), (.vec Bool.true 34 (.flt .f32) l21)])

def laws_FnFilters_c13_s (φ : Nat) : LoopS := fun st K => match sel 0 [1, 4, 5, 6] (norm 2 (hasN [1, 4, 5, 6]) st).t, (norm 2 (hasN [1, 4, 5, 6]) st).h with
  | [(.whole 1), (.bool b13), (.int .i64 n14), (.whole 2)], [(.vec b15 e16 (.int .u8) l17), (.vec b18 e19 (.int .u8) l20), (.vec Bool.true 34 (.flt .f32) l21)] => bif normOk 2 (hasN [1, 4, 5, 6]) st && Nat.beq (norm 2 (hasN [1, 4, 5, 6]) st).t.length 299 then laws_FnFilters_c13 φ b13 n14 b15 e16 l17 b18 e19 l20 l21 (K .ret (St.mk (spread 0 299 [1, 4, 5, 6] [(.whole 1), (.bool Bool.false), (.int .i64 n14), (.whole 2)]) [(.vec b15 e16 (.int .u8) l17), (.vec b18 e19 (.int .u8) l20), (.vec Bool.true 34 (.flt .f32) l21)])) (fun b340 => K .ret (St.mk (spread 0 299 [4, 6] [(.bool b340), (.whole 2)]) [(.vec b15 e16 (.int .u8) l17), (.vec b18 e19 (.int .u8) l20), (.vec Bool.true 34 (.flt .f32) l21)])) else none
  | _, _ => none

def laws_FnFilters {ρ : Type} (φ : Nat) (b4 : Bool) (e5 : Nat) (l6 : (List Int)) (b7 : Bool) (e8 : Nat) (l9 : (List Int)) (k : Bool → Option ρ) : Option ρ :=
  Option.bind (laws_b10Long φ b4 e5 l6 b7 e8 l9 some) fun r0 =>
  bif r0 then
    k Bool.true
  else
    Option.bind (laws_b10At φ (0 : Int) (10 : Int) b4 e5 l6 some) fun r1 =>
    Option.bind (spec_B10Trace φ (IntKind.wrap .i64 ((3 : Int) + r1)) b4 e5 l6 some) fun r2 =>
    Option.bind (laws_b10At φ (0 : Int) (5 : Int) b7 e8 l9 some) fun r3 =>
    Option.bind (impl_SmoothTrace φ r3 Bool.true 34 r2 some) fun r4 =>
    Option.bind (impl_RoughTrace φ r3 Bool.true 34 r2 some) fun r5 =>
    Option.bind (impl_AddTraces φ Bool.true 34 r4.2 Bool.true 34 r5.2 some) fun r6 =>
    Option.bind (impl_DifferTrace φ Bool.true 34 r2 some) fun r7 =>
    Option.bind (impl_IntegrateTrace φ Bool.true 34 r7.2 some) fun r8 =>
    bif (!r4.1) then
      k Bool.false
    else
      bif (!r5.1) then
        k Bool.false
      else
        bif (!r6.1) then
          k Bool.false
        else
          bif (!r7.1) then
            k Bool.false
          else
            bif (!r8.1) then
              k Bool.false
            else
              Option.bind (laws_b10Alike φ (can .f64 4562254508917369340) Bool.true 34 r6.2 Bool.true 34 r2 some) fun r9 =>
              bif (!r9) then
                k Bool.false
              else
                Option.bind (laws_b10Alike φ (can .f64 4562254508917369340) Bool.true 34 r8.2 Bool.true 34 r2 some) fun r10 =>
                bif (!r10) then
                  k Bool.false
                else
                  Option.bind (laws_b10Most φ Bool.true 34 r4.2 some) fun r11 =>
                  Option.bind (laws_b10Most φ Bool.true 34 r2 some) fun r12 =>
                  bif (fgt .f64 r11 (fadd .f64 r12 (can .f64 4562254508917369340))) then
                    k Bool.false
                  else
                    laws_FnFilters_c13 φ Bool.false (IntKind.wrap .i64 ((3 : Int) + r1)) b4 e5 l6 b7 e8 l9 r2
                      (
                      k Bool.false)
                      (fun e348 =>
                      k e348)

def laws_FnFilters_val (r : Bool) : AV := (.bool r)

def laws_FnFilters_L (φ : Nat) : Nat → Option LoopS := insL (cut 13) (laws_FnFilters_c13_s φ) (noL)

def S_laws_FnFilters (φ : Nat) : List AV → List Blk → Option Bool
  | [(.whole 0), (.whole 1)], [(.vec b4 e5 (.int .u8) l6), (.vec b7 e8 (.int .u8) l9)] => laws_FnFilters φ b4 e5 l6 b7 e8 l9 some
  | _, _ => none

def c_laws_FnFilters : List AV → List Blk → Bool
  | [(.whole 0), (.whole 1)], [(.vec b4 e5 (.int .u8) l6), (.vec b7 e8 (.int .u8) l9)] => true
  | _, _ => false

def A_laws_FnFilters (φ : Nat) : Sum := .rd (S_laws_FnFilters φ) laws_FnFilters_val

def F_45 (φ : Nat) : FuncId → Option Sum := ins 3 (A_laws_FnFilters φ) (F_44 φ)


end
end Go.Proofs.Ytedpmhnglbgihaa

/-
  That they do so: function by function.
-/
import Derived.Test.YtedpmhnglbgihaaXD1
set_option linter.all false
set_option maxRecDepth 100000
set_option maxHeartbeats 4000000
namespace Go.Proofs.Ytedpmhnglbgihaa
open Go.Ev
noncomputable section

/-! ### laws_b10Long -/
theorem laws_b10Long_ev (φ : Nat) (b4 : Bool) (e5 : Nat) (l6 : (List Int)) (b7 : Bool) (e8 : Nat) (l9 : (List Int)) : evFn T (F_0 φ) (evDraw T (F_0 φ)) (laws_b10Long_L φ) Try.f4 [(.whole 0), (.whole 1)] [(.vec b4 e5 (.int .u8) l6), (.vec b7 e8 (.int .u8) l9)] = laws_b10Long φ b4 e5 l6 b7 e8 l9 (fun r => some (laws_b10Long_val r, [(.vec b4 e5 (.int .u8) l6), (.vec b7 e8 (.int .u8) l9)])) := by kernel_rfl

theorem laws_b10Long_nat (φ : Nat) (b4 : Bool) (e5 : Nat) (l6 : (List Int)) (b7 : Bool) (e8 : Nat) (l9 : (List Int)) {ρ σ : Type} (k : Bool → Option ρ) (f : ρ → Option σ) : (laws_b10Long φ b4 e5 l6 b7 e8 l9 k).bind f = laws_b10Long φ b4 e5 l6 b7 e8 l9 (fun r => (k r).bind f) := by
  simp only [laws_b10Long, cond_bind, Option.bind_assoc, Option.bind_none]

theorem laws_b10Long_S (φ : Nat) (args : List AV) (h : List Blk) (r : Bool) (hr : S_laws_b10Long φ args h = some r) : ∃ (b4 : Bool) (e5 : Nat) (l6 : (List Int)) (b7 : Bool) (e8 : Nat) (l9 : (List Int)), args = [(.whole 0), (.whole 1)] ∧ h = [(.vec b4 e5 (.int .u8) l6), (.vec b7 e8 (.int .u8) l9)] ∧ laws_b10Long φ b4 e5 l6 b7 e8 l9 some = some r := by
  unfold S_laws_b10Long at hr
  split at hr
  · exact ⟨_, _, _, _, _, _, rfl, rfl, hr⟩
  · cases hr

theorem laws_b10Long_ok (hT : TOk P T) (φ : Nat) (hF : FOk P (F_0 φ)) (hm : P.follows .mixedOrders = true) : SumOk P 4 (.rd (S_laws_b10Long φ) laws_b10Long_val) := by
  refine rd_ok (fn := Try.f4) (c := bodyOf Try.f4) hT hF (evDraw_ok hT hF hm) (by kernel_rfl) (by kernel_rfl) (by kernel_rfl) ?_
  intro args h r hr
  obtain ⟨b4, e5, l6, b7, e8, l9, rfl, rfl, hq⟩ := laws_b10Long_S φ args h r hr
  have e := laws_b10Long_nat φ b4 e5 l6 b7 e8 l9 some (fun r => (some (laws_b10Long_val r, [(.vec b4 e5 (.int .u8) l6), (.vec b7 e8 (.int .u8) l9)]) : Option Out))
  rw [hq] at e
  exact ⟨laws_b10Long_L φ, (LoopsOk.none 2 (bodyOf Try.f4)), (laws_b10Long_ev φ b4 e5 l6 b7 e8 l9).trans e.symm⟩

/-! ### laws_b10At -/
theorem laws_b10At_ev (φ : Nat) (n2 : Int) (n3 : Int) (b4 : Bool) (e5 : Nat) (l6 : (List Int)) : evFn T (F_1 φ) (evDraw T (F_1 φ)) (laws_b10At_L φ) Try.f5 [(.whole 0), (.int .i64 n2), (.int .i64 n3)] [(.vec b4 e5 (.int .u8) l6)] = laws_b10At φ n2 n3 b4 e5 l6 (fun r => some (laws_b10At_val r, [(.vec b4 e5 (.int .u8) l6)])) := by kernel_rfl

theorem laws_b10At_nat (φ : Nat) (n2 : Int) (n3 : Int) (b4 : Bool) (e5 : Nat) (l6 : (List Int)) {ρ σ : Type} (k : Int → Option ρ) (f : ρ → Option σ) : (laws_b10At φ n2 n3 b4 e5 l6 k).bind f = laws_b10At φ n2 n3 b4 e5 l6 (fun r => (k r).bind f) := by
  simp only [laws_b10At, cond_bind, Option.bind_assoc, Option.bind_none]

theorem laws_b10At_S (φ : Nat) (args : List AV) (h : List Blk) (r : Int) (hr : S_laws_b10At φ args h = some r) : ∃ (n2 : Int) (n3 : Int) (b4 : Bool) (e5 : Nat) (l6 : (List Int)), args = [(.whole 0), (.int .i64 n2), (.int .i64 n3)] ∧ h = [(.vec b4 e5 (.int .u8) l6)] ∧ laws_b10At φ n2 n3 b4 e5 l6 some = some r := by
  unfold S_laws_b10At at hr
  split at hr
  · exact ⟨_, _, _, _, _, rfl, rfl, hr⟩
  · cases hr

theorem laws_b10At_ok (hT : TOk P T) (φ : Nat) (hF : FOk P (F_1 φ)) (hm : P.follows .mixedOrders = true) : SumOk P 5 (.rd (S_laws_b10At φ) laws_b10At_val) := by
  refine rd_ok (fn := Try.f5) (c := bodyOf Try.f5) hT hF (evDraw_ok hT hF hm) (by kernel_rfl) (by kernel_rfl) (by kernel_rfl) ?_
  intro args h r hr
  obtain ⟨n2, n3, b4, e5, l6, rfl, rfl, hq⟩ := laws_b10At_S φ args h r hr
  have e := laws_b10At_nat φ n2 n3 b4 e5 l6 some (fun r => (some (laws_b10At_val r, [(.vec b4 e5 (.int .u8) l6)]) : Option Out))
  rw [hq] at e
  exact ⟨laws_b10At_L φ, (LoopsOk.none 1 (bodyOf Try.f5)), (laws_b10At_ev φ n2 n3 b4 e5 l6).trans e.symm⟩

/-! ### spec_l00From -/
theorem spec_l00From_ev (φ : Nat) (b2 : Bool) (e3 : Nat) (l4 : (List Int)) : evFn T (F_2 φ) (evDraw T (F_2 φ)) (spec_l00From_L φ) Try.f20 [(.whole 0)] [(.vec b2 e3 (.int .u8) l4)] = spec_l00From φ b2 e3 l4 (fun r => some ((spec_l00From_val r).1, [(.vec b2 e3 (.int .u8) l4)] ++ (spec_l00From_val r).2)) := by kernel_rfl

theorem spec_l00From_nat (φ : Nat) (b2 : Bool) (e3 : Nat) (l4 : (List Int)) {ρ σ : Type} (k : (Int × Int) → Option ρ) (f : ρ → Option σ) : (spec_l00From φ b2 e3 l4 k).bind f = spec_l00From φ b2 e3 l4 (fun r => (k r).bind f) := by
  simp only [spec_l00From, cond_bind, Option.bind_assoc, Option.bind_none]

theorem spec_l00From_S (φ : Nat) (args : List AV) (h : List Blk) (r : (Int × Int)) (hr : S_spec_l00From φ args h = some r) : ∃ (b2 : Bool) (e3 : Nat) (l4 : (List Int)), args = [(.whole 0)] ∧ h = [(.vec b2 e3 (.int .u8) l4)] ∧ spec_l00From φ b2 e3 l4 some = some r := by
  unfold S_spec_l00From at hr
  split at hr
  · exact ⟨_, _, _, rfl, rfl, hr⟩
  · cases hr

theorem spec_l00From_ok (hT : TOk P T) (φ : Nat) (hF : FOk P (F_2 φ)) (hm : P.follows .mixedOrders = true) : SumOk P 20 (.mk (S_spec_l00From φ) spec_l00From_val) := by
  refine mk_ok (fn := Try.f20) (c := bodyOf Try.f20) hT hF (evDraw_ok hT hF hm) (by kernel_rfl) (by kernel_rfl) (by kernel_rfl) ?_
  intro args h r hr
  obtain ⟨b2, e3, l4, rfl, rfl, hq⟩ := spec_l00From_S φ args h r hr
  have e := spec_l00From_nat φ b2 e3 l4 some (fun r => (some ((spec_l00From_val r).1, [(.vec b2 e3 (.int .u8) l4)] ++ (spec_l00From_val r).2) : Option Out))
  rw [hq] at e
  exact ⟨spec_l00From_L φ, (LoopsOk.none 1 (bodyOf Try.f20)), (spec_l00From_ev φ b2 e3 l4).trans e.symm⟩

/-! ### spec_l00Src_next -/
theorem spec_l00Src_next_c4_ev (φ : Nat) (K : Kont) (n2 : Int) (n3 : Int) (n4 : Int) (n5 : Int) (b6 : Bool) (e7 : Nat) (l8 : (List Int)) : evCode T (F_3 φ) (evDraw T (F_3 φ)) (Lin_spec_l00Src_next_c4 φ) (tailOf Try.f36 4) (spec_l00Src_next_c4_st n2 n3 n4 n5 b6 e7 l8) (once 2 (hasN [0, 2, 3]) K) = spec_l00Src_next_c4 φ n2 n3 n4 n5 b6 e7 l8 (fun n10 n12 n13 => K .ret (St.mk (spread 0 62 [0, 2, 3] [(.ptr 0 0), (.int .i64 n10), (.int .i64 n3)]) [(.cells 56 [(.whole 1), (.int .i64 n12), (.int .u64 n13)]), (.vec b6 e7 (.int .u8) l8)])) := by kernel_rfl

theorem spec_l00Src_next_c4_nat (φ : Nat) {ρ σ : Type} (f : ρ → Option σ) (n2 : Int) (n3 : Int) (n4 : Int) (n5 : Int) (b6 : Bool) (e7 : Nat) (l8 : (List Int)) (k0 : Int → Int → Int → Option ρ) : (spec_l00Src_next_c4 φ n2 n3 n4 n5 b6 e7 l8 k0).bind f = spec_l00Src_next_c4 φ n2 n3 n4 n5 b6 e7 l8 (fun n10 n12 n13 => (k0 n10 n12 n13).bind f) := by
  simp only [spec_l00Src_next_c4, cond_bind, Option.bind_assoc, Option.bind_none]

theorem spec_l00Src_next_c4_ok (hT : TOk P T) (φ : Nat) (hF : FOk P (F_3 φ)) (hm : P.follows .mixedOrders = true) : CodeOk P 2 (spec_l00Src_next_c4_s φ) (tailOf Try.f36 4) := by
  refine CodeOk.of_once (D := (evDraw T (F_3 φ))) (L := Lin_spec_l00Src_next_c4 φ) (keep := (hasN [0, 2, 3])) hT hF (evDraw_ok hT hF hm) (LoopsOk.none 2 (tailOf Try.f36 4)) ?_
  intro st K out h
  unfold spec_l00Src_next_c4_s at h
  split at h
  · rename_i hq1 hq2
    obtain ⟨h1, h2⟩ := cond_inv h
    rw [Bool.and_eq_true] at h1
    refine ⟨h1.1, ?_⟩
    rw [norm_spread rfl st hq1 hq2 (Nat.eq_of_beq_eq_true h1.2)]
    exact (spec_l00Src_next_c4_ev φ K _ _ _ _ _ _ _).trans h2
  · cases h

theorem spec_l00Src_next_ev (φ : Nat) (n2 : Int) (n3 : Int) (b4 : Bool) (e5 : Nat) (l6 : (List Int)) : evFn T (F_3 φ) (evDraw T (F_3 φ)) (spec_l00Src_next_L φ) Try.f36 [(.ptr 0 0)] [(.cells 56 [(.whole 1), (.int .i64 n2), (.int .u64 n3)]), (.vec b4 e5 (.int .u8) l6)] = spec_l00Src_next φ n2 n3 b4 e5 l6 (fun r => some (spec_l00Src_next_val [(.ptr 0 0)] [(.cells 56 [(.whole 1), (.int .i64 n2), (.int .u64 n3)]), (.vec b4 e5 (.int .u8) l6)] r)) := by kernel_rfl

theorem spec_l00Src_next_nat (φ : Nat) (n2 : Int) (n3 : Int) (b4 : Bool) (e5 : Nat) (l6 : (List Int)) {ρ σ : Type} (k : (Int × Int × Int) → Option ρ) (f : ρ → Option σ) : (spec_l00Src_next φ n2 n3 b4 e5 l6 k).bind f = spec_l00Src_next φ n2 n3 b4 e5 l6 (fun r => (k r).bind f) := by
  simp only [spec_l00Src_next, cond_bind, Option.bind_assoc, Option.bind_none, spec_l00Src_next_c4_nat]

theorem spec_l00Src_next_S (φ : Nat) (args : List AV) (h : List Blk) (r : (Int × Int × Int)) (hr : S_spec_l00Src_next φ args h = some r) : ∃ (n2 : Int) (n3 : Int) (b4 : Bool) (e5 : Nat) (l6 : (List Int)), args = [(.ptr 0 0)] ∧ h = [(.cells 56 [(.whole 1), (.int .i64 n2), (.int .u64 n3)]), (.vec b4 e5 (.int .u8) l6)] ∧ spec_l00Src_next φ n2 n3 b4 e5 l6 some = some r := by
  unfold S_spec_l00Src_next at hr
  split at hr
  · exact ⟨_, _, _, _, _, rfl, rfl, hr⟩
  · cases hr

theorem spec_l00Src_next_ok (hT : TOk P T) (φ : Nat) (hF : FOk P (F_3 φ)) (hm : P.follows .mixedOrders = true) : SumOk P 36 (.wr (S_spec_l00Src_next φ) spec_l00Src_next_val) := by
  have uk : (loopsOf (bodyOf Try.f36)).all (fun x => Nat.blt (key x) 500000) = true := by kernel_rfl
  refine wr_ok (fn := Try.f36) (c := bodyOf Try.f36) hT hF (evDraw_ok hT hF hm) (by kernel_rfl) (by kernel_rfl) (by kernel_rfl) ?_
  intro args h r hr
  obtain ⟨n2, n3, b4, e5, l6, rfl, rfl, hq⟩ := spec_l00Src_next_S φ args h r hr
  have e := spec_l00Src_next_nat φ n2 n3 b4 e5 l6 some (fun r => (some (spec_l00Src_next_val [(.ptr 0 0)] [(.cells 56 [(.whole 1), (.int .i64 n2), (.int .u64 n3)]), (.vec b4 e5 (.int .u8) l6)] r) : Option Out))
  rw [hq] at e
  refine ⟨Nat.le_of_ble_eq_true rfl, ?_⟩
  exact ⟨spec_l00Src_next_L φ, (LoopsOk.cut (show apartKeys 4 (tailsOf (bodyOf Try.f36)) = true from by kernel_rfl) uk (show findKey 4 (tailsOf (bodyOf Try.f36)) = some (tailOf Try.f36 4) from by kernel_rfl) (spec_l00Src_next_c4_ok hT φ hF hm) (LoopsOk.none 2 (bodyOf Try.f36))), (spec_l00Src_next_ev φ n2 n3 b4 e5 l6).trans e.symm⟩

/-! ### spec_l00Src_pick -/
theorem spec_l00Src_pick_ev (φ : Nat) (n2 : Int) (n3 : Int) (n4 : Int) (b5 : Bool) (e6 : Nat) (l7 : (List Int)) : evFn T (F_4 φ) (evDraw T (F_4 φ)) (spec_l00Src_pick_L φ) Try.f21 [(.ptr 0 0), (.int .i64 n2)] [(.cells 56 [(.whole 1), (.int .i64 n3), (.int .u64 n4)]), (.vec b5 e6 (.int .u8) l7)] = spec_l00Src_pick φ n2 n3 n4 b5 e6 l7 (fun r => some (spec_l00Src_pick_val [(.ptr 0 0), (.int .i64 n2)] [(.cells 56 [(.whole 1), (.int .i64 n3), (.int .u64 n4)]), (.vec b5 e6 (.int .u8) l7)] r)) := by kernel_rfl

theorem spec_l00Src_pick_nat (φ : Nat) (n2 : Int) (n3 : Int) (n4 : Int) (b5 : Bool) (e6 : Nat) (l7 : (List Int)) {ρ σ : Type} (k : (Int × Int × Int) → Option ρ) (f : ρ → Option σ) : (spec_l00Src_pick φ n2 n3 n4 b5 e6 l7 k).bind f = spec_l00Src_pick φ n2 n3 n4 b5 e6 l7 (fun r => (k r).bind f) := by
  simp only [spec_l00Src_pick, cond_bind, Option.bind_assoc, Option.bind_none]

theorem spec_l00Src_pick_S (φ : Nat) (args : List AV) (h : List Blk) (r : (Int × Int × Int)) (hr : S_spec_l00Src_pick φ args h = some r) : ∃ (n2 : Int) (n3 : Int) (n4 : Int) (b5 : Bool) (e6 : Nat) (l7 : (List Int)), args = [(.ptr 0 0), (.int .i64 n2)] ∧ h = [(.cells 56 [(.whole 1), (.int .i64 n3), (.int .u64 n4)]), (.vec b5 e6 (.int .u8) l7)] ∧ spec_l00Src_pick φ n2 n3 n4 b5 e6 l7 some = some r := by
  unfold S_spec_l00Src_pick at hr
  split at hr
  · exact ⟨_, _, _, _, _, _, rfl, rfl, hr⟩
  · cases hr

theorem spec_l00Src_pick_ok (hT : TOk P T) (φ : Nat) (hF : FOk P (F_4 φ)) (hm : P.follows .mixedOrders = true) : SumOk P 21 (.wr (S_spec_l00Src_pick φ) spec_l00Src_pick_val) := by
  refine wr_ok (fn := Try.f21) (c := bodyOf Try.f21) hT hF (evDraw_ok hT hF hm) (by kernel_rfl) (by kernel_rfl) (by kernel_rfl) ?_
  intro args h r hr
  obtain ⟨n2, n3, n4, b5, e6, l7, rfl, rfl, hq⟩ := spec_l00Src_pick_S φ args h r hr
  have e := spec_l00Src_pick_nat φ n2 n3 n4 b5 e6 l7 some (fun r => (some (spec_l00Src_pick_val [(.ptr 0 0), (.int .i64 n2)] [(.cells 56 [(.whole 1), (.int .i64 n3), (.int .u64 n4)]), (.vec b5 e6 (.int .u8) l7)] r) : Option Out))
  rw [hq] at e
  refine ⟨Nat.le_of_ble_eq_true rfl, ?_⟩
  exact ⟨spec_l00Src_pick_L φ, (LoopsOk.none 2 (bodyOf Try.f21)), (spec_l00Src_pick_ev φ n2 n3 n4 b5 e6 l7).trans e.symm⟩

/-! ### spec_B10Trace -/
theorem spec_B10Trace_3_step (φ : Nat) (n1 : Int) (b2 : Bool) (e3 : Nat) (l4 : (List Int)) (n5 : Int) (n6 : Int) (l7 : (List Nat)) (G : St → Option Out) (K : Kont) : evCode T (F_5 φ) (evDraw T (F_5 φ)) (Lin_spec_B10Trace_3 φ) (loopOf Try.f6 3) (spec_B10Trace_3_st n1 b2 e3 l4 n5 n6 l7) (round 1 (hasN [1, 5, 6]) G K) =
    bif (decide (n1 > (0 : Int))) then
      Option.bind (spec_l00Src_pick φ (17 : Int) n5 n6 b2 e3 l4 some) fun r8 =>
      Option.bind (room ((Nat.add (List.length l7) 0) + 1) 4) fun r9 =>
      (G (spec_B10Trace_3_st (IntKind.wrap .i64 (n1 - (1 : Int))) b2 e3 l4 r8.2.1 r8.2.2 (l7 ++ [(fdiv .f32 (itof .f32 (IntKind.wrap .i64 (r8.1 - (8 : Int)))) (can .f32 1082130432))])))
    else
      (K (.exit 0) (St.mk (spread 0 23 [1, 5, 6] [(.int .i64 n1), (.ptr 1 0), (.whole 2)]) [(.vec b2 e3 (.int .u8) l4), (.cells 56 [(.whole 0), (.int .i64 n5), (.int .u64 n6)]), (.vec Bool.true 34 (.flt .f32) l7)])) := by kernel_rfl

theorem spec_B10Trace_3_ev (φ : Nat) (K : Kont) : ∀ (n : Nat) (n1 : Int) (b2 : Bool) (e3 : Nat) (l4 : (List Int)) (n5 : Int) (n6 : Int) (l7 : (List Nat)), evLoop T (F_5 φ) (evDraw T (F_5 φ)) (Lin_spec_B10Trace_3 φ) 1 (hasN [1, 5, 6]) (loopOf Try.f6 3) n (spec_B10Trace_3_st n1 b2 e3 l4 n5 n6 l7) K = spec_B10Trace_3 φ b2 e3 l4 n n1 n5 n6 l7 (fun n10 n14 n15 l16 => K (.exit 0) (St.mk (spread 0 23 [1, 5, 6] [(.int .i64 n10), (.ptr 1 0), (.whole 2)]) [(.vec b2 e3 (.int .u8) l4), (.cells 56 [(.whole 0), (.int .i64 n14), (.int .u64 n15)]), (.vec Bool.true 34 (.flt .f32) l16)])) := by
  intro n
  induction n with
  | zero => intros; rfl
  | succ n ih =>
    intros
    rw [evLoop_succ, spec_B10Trace_3_step]
    simp only [ih]
    rfl

theorem spec_B10Trace_3_nat (φ : Nat) {ρ σ : Type} (f : ρ → Option σ) : ∀ (n : Nat) (n1 : Int) (b2 : Bool) (e3 : Nat) (l4 : (List Int)) (n5 : Int) (n6 : Int) (l7 : (List Nat)) (k0 : Int → Int → Int → (List Nat) → Option ρ), (spec_B10Trace_3 φ b2 e3 l4 n n1 n5 n6 l7 k0).bind f = spec_B10Trace_3 φ b2 e3 l4 n n1 n5 n6 l7 (fun n10 n14 n15 l16 => (k0 n10 n14 n15 l16).bind f) := by
  intro n
  induction n with
  | zero => intros; rfl
  | succ n ih =>
    intros
    simp only [spec_B10Trace_3, cond_bind, Option.bind_assoc, Option.bind_none, ih]

theorem spec_B10Trace_3_ok (hT : TOk P T) (φ : Nat) (hF : FOk P (F_5 φ)) (hm : P.follows .mixedOrders = true) : LoopOk P 1 (spec_B10Trace_3_s φ) (loopOf Try.f6 3) := by
  refine LoopOk.of_rounds (D := (evDraw T (F_5 φ))) (L := Lin_spec_B10Trace_3 φ) (keep := (hasN [1, 5, 6])) hT hF (evDraw_ok hT hF hm) (LoopsOk.none 1 (loopOf Try.f6 3)) ?_
  intro st K out h
  unfold spec_B10Trace_3_s at h
  split at h
  · rename_i hq1 hq2
    obtain ⟨h1, h2⟩ := cond_inv h
    rw [Bool.and_eq_true] at h1
    refine ⟨h1.1, φ, ?_⟩
    rw [norm_spread rfl st hq1 hq2 (Nat.eq_of_beq_eq_true h1.2)]
    exact (spec_B10Trace_3_ev φ K φ _ _ _ _ _ _ _).trans h2
  · cases h

theorem spec_B10Trace_ev (φ : Nat) (n2 : Int) (b3 : Bool) (e4 : Nat) (l5 : (List Int)) : evFn T (F_5 φ) (evDraw T (F_5 φ)) (spec_B10Trace_L φ) Try.f6 [(.whole 0), (.int .i64 n2)] [(.vec b3 e4 (.int .u8) l5)] = spec_B10Trace φ n2 b3 e4 l5 (fun r => some ((spec_B10Trace_val r).1, [(.vec b3 e4 (.int .u8) l5)] ++ (spec_B10Trace_val r).2)) := by kernel_rfl

theorem spec_B10Trace_nat (φ : Nat) (n2 : Int) (b3 : Bool) (e4 : Nat) (l5 : (List Int)) {ρ σ : Type} (k : (List Nat) → Option ρ) (f : ρ → Option σ) : (spec_B10Trace φ n2 b3 e4 l5 k).bind f = spec_B10Trace φ n2 b3 e4 l5 (fun r => (k r).bind f) := by
  simp only [spec_B10Trace, cond_bind, Option.bind_assoc, Option.bind_none, spec_B10Trace_3_nat]

theorem spec_B10Trace_S (φ : Nat) (args : List AV) (h : List Blk) (r : (List Nat)) (hr : S_spec_B10Trace φ args h = some r) : ∃ (n2 : Int) (b3 : Bool) (e4 : Nat) (l5 : (List Int)), args = [(.whole 0), (.int .i64 n2)] ∧ h = [(.vec b3 e4 (.int .u8) l5)] ∧ spec_B10Trace φ n2 b3 e4 l5 some = some r := by
  unfold S_spec_B10Trace at hr
  split at hr
  · exact ⟨_, _, _, _, rfl, rfl, hr⟩
  · cases hr

theorem spec_B10Trace_ok (hT : TOk P T) (φ : Nat) (hF : FOk P (F_5 φ)) (hm : P.follows .mixedOrders = true) : SumOk P 6 (.mk (S_spec_B10Trace φ) spec_B10Trace_val) := by
  refine mk_ok (fn := Try.f6) (c := bodyOf Try.f6) hT hF (evDraw_ok hT hF hm) (by kernel_rfl) (by kernel_rfl) (by kernel_rfl) ?_
  intro args h r hr
  obtain ⟨n2, b3, e4, l5, rfl, rfl, hq⟩ := spec_B10Trace_S φ args h r hr
  have e := spec_B10Trace_nat φ n2 b3 e4 l5 some (fun r => (some ((spec_B10Trace_val r).1, [(.vec b3 e4 (.int .u8) l5)] ++ (spec_B10Trace_val r).2) : Option Out))
  rw [hq] at e
  exact ⟨spec_B10Trace_L φ, (LoopsOk.loop (show apartKeys 3 (loopsOf (bodyOf Try.f6)) = true from by kernel_rfl) (show Nat.blt 3 500000 = true from by kernel_rfl) (show findKey 3 (loopsOf (bodyOf Try.f6)) = some (loopOf Try.f6 3) from by kernel_rfl) (spec_B10Trace_3_ok hT φ hF hm) (LoopsOk.none 1 (bodyOf Try.f6))), (spec_B10Trace_ev φ n2 b3 e4 l5).trans e.symm⟩

/-! ### impl_length_float32 -/
theorem impl_length_float32_ev (φ : Nat) (b2 : Bool) (e3 : Nat) (l4 : (List Nat)) : evFn T (F_6 φ) (evDraw T (F_6 φ)) (impl_length_float32_L φ) Try.f33 [(.whole 0)] [(.vec b2 e3 (.flt .f32) l4)] = impl_length_float32 φ b2 e3 l4 (fun r => some (impl_length_float32_val r, [(.vec b2 e3 (.flt .f32) l4)])) := by kernel_rfl

theorem impl_length_float32_nat (φ : Nat) (b2 : Bool) (e3 : Nat) (l4 : (List Nat)) {ρ σ : Type} (k : Int → Option ρ) (f : ρ → Option σ) : (impl_length_float32 φ b2 e3 l4 k).bind f = impl_length_float32 φ b2 e3 l4 (fun r => (k r).bind f) := by
  simp only [impl_length_float32, cond_bind, Option.bind_assoc, Option.bind_none]

theorem impl_length_float32_S (φ : Nat) (args : List AV) (h : List Blk) (r : Int) (hr : S_impl_length_float32 φ args h = some r) : ∃ (b2 : Bool) (e3 : Nat) (l4 : (List Nat)), args = [(.whole 0)] ∧ h = [(.vec b2 e3 (.flt .f32) l4)] ∧ impl_length_float32 φ b2 e3 l4 some = some r := by
  unfold S_impl_length_float32 at hr
  split at hr
  · exact ⟨_, _, _, rfl, rfl, hr⟩
  · cases hr

theorem impl_length_float32_ok (hT : TOk P T) (φ : Nat) (hF : FOk P (F_6 φ)) (hm : P.follows .mixedOrders = true) : SumOk P 33 (.rd (S_impl_length_float32 φ) impl_length_float32_val) := by
  refine rd_ok (fn := Try.f33) (c := bodyOf Try.f33) hT hF (evDraw_ok hT hF hm) (by kernel_rfl) (by kernel_rfl) (by kernel_rfl) ?_
  intro args h r hr
  obtain ⟨b2, e3, l4, rfl, rfl, hq⟩ := impl_length_float32_S φ args h r hr
  have e := impl_length_float32_nat φ b2 e3 l4 some (fun r => (some (impl_length_float32_val r, [(.vec b2 e3 (.flt .f32) l4)]) : Option Out))
  rw [hq] at e
  exact ⟨impl_length_float32_L φ, (LoopsOk.none 1 (bodyOf Try.f33)), (impl_length_float32_ev φ b2 e3 l4).trans e.symm⟩

/-! ### impl_within -/
theorem impl_within_ev (φ : Nat) (n0 : Int) (n1 : Int) (n2 : Int) : evFn T (F_7 φ) (evDraw T (F_7 φ)) (impl_within_L φ) Try.f32 [(.int .i64 n0), (.int .i64 n1), (.int .i64 n2)] [] = impl_within φ n0 n1 n2 (fun r => some (impl_within_val r, [])) := by kernel_rfl

theorem impl_within_nat (φ : Nat) (n0 : Int) (n1 : Int) (n2 : Int) {ρ σ : Type} (k : Bool → Option ρ) (f : ρ → Option σ) : (impl_within φ n0 n1 n2 k).bind f = impl_within φ n0 n1 n2 (fun r => (k r).bind f) := by
  simp only [impl_within, cond_bind, Option.bind_assoc, Option.bind_none]

theorem impl_within_S (φ : Nat) (args : List AV) (h : List Blk) (r : Bool) (hr : S_impl_within φ args h = some r) : ∃ (n0 : Int) (n1 : Int) (n2 : Int), args = [(.int .i64 n0), (.int .i64 n1), (.int .i64 n2)] ∧ h = [] ∧ impl_within φ n0 n1 n2 some = some r := by
  unfold S_impl_within at hr
  split at hr
  · exact ⟨_, _, _, rfl, rfl, hr⟩
  · cases hr

theorem impl_within_ok (hT : TOk P T) (φ : Nat) (hF : FOk P (F_7 φ)) (hm : P.follows .mixedOrders = true) : SumOk P 32 (.rd (S_impl_within φ) impl_within_val) := by
  refine rd_ok (fn := Try.f32) (c := bodyOf Try.f32) hT hF (evDraw_ok hT hF hm) (by kernel_rfl) (by kernel_rfl) (by kernel_rfl) ?_
  intro args h r hr
  obtain ⟨n0, n1, n2, rfl, rfl, hq⟩ := impl_within_S φ args h r hr
  have e := impl_within_nat φ n0 n1 n2 some (fun r => (some (impl_within_val r, []) : Option Out))
  rw [hq] at e
  exact ⟨impl_within_L φ, (LoopsOk.none 0 (bodyOf Try.f32)), (impl_within_ev φ n0 n1 n2).trans e.symm⟩

/-! ### impl_isCount -/
theorem impl_isCount_ev (φ : Nat) (n0 : Int) : evFn T (F_8 φ) (evDraw T (F_8 φ)) (impl_isCount_L φ) Try.f37 [(.int .i64 n0)] [] = impl_isCount φ n0 (fun r => some (impl_isCount_val r, [])) := by kernel_rfl

theorem impl_isCount_nat (φ : Nat) (n0 : Int) {ρ σ : Type} (k : Bool → Option ρ) (f : ρ → Option σ) : (impl_isCount φ n0 k).bind f = impl_isCount φ n0 (fun r => (k r).bind f) := by
  simp only [impl_isCount, cond_bind, Option.bind_assoc, Option.bind_none]

theorem impl_isCount_S (φ : Nat) (args : List AV) (h : List Blk) (r : Bool) (hr : S_impl_isCount φ args h = some r) : ∃ (n0 : Int), args = [(.int .i64 n0)] ∧ h = [] ∧ impl_isCount φ n0 some = some r := by
  unfold S_impl_isCount at hr
  split at hr
  · exact ⟨_, rfl, rfl, hr⟩
  · cases hr

theorem impl_isCount_ok (hT : TOk P T) (φ : Nat) (hF : FOk P (F_8 φ)) (hm : P.follows .mixedOrders = true) : SumOk P 37 (.rd (S_impl_isCount φ) impl_isCount_val) := by
  refine rd_ok (fn := Try.f37) (c := bodyOf Try.f37) hT hF (evDraw_ok hT hF hm) (by kernel_rfl) (by kernel_rfl) (by kernel_rfl) ?_
  intro args h r hr
  obtain ⟨n0, rfl, rfl, hq⟩ := impl_isCount_S φ args h r hr
  have e := impl_isCount_nat φ n0 some (fun r => (some (impl_isCount_val r, []) : Option Out))
  rw [hq] at e
  exact ⟨impl_isCount_L φ, (LoopsOk.none 0 (bodyOf Try.f37)), (impl_isCount_ev φ n0).trans e.symm⟩

/-! ### impl_IsTrace -/
theorem impl_IsTrace_ev (φ : Nat) (b2 : Bool) (e3 : Nat) (l4 : (List Nat)) : evFn T (F_9 φ) (evDraw T (F_9 φ)) (impl_IsTrace_L φ) Try.f27 [(.whole 0)] [(.vec b2 e3 (.flt .f32) l4)] = impl_IsTrace φ b2 e3 l4 (fun r => some (impl_IsTrace_val r, [(.vec b2 e3 (.flt .f32) l4)])) := by kernel_rfl

theorem impl_IsTrace_nat (φ : Nat) (b2 : Bool) (e3 : Nat) (l4 : (List Nat)) {ρ σ : Type} (k : Bool → Option ρ) (f : ρ → Option σ) : (impl_IsTrace φ b2 e3 l4 k).bind f = impl_IsTrace φ b2 e3 l4 (fun r => (k r).bind f) := by
  simp only [impl_IsTrace, cond_bind, Option.bind_assoc, Option.bind_none]

theorem impl_IsTrace_S (φ : Nat) (args : List AV) (h : List Blk) (r : Bool) (hr : S_impl_IsTrace φ args h = some r) : ∃ (b2 : Bool) (e3 : Nat) (l4 : (List Nat)), args = [(.whole 0)] ∧ h = [(.vec b2 e3 (.flt .f32) l4)] ∧ impl_IsTrace φ b2 e3 l4 some = some r := by
  unfold S_impl_IsTrace at hr
  split at hr
  · exact ⟨_, _, _, rfl, rfl, hr⟩
  · cases hr

theorem impl_IsTrace_ok (hT : TOk P T) (φ : Nat) (hF : FOk P (F_9 φ)) (hm : P.follows .mixedOrders = true) : SumOk P 27 (.rd (S_impl_IsTrace φ) impl_IsTrace_val) := by
  refine rd_ok (fn := Try.f27) (c := bodyOf Try.f27) hT hF (evDraw_ok hT hF hm) (by kernel_rfl) (by kernel_rfl) (by kernel_rfl) ?_
  intro args h r hr
  obtain ⟨b2, e3, l4, rfl, rfl, hq⟩ := impl_IsTrace_S φ args h r hr
  have e := impl_IsTrace_nat φ b2 e3 l4 some (fun r => (some (impl_IsTrace_val r, [(.vec b2 e3 (.flt .f32) l4)]) : Option Out))
  rw [hq] at e
  exact ⟨impl_IsTrace_L φ, (LoopsOk.none 1 (bodyOf Try.f27)), (impl_IsTrace_ev φ b2 e3 l4).trans e.symm⟩

/-! ### impl_isSmooth -/
theorem impl_isSmooth_ev (φ : Nat) (n2 : Int) (b3 : Bool) (e4 : Nat) (l5 : (List Nat)) : evFn T (F_10 φ) (evDraw T (F_10 φ)) (impl_isSmooth_L φ) Try.f22 [(.whole 0), (.int .i64 n2)] [(.vec b3 e4 (.flt .f32) l5)] = impl_isSmooth φ n2 b3 e4 l5 (fun r => some (impl_isSmooth_val r, [(.vec b3 e4 (.flt .f32) l5)])) := by kernel_rfl

theorem impl_isSmooth_nat (φ : Nat) (n2 : Int) (b3 : Bool) (e4 : Nat) (l5 : (List Nat)) {ρ σ : Type} (k : Bool → Option ρ) (f : ρ → Option σ) : (impl_isSmooth φ n2 b3 e4 l5 k).bind f = impl_isSmooth φ n2 b3 e4 l5 (fun r => (k r).bind f) := by
  simp only [impl_isSmooth, cond_bind, Option.bind_assoc, Option.bind_none]

theorem impl_isSmooth_S (φ : Nat) (args : List AV) (h : List Blk) (r : Bool) (hr : S_impl_isSmooth φ args h = some r) : ∃ (n2 : Int) (b3 : Bool) (e4 : Nat) (l5 : (List Nat)), args = [(.whole 0), (.int .i64 n2)] ∧ h = [(.vec b3 e4 (.flt .f32) l5)] ∧ impl_isSmooth φ n2 b3 e4 l5 some = some r := by
  unfold S_impl_isSmooth at hr
  split at hr
  · exact ⟨_, _, _, _, rfl, rfl, hr⟩
  · cases hr

theorem impl_isSmooth_ok (hT : TOk P T) (φ : Nat) (hF : FOk P (F_10 φ)) (hm : P.follows .mixedOrders = true) : SumOk P 22 (.rd (S_impl_isSmooth φ) impl_isSmooth_val) := by
  refine rd_ok (fn := Try.f22) (c := bodyOf Try.f22) hT hF (evDraw_ok hT hF hm) (by kernel_rfl) (by kernel_rfl) (by kernel_rfl) ?_
  intro args h r hr
  obtain ⟨n2, b3, e4, l5, rfl, rfl, hq⟩ := impl_isSmooth_S φ args h r hr
  have e := impl_isSmooth_nat φ n2 b3 e4 l5 some (fun r => (some (impl_isSmooth_val r, [(.vec b3 e4 (.flt .f32) l5)]) : Option Out))
  rw [hq] at e
  exact ⟨impl_isSmooth_L φ, (LoopsOk.none 1 (bodyOf Try.f22)), (impl_isSmooth_ev φ n2 b3 e4 l5).trans e.symm⟩

/-! ### impl_at -/
theorem impl_at_ev (φ : Nat) (n2 : Int) (b3 : Bool) (e4 : Nat) (l5 : (List Nat)) : evFn T (F_11 φ) (evDraw T (F_11 φ)) (impl_at_L φ) Try.f31 [(.whole 0), (.int .i64 n2)] [(.vec b3 e4 (.flt .f32) l5)] = impl_at φ n2 b3 e4 l5 (fun r => some (impl_at_val r, [(.vec b3 e4 (.flt .f32) l5)])) := by kernel_rfl

theorem impl_at_nat (φ : Nat) (n2 : Int) (b3 : Bool) (e4 : Nat) (l5 : (List Nat)) {ρ σ : Type} (k : Nat → Option ρ) (f : ρ → Option σ) : (impl_at φ n2 b3 e4 l5 k).bind f = impl_at φ n2 b3 e4 l5 (fun r => (k r).bind f) := by
  simp only [impl_at, cond_bind, Option.bind_assoc, Option.bind_none]

theorem impl_at_S (φ : Nat) (args : List AV) (h : List Blk) (r : Nat) (hr : S_impl_at φ args h = some r) : ∃ (n2 : Int) (b3 : Bool) (e4 : Nat) (l5 : (List Nat)), args = [(.whole 0), (.int .i64 n2)] ∧ h = [(.vec b3 e4 (.flt .f32) l5)] ∧ impl_at φ n2 b3 e4 l5 some = some r := by
  unfold S_impl_at at hr
  split at hr
  · exact ⟨_, _, _, _, rfl, rfl, hr⟩
  · cases hr

theorem impl_at_ok (hT : TOk P T) (φ : Nat) (hF : FOk P (F_11 φ)) (hm : P.follows .mixedOrders = true) : SumOk P 31 (.rd (S_impl_at φ) impl_at_val) := by
  refine rd_ok (fn := Try.f31) (c := bodyOf Try.f31) hT hF (evDraw_ok hT hF hm) (by kernel_rfl) (by kernel_rfl) (by kernel_rfl) ?_
  intro args h r hr
  obtain ⟨n2, b3, e4, l5, rfl, rfl, hq⟩ := impl_at_S φ args h r hr
  have e := impl_at_nat φ n2 b3 e4 l5 some (fun r => (some (impl_at_val r, [(.vec b3 e4 (.flt .f32) l5)]) : Option Out))
  rw [hq] at e
  exact ⟨impl_at_L φ, (LoopsOk.none 1 (bodyOf Try.f31)), (impl_at_ev φ n2 b3 e4 l5).trans e.symm⟩

/-! ### slices_Clone_float32_float32 -/
theorem slices_Clone_float32_float32_ev (φ : Nat) (b2 : Bool) (e3 : Nat) (l4 : (List Nat)) : evFn T (F_12 φ) (evDraw T (F_12 φ)) (slices_Clone_float32_float32_L φ) Try.f26 [(.whole 0)] [(.vec b2 e3 (.flt .f32) l4)] = slices_Clone_float32_float32 φ b2 e3 l4 (fun r => some ((slices_Clone_float32_float32_val r).1, [(.vec b2 e3 (.flt .f32) l4)] ++ (slices_Clone_float32_float32_val r).2)) := by kernel_rfl

theorem slices_Clone_float32_float32_nat (φ : Nat) (b2 : Bool) (e3 : Nat) (l4 : (List Nat)) {ρ σ : Type} (k : (List Nat) → Option ρ) (f : ρ → Option σ) : (slices_Clone_float32_float32 φ b2 e3 l4 k).bind f = slices_Clone_float32_float32 φ b2 e3 l4 (fun r => (k r).bind f) := by
  simp only [slices_Clone_float32_float32, cond_bind, Option.bind_assoc, Option.bind_none]

theorem slices_Clone_float32_float32_S (φ : Nat) (args : List AV) (h : List Blk) (r : (List Nat)) (hr : S_slices_Clone_float32_float32 φ args h = some r) : ∃ (b2 : Bool) (e3 : Nat) (l4 : (List Nat)), args = [(.whole 0)] ∧ h = [(.vec b2 e3 (.flt .f32) l4)] ∧ slices_Clone_float32_float32 φ b2 e3 l4 some = some r := by
  unfold S_slices_Clone_float32_float32 at hr
  split at hr
  · exact ⟨_, _, _, rfl, rfl, hr⟩
  · cases hr

theorem slices_Clone_float32_float32_ok (hT : TOk P T) (φ : Nat) (hF : FOk P (F_12 φ)) (hm : P.follows .mixedOrders = true) : SumOk P 26 (.mk (S_slices_Clone_float32_float32 φ) slices_Clone_float32_float32_val) := by
  refine mk_ok (fn := Try.f26) (c := bodyOf Try.f26) hT hF (evDraw_ok hT hF hm) (by kernel_rfl) (by kernel_rfl) (by kernel_rfl) ?_
  intro args h r hr
  obtain ⟨b2, e3, l4, rfl, rfl, hq⟩ := slices_Clone_float32_float32_S φ args h r hr
  have e := slices_Clone_float32_float32_nat φ b2 e3 l4 some (fun r => (some ((slices_Clone_float32_float32_val r).1, [(.vec b2 e3 (.flt .f32) l4)] ++ (slices_Clone_float32_float32_val r).2) : Option Out))
  rw [hq] at e
  exact ⟨slices_Clone_float32_float32_L φ, (LoopsOk.none 1 (bodyOf Try.f26)), (slices_Clone_float32_float32_ev φ b2 e3 l4).trans e.symm⟩

/-! ### impl_smooth -/
theorem impl_smooth_5_step (φ : Nat) (n7 : Int) (n8 : Int) (n9 : Int) (n10 : Int) (b11 : Bool) (e12 : Nat) (l13 : (List Nat)) (l14 : (List Nat)) (G : St → Option Out) (K : Kont) : evCode T (F_13 φ) (evDraw T (F_13 φ)) (Lin_impl_smooth_5 φ) (loopOf Try.f23 5) (impl_smooth_5_st n7 n8 n9 n10 b11 e12 l13 l14) (round 1 (hasN [0, 5, 8, 9, 15, 16]) G K) =
    bif (decide (n10 < n9)) then
      Option.bind (impl_at φ (IntKind.wrap .i64 (n10 - (1 : Int))) b11 e12 l13 some) fun r15 =>
      Option.bind (idx n10 (List.length l13)) fun r16 =>
      Option.bind (l13[r16]?) fun r17 =>
      Option.bind (idx n10 (List.length l13)) fun r18 =>
      Option.bind (l13[r18]?) fun r19 =>
      Option.bind (impl_at φ (IntKind.wrap .i64 (n10 + (1 : Int))) b11 e12 l13 some) fun r20 =>
      Option.bind (idx n10 (List.length l14)) fun r21 =>
      Option.bind (l14[r21]?) fun r22 =>
      (G (impl_smooth_5_st n7 n8 n9 (IntKind.wrap .i64 (n10 + (1 : Int))) b11 e12 l13 (List.set l14 r21 (fmul .f32 (can .f32 1048576000) (fadd .f32 (fadd .f32 (fadd .f32 r15 r17) r19) r20)))))
    else
      (K (.exit 2) (St.mk (spread 0 48 [0, 5, 8, 9, 15, 16] [(.whole 0), (.whole 1), (.int .i64 n7), (.int .i64 n8), (.int .i64 n9), (.int .i64 n10)]) [(.vec b11 e12 (.flt .f32) l13), (.vec Bool.true 34 (.flt .f32) l14)])) := by kernel_rfl

theorem impl_smooth_5_ev (φ : Nat) (K : Kont) : ∀ (n : Nat) (n7 : Int) (n8 : Int) (n9 : Int) (n10 : Int) (b11 : Bool) (e12 : Nat) (l13 : (List Nat)) (l14 : (List Nat)), evLoop T (F_13 φ) (evDraw T (F_13 φ)) (Lin_impl_smooth_5 φ) 1 (hasN [0, 5, 8, 9, 15, 16]) (loopOf Try.f23 5) n (impl_smooth_5_st n7 n8 n9 n10 b11 e12 l13 l14) K = impl_smooth_5 φ n7 n8 n9 b11 e12 l13 n n10 l14 (fun n26 l30 => K (.exit 2) (St.mk (spread 0 48 [0, 5, 8, 9, 15, 16] [(.whole 0), (.whole 1), (.int .i64 n7), (.int .i64 n8), (.int .i64 n9), (.int .i64 n26)]) [(.vec b11 e12 (.flt .f32) l13), (.vec Bool.true 34 (.flt .f32) l30)])) := by
  intro n
  induction n with
  | zero => intros; rfl
  | succ n ih =>
    intros
    rw [evLoop_succ, impl_smooth_5_step]
    simp only [ih]
    rfl

theorem impl_smooth_5_nat (φ : Nat) {ρ σ : Type} (f : ρ → Option σ) : ∀ (n : Nat) (n7 : Int) (n8 : Int) (n9 : Int) (n10 : Int) (b11 : Bool) (e12 : Nat) (l13 : (List Nat)) (l14 : (List Nat)) (k0 : Int → (List Nat) → Option ρ), (impl_smooth_5 φ n7 n8 n9 b11 e12 l13 n n10 l14 k0).bind f = impl_smooth_5 φ n7 n8 n9 b11 e12 l13 n n10 l14 (fun n26 l30 => (k0 n26 l30).bind f) := by
  intro n
  induction n with
  | zero => intros; rfl
  | succ n ih =>
    intros
    simp only [impl_smooth_5, cond_bind, Option.bind_assoc, Option.bind_none, ih]

theorem impl_smooth_5_1_step (φ : Nat) (n41 : Int) (n42 : Int) (n43 : Int) (n44 : Int) (b45 : Bool) (e46 : Nat) (l47 : (List Nat)) (l48 : (List Nat)) (l49 : (List Nat)) (G : St → Option Out) (K : Kont) : evCode T (F_13 φ) (evDraw T (F_13 φ)) (Lin_impl_smooth_5 φ) (loopOf Try.f23 5) (impl_smooth_5_1_st n41 n42 n43 n44 b45 e46 l47 l48 l49) (round 1 (hasN [0, 5, 8, 9, 15, 16]) G K) =
    bif (decide (n44 < n43)) then
      Option.bind (impl_at φ (IntKind.wrap .i64 (n44 - (1 : Int))) Bool.true 34 l48 some) fun r50 =>
      Option.bind (idx n44 (List.length l48)) fun r51 =>
      Option.bind (l48[r51]?) fun r52 =>
      Option.bind (idx n44 (List.length l48)) fun r53 =>
      Option.bind (l48[r53]?) fun r54 =>
      Option.bind (impl_at φ (IntKind.wrap .i64 (n44 + (1 : Int))) Bool.true 34 l48 some) fun r55 =>
      Option.bind (idx n44 (List.length l49)) fun r56 =>
      Option.bind (l49[r56]?) fun r57 =>
      (G (impl_smooth_5_1_st n41 n42 n43 (IntKind.wrap .i64 (n44 + (1 : Int))) b45 e46 l47 l48 (List.set l49 r56 (fmul .f32 (can .f32 1048576000) (fadd .f32 (fadd .f32 (fadd .f32 r50 r52) r54) r55)))))
    else
      (K (.exit 2) (St.mk (spread 0 48 [0, 5, 8, 9, 15, 16] [(.whole 1), (.whole 2), (.int .i64 n41), (.int .i64 n42), (.int .i64 n43), (.int .i64 n44)]) [(.vec b45 e46 (.flt .f32) l47), (.vec Bool.true 34 (.flt .f32) l48), (.vec Bool.true 34 (.flt .f32) l49)])) := by kernel_rfl

theorem impl_smooth_5_1_ev (φ : Nat) (K : Kont) : ∀ (n : Nat) (n41 : Int) (n42 : Int) (n43 : Int) (n44 : Int) (b45 : Bool) (e46 : Nat) (l47 : (List Nat)) (l48 : (List Nat)) (l49 : (List Nat)), evLoop T (F_13 φ) (evDraw T (F_13 φ)) (Lin_impl_smooth_5 φ) 1 (hasN [0, 5, 8, 9, 15, 16]) (loopOf Try.f23 5) n (impl_smooth_5_1_st n41 n42 n43 n44 b45 e46 l47 l48 l49) K = impl_smooth_5_1 φ n41 n42 n43 b45 e46 l47 l48 n n44 l49 (fun n61 l66 => K (.exit 2) (St.mk (spread 0 48 [0, 5, 8, 9, 15, 16] [(.whole 1), (.whole 2), (.int .i64 n41), (.int .i64 n42), (.int .i64 n43), (.int .i64 n61)]) [(.vec b45 e46 (.flt .f32) l47), (.vec Bool.true 34 (.flt .f32) l48), (.vec Bool.true 34 (.flt .f32) l66)])) := by
  intro n
  induction n with
  | zero => intros; rfl
  | succ n ih =>
    intros
    rw [evLoop_succ, impl_smooth_5_1_step]
    simp only [ih]
    rfl

theorem impl_smooth_5_1_nat (φ : Nat) {ρ σ : Type} (f : ρ → Option σ) : ∀ (n : Nat) (n41 : Int) (n42 : Int) (n43 : Int) (n44 : Int) (b45 : Bool) (e46 : Nat) (l47 : (List Nat)) (l48 : (List Nat)) (l49 : (List Nat)) (k0 : Int → (List Nat) → Option ρ), (impl_smooth_5_1 φ n41 n42 n43 b45 e46 l47 l48 n n44 l49 k0).bind f = impl_smooth_5_1 φ n41 n42 n43 b45 e46 l47 l48 n n44 l49 (fun n61 l66 => (k0 n61 l66).bind f) := by
  intro n
  induction n with
  | zero => intros; rfl
  | succ n ih =>
    intros
    simp only [impl_smooth_5_1, cond_bind, Option.bind_assoc, Option.bind_none, ih]

theorem impl_smooth_5_ok (hT : TOk P T) (φ : Nat) (hF : FOk P (F_13 φ)) (hm : P.follows .mixedOrders = true) : LoopOk P 1 (impl_smooth_5_s φ) (loopOf Try.f23 5) := by
  refine LoopOk.of_rounds (D := (evDraw T (F_13 φ))) (L := Lin_impl_smooth_5 φ) (keep := (hasN [0, 5, 8, 9, 15, 16])) hT hF (evDraw_ok hT hF hm) (LoopsOk.none 1 (loopOf Try.f23 5)) ?_
  intro st K out h
  unfold impl_smooth_5_s at h
  split at h
  · rename_i hq1 hq2
    obtain ⟨h1, h2⟩ := cond_inv h
    rw [Bool.and_eq_true] at h1
    refine ⟨h1.1, φ, ?_⟩
    rw [norm_spread rfl st hq1 hq2 (Nat.eq_of_beq_eq_true h1.2)]
    exact (impl_smooth_5_ev φ K φ _ _ _ _ _ _ _ _).trans h2
  · rename_i hq1 hq2
    obtain ⟨h1, h2⟩ := cond_inv h
    rw [Bool.and_eq_true] at h1
    refine ⟨h1.1, φ, ?_⟩
    rw [norm_spread rfl st hq1 hq2 (Nat.eq_of_beq_eq_true h1.2)]
    exact (impl_smooth_5_1_ev φ K φ _ _ _ _ _ _ _ _ _).trans h2
  · cases h

theorem impl_smooth_2_step (φ : Nat) (n33 : Int) (n34 : Int) (b35 : Bool) (e36 : Nat) (l37 : (List Nat)) (l38 : (List Nat)) (G : St → Option Out) (K : Kont) : evCode T (F_13 φ) (evDraw T (F_13 φ)) (Lin_impl_smooth_2 φ) (loopOf Try.f23 2) (impl_smooth_2_st n33 n34 b35 e36 l37 l38) (round 1 (hasN [0, 8, 9]) G K) =
    bif (decide (n34 < n33)) then
      Option.bind (making (((List.length l38) : Nat) : Int) 4) fun r39 =>
      Option.bind (upto (((List.length l38) : Nat) : Int) r39) fun r40 =>
      impl_smooth_5_1 φ n33 n34 (((List.length (List.replicate r40 0)) : Nat) : Int) b35 e36 l37 l38 φ (0 : Int) (List.replicate r40 0)
        (fun e67 e68 =>
        (G (impl_smooth_2_st n33 (IntKind.wrap .i64 (n34 + (1 : Int))) b35 e36 l37 e68)))
    else
      (K (.exit 0) (St.mk (spread 0 48 [0, 8, 9] [(.whole 1), (.int .i64 n33), (.int .i64 n34)]) [(.vec b35 e36 (.flt .f32) l37), (.vec Bool.true 34 (.flt .f32) l38)])) := by kernel_rfl

theorem impl_smooth_2_ev (φ : Nat) (K : Kont) : ∀ (n : Nat) (n33 : Int) (n34 : Int) (b35 : Bool) (e36 : Nat) (l37 : (List Nat)) (l38 : (List Nat)), evLoop T (F_13 φ) (evDraw T (F_13 φ)) (Lin_impl_smooth_2 φ) 1 (hasN [0, 8, 9]) (loopOf Try.f23 2) n (impl_smooth_2_st n33 n34 b35 e36 l37 l38) K = impl_smooth_2 φ n33 b35 e36 l37 n n34 l38 (fun n70 l74 => K (.exit 0) (St.mk (spread 0 48 [0, 8, 9] [(.whole 1), (.int .i64 n33), (.int .i64 n70)]) [(.vec b35 e36 (.flt .f32) l37), (.vec Bool.true 34 (.flt .f32) l74)])) := by
  intro n
  induction n with
  | zero => intros; rfl
  | succ n ih =>
    intros
    rw [evLoop_succ, impl_smooth_2_step]
    simp only [ih]
    rfl

theorem impl_smooth_2_nat (φ : Nat) {ρ σ : Type} (f : ρ → Option σ) : ∀ (n : Nat) (n33 : Int) (n34 : Int) (b35 : Bool) (e36 : Nat) (l37 : (List Nat)) (l38 : (List Nat)) (k0 : Int → (List Nat) → Option ρ), (impl_smooth_2 φ n33 b35 e36 l37 n n34 l38 k0).bind f = impl_smooth_2 φ n33 b35 e36 l37 n n34 l38 (fun n70 l74 => (k0 n70 l74).bind f) := by
  intro n
  induction n with
  | zero => intros; rfl
  | succ n ih =>
    intros
    simp only [impl_smooth_2, cond_bind, Option.bind_assoc, Option.bind_none, ih, impl_smooth_5_1_nat]

theorem impl_smooth_2_1_step (φ : Nat) (n0 : Int) (n1 : Int) (b2 : Bool) (e3 : Nat) (l4 : (List Nat)) (G : St → Option Out) (K : Kont) : evCode T (F_13 φ) (evDraw T (F_13 φ)) (Lin_impl_smooth_2 φ) (loopOf Try.f23 2) (impl_smooth_2_1_st n0 n1 b2 e3 l4) (round 1 (hasN [0, 8, 9]) G K) =
    bif (decide (n1 < n0)) then
      Option.bind (making (((List.length l4) : Nat) : Int) 4) fun r5 =>
      Option.bind (upto (((List.length l4) : Nat) : Int) r5) fun r6 =>
      impl_smooth_5 φ n0 n1 (((List.length (List.replicate r6 0)) : Nat) : Int) b2 e3 l4 φ (0 : Int) (List.replicate r6 0)
        (fun e31 e32 =>
        (G (impl_smooth_2_st n0 (IntKind.wrap .i64 (n1 + (1 : Int))) b2 e3 l4 e32)))
    else
      (K (.exit 0) (St.mk (spread 0 48 [0, 8, 9] [(.whole 0), (.int .i64 n0), (.int .i64 n1)]) [(.vec b2 e3 (.flt .f32) l4)])) := by kernel_rfl

theorem impl_smooth_2_1_ev (φ : Nat) (K : Kont) : ∀ (n : Nat) (n0 : Int) (n1 : Int) (b2 : Bool) (e3 : Nat) (l4 : (List Nat)), evLoop T (F_13 φ) (evDraw T (F_13 φ)) (Lin_impl_smooth_2 φ) 1 (hasN [0, 8, 9]) (loopOf Try.f23 2) n (impl_smooth_2_1_st n0 n1 b2 e3 l4) K = impl_smooth_2_1 φ n0 n1 b2 e3 l4 n  (fun n78 l82 => K (.exit 0) (St.mk (spread 0 48 [0, 8, 9] [(.whole 1), (.int .i64 n0), (.int .i64 n78)]) [(.vec b2 e3 (.flt .f32) l4), (.vec Bool.true 34 (.flt .f32) l82)])) (K (.exit 0) (St.mk (spread 0 48 [0, 8, 9] [(.whole 0), (.int .i64 n0), (.int .i64 n1)]) [(.vec b2 e3 (.flt .f32) l4)])) := by
  intro n
  induction n with
  | zero => intros; rfl
  | succ n ih =>
    intros
    rw [evLoop_succ, impl_smooth_2_1_step]
    simp only [ih, impl_smooth_2_ev φ K]
    rfl

theorem impl_smooth_2_1_nat (φ : Nat) {ρ σ : Type} (f : ρ → Option σ) : ∀ (n : Nat) (n0 : Int) (n1 : Int) (b2 : Bool) (e3 : Nat) (l4 : (List Nat)) (k0 : Int → (List Nat) → Option ρ) (k1 : Option ρ), (impl_smooth_2_1 φ n0 n1 b2 e3 l4 n  k0 k1).bind f = impl_smooth_2_1 φ n0 n1 b2 e3 l4 n  (fun n78 l82 => (k0 n78 l82).bind f) (k1.bind f) := by
  intro n
  induction n with
  | zero => intros; rfl
  | succ n ih =>
    intros
    simp only [impl_smooth_2_1, cond_bind, Option.bind_assoc, Option.bind_none, ih, impl_smooth_5_nat, impl_smooth_2_nat φ f]

theorem impl_smooth_2_ok (hT : TOk P T) (φ : Nat) (hF : FOk P (F_13 φ)) (hm : P.follows .mixedOrders = true) : LoopOk P 1 (impl_smooth_2_s φ) (loopOf Try.f23 2) := by
  refine LoopOk.of_rounds (D := (evDraw T (F_13 φ))) (L := Lin_impl_smooth_2 φ) (keep := (hasN [0, 8, 9])) hT hF (evDraw_ok hT hF hm) (LoopsOk.loop (show apartKeys 5 (loopsOf (loopOf Try.f23 2)) = true from by kernel_rfl) (show Nat.blt 5 500000 = true from by kernel_rfl) (show findKey 5 (loopsOf (loopOf Try.f23 2)) = some (loopOf Try.f23 5) from by kernel_rfl) (impl_smooth_5_ok hT φ hF hm) (LoopsOk.none 1 (loopOf Try.f23 2))) ?_
  intro st K out h
  unfold impl_smooth_2_s at h
  split at h
  · rename_i hq1 hq2
    obtain ⟨h1, h2⟩ := cond_inv h
    rw [Bool.and_eq_true] at h1
    refine ⟨h1.1, φ, ?_⟩
    rw [norm_spread rfl st hq1 hq2 (Nat.eq_of_beq_eq_true h1.2)]
    exact (impl_smooth_2_ev φ K φ _ _ _ _ _ _).trans h2
  · rename_i hq1 hq2
    obtain ⟨h1, h2⟩ := cond_inv h
    rw [Bool.and_eq_true] at h1
    refine ⟨h1.1, φ, ?_⟩
    rw [norm_spread rfl st hq1 hq2 (Nat.eq_of_beq_eq_true h1.2)]
    exact (impl_smooth_2_1_ev φ K φ _ _ _ _ _).trans h2
  · cases h

theorem impl_smooth_ev (φ : Nat) (n2 : Int) (b3 : Bool) (e4 : Nat) (l5 : (List Nat)) : evFn T (F_13 φ) (evDraw T (F_13 φ)) (impl_smooth_L φ) Try.f23 [(.whole 0), (.int .i64 n2)] [(.vec b3 e4 (.flt .f32) l5)] = impl_smooth φ n2 b3 e4 l5 (fun r => some ((impl_smooth_val r).1, [(.vec b3 e4 (.flt .f32) l5)] ++ (impl_smooth_val r).2)) := by kernel_rfl

theorem impl_smooth_nat (φ : Nat) (n2 : Int) (b3 : Bool) (e4 : Nat) (l5 : (List Nat)) {ρ σ : Type} (k : (List Nat) → Option ρ) (f : ρ → Option σ) : (impl_smooth φ n2 b3 e4 l5 k).bind f = impl_smooth φ n2 b3 e4 l5 (fun r => (k r).bind f) := by
  simp only [impl_smooth, cond_bind, Option.bind_assoc, Option.bind_none, impl_smooth_5_nat, impl_smooth_5_1_nat, impl_smooth_2_nat, impl_smooth_2_1_nat]

theorem impl_smooth_S (φ : Nat) (args : List AV) (h : List Blk) (r : (List Nat)) (hr : S_impl_smooth φ args h = some r) : ∃ (n2 : Int) (b3 : Bool) (e4 : Nat) (l5 : (List Nat)), args = [(.whole 0), (.int .i64 n2)] ∧ h = [(.vec b3 e4 (.flt .f32) l5)] ∧ impl_smooth φ n2 b3 e4 l5 some = some r := by
  unfold S_impl_smooth at hr
  split at hr
  · exact ⟨_, _, _, _, rfl, rfl, hr⟩
  · cases hr

theorem impl_smooth_ok (hT : TOk P T) (φ : Nat) (hF : FOk P (F_13 φ)) (hm : P.follows .mixedOrders = true) : SumOk P 23 (.mk (S_impl_smooth φ) impl_smooth_val) := by
  refine mk_ok (fn := Try.f23) (c := bodyOf Try.f23) hT hF (evDraw_ok hT hF hm) (by kernel_rfl) (by kernel_rfl) (by kernel_rfl) ?_
  intro args h r hr
  obtain ⟨n2, b3, e4, l5, rfl, rfl, hq⟩ := impl_smooth_S φ args h r hr
  have e := impl_smooth_nat φ n2 b3 e4 l5 some (fun r => (some ((impl_smooth_val r).1, [(.vec b3 e4 (.flt .f32) l5)] ++ (impl_smooth_val r).2) : Option Out))
  rw [hq] at e
  exact ⟨impl_smooth_L φ, (LoopsOk.loop (show apartKeys 2 (loopsOf (bodyOf Try.f23)) = true from by kernel_rfl) (show Nat.blt 2 500000 = true from by kernel_rfl) (show findKey 2 (loopsOf (bodyOf Try.f23)) = some (loopOf Try.f23 2) from by kernel_rfl) (impl_smooth_2_ok hT φ hF hm) (LoopsOk.none 1 (bodyOf Try.f23))), (impl_smooth_ev φ n2 b3 e4 l5).trans e.symm⟩

/-! ### impl_SmoothTrace -/
theorem impl_SmoothTrace_ev (φ : Nat) (n2 : Int) (b3 : Bool) (e4 : Nat) (l5 : (List Nat)) : evFn T (F_14 φ) (evDraw T (F_14 φ)) (impl_SmoothTrace_L φ) Try.f7 [(.whole 0), (.int .i64 n2)] [(.vec b3 e4 (.flt .f32) l5)] = impl_SmoothTrace φ n2 b3 e4 l5 (fun r => some ((impl_SmoothTrace_val r).1, [(.vec b3 e4 (.flt .f32) l5)] ++ (impl_SmoothTrace_val r).2)) := by kernel_rfl

theorem impl_SmoothTrace_nat (φ : Nat) (n2 : Int) (b3 : Bool) (e4 : Nat) (l5 : (List Nat)) {ρ σ : Type} (k : (Bool × (List Nat)) → Option ρ) (f : ρ → Option σ) : (impl_SmoothTrace φ n2 b3 e4 l5 k).bind f = impl_SmoothTrace φ n2 b3 e4 l5 (fun r => (k r).bind f) := by
  simp only [impl_SmoothTrace, cond_bind, Option.bind_assoc, Option.bind_none]

theorem impl_SmoothTrace_S (φ : Nat) (args : List AV) (h : List Blk) (r : (Bool × (List Nat))) (hr : S_impl_SmoothTrace φ args h = some r) : ∃ (n2 : Int) (b3 : Bool) (e4 : Nat) (l5 : (List Nat)), args = [(.whole 0), (.int .i64 n2)] ∧ h = [(.vec b3 e4 (.flt .f32) l5)] ∧ impl_SmoothTrace φ n2 b3 e4 l5 some = some r := by
  unfold S_impl_SmoothTrace at hr
  split at hr
  · exact ⟨_, _, _, _, rfl, rfl, hr⟩
  · cases hr

theorem impl_SmoothTrace_ok (hT : TOk P T) (φ : Nat) (hF : FOk P (F_14 φ)) (hm : P.follows .mixedOrders = true) : SumOk P 7 (.mk (S_impl_SmoothTrace φ) impl_SmoothTrace_val) := by
  refine mk_ok (fn := Try.f7) (c := bodyOf Try.f7) hT hF (evDraw_ok hT hF hm) (by kernel_rfl) (by kernel_rfl) (by kernel_rfl) ?_
  intro args h r hr
  obtain ⟨n2, b3, e4, l5, rfl, rfl, hq⟩ := impl_SmoothTrace_S φ args h r hr
  have e := impl_SmoothTrace_nat φ n2 b3 e4 l5 some (fun r => (some ((impl_SmoothTrace_val r).1, [(.vec b3 e4 (.flt .f32) l5)] ++ (impl_SmoothTrace_val r).2) : Option Out))
  rw [hq] at e
  exact ⟨impl_SmoothTrace_L φ, (LoopsOk.none 1 (bodyOf Try.f7)), (impl_SmoothTrace_ev φ n2 b3 e4 l5).trans e.symm⟩

/-! ### impl_lessTraces -/
theorem impl_lessTraces_3_step (φ : Nat) (n1 : Int) (n2 : Int) (b3 : Bool) (e4 : Nat) (l5 : (List Nat)) (b6 : Bool) (e7 : Nat) (l8 : (List Nat)) (l9 : (List Nat)) (G : St → Option Out) (K : Kont) : evCode T (F_15 φ) (evDraw T (F_15 φ)) (Lin_impl_lessTraces_3 φ) (loopOf Try.f24 3) (impl_lessTraces_3_st n1 n2 b3 e4 l5 b6 e7 l8 l9) (round 2 (hasN [5, 10, 11, 12]) G K) =
    bif (decide (n2 < n1)) then
      Option.bind (idx n2 (List.length l8)) fun r10 =>
      Option.bind (l8[r10]?) fun r11 =>
      Option.bind (idx n2 (List.length l9)) fun r12 =>
      Option.bind (l9[r12]?) fun r13 =>
      Option.bind (idx n2 (List.length l9)) fun r14 =>
      Option.bind (l9[r14]?) fun r15 =>
      (G (impl_lessTraces_3_st n1 (IntKind.wrap .i64 (n2 + (1 : Int))) b3 e4 l5 b6 e7 l8 (List.set l9 r14 (fsub .f32 r13 r11))))
    else
      (K (.exit 0) (St.mk (spread 0 26 [5, 10, 11, 12] [(.whole 2), (.whole 1), (.int .i64 n1), (.int .i64 n2)]) [(.vec b3 e4 (.flt .f32) l5), (.vec b6 e7 (.flt .f32) l8), (.vec Bool.true 34 (.flt .f32) l9)])) := by kernel_rfl

theorem impl_lessTraces_3_ev (φ : Nat) (K : Kont) : ∀ (n : Nat) (n1 : Int) (n2 : Int) (b3 : Bool) (e4 : Nat) (l5 : (List Nat)) (b6 : Bool) (e7 : Nat) (l8 : (List Nat)) (l9 : (List Nat)), evLoop T (F_15 φ) (evDraw T (F_15 φ)) (Lin_impl_lessTraces_3 φ) 2 (hasN [5, 10, 11, 12]) (loopOf Try.f24 3) n (impl_lessTraces_3_st n1 n2 b3 e4 l5 b6 e7 l8 l9) K = impl_lessTraces_3 φ n1 b3 e4 l5 b6 e7 l8 n n2 l9 (fun n17 l24 => K (.exit 0) (St.mk (spread 0 26 [5, 10, 11, 12] [(.whole 2), (.whole 1), (.int .i64 n1), (.int .i64 n17)]) [(.vec b3 e4 (.flt .f32) l5), (.vec b6 e7 (.flt .f32) l8), (.vec Bool.true 34 (.flt .f32) l24)])) := by
  intro n
  induction n with
  | zero => intros; rfl
  | succ n ih =>
    intros
    rw [evLoop_succ, impl_lessTraces_3_step]
    simp only [ih]
    rfl

theorem impl_lessTraces_3_nat (φ : Nat) {ρ σ : Type} (f : ρ → Option σ) : ∀ (n : Nat) (n1 : Int) (n2 : Int) (b3 : Bool) (e4 : Nat) (l5 : (List Nat)) (b6 : Bool) (e7 : Nat) (l8 : (List Nat)) (l9 : (List Nat)) (k0 : Int → (List Nat) → Option ρ), (impl_lessTraces_3 φ n1 b3 e4 l5 b6 e7 l8 n n2 l9 k0).bind f = impl_lessTraces_3 φ n1 b3 e4 l5 b6 e7 l8 n n2 l9 (fun n17 l24 => (k0 n17 l24).bind f) := by
  intro n
  induction n with
  | zero => intros; rfl
  | succ n ih =>
    intros
    simp only [impl_lessTraces_3, cond_bind, Option.bind_assoc, Option.bind_none, ih]

theorem impl_lessTraces_3_ok (hT : TOk P T) (φ : Nat) (hF : FOk P (F_15 φ)) (hm : P.follows .mixedOrders = true) : LoopOk P 2 (impl_lessTraces_3_s φ) (loopOf Try.f24 3) := by
  refine LoopOk.of_rounds (D := (evDraw T (F_15 φ))) (L := Lin_impl_lessTraces_3 φ) (keep := (hasN [5, 10, 11, 12])) hT hF (evDraw_ok hT hF hm) (LoopsOk.none 2 (loopOf Try.f24 3)) ?_
  intro st K out h
  unfold impl_lessTraces_3_s at h
  split at h
  · rename_i hq1 hq2
    obtain ⟨h1, h2⟩ := cond_inv h
    rw [Bool.and_eq_true] at h1
    refine ⟨h1.1, φ, ?_⟩
    rw [norm_spread rfl st hq1 hq2 (Nat.eq_of_beq_eq_true h1.2)]
    exact (impl_lessTraces_3_ev φ K φ _ _ _ _ _ _ _ _ _).trans h2
  · cases h

theorem impl_lessTraces_ev (φ : Nat) (b4 : Bool) (e5 : Nat) (l6 : (List Nat)) (b7 : Bool) (e8 : Nat) (l9 : (List Nat)) : evFn T (F_15 φ) (evDraw T (F_15 φ)) (impl_lessTraces_L φ) Try.f24 [(.whole 0), (.whole 1)] [(.vec b4 e5 (.flt .f32) l6), (.vec b7 e8 (.flt .f32) l9)] = impl_lessTraces φ b4 e5 l6 b7 e8 l9 (fun r => some ((impl_lessTraces_val r).1, [(.vec b4 e5 (.flt .f32) l6), (.vec b7 e8 (.flt .f32) l9)] ++ (impl_lessTraces_val r).2)) := by kernel_rfl

theorem impl_lessTraces_nat (φ : Nat) (b4 : Bool) (e5 : Nat) (l6 : (List Nat)) (b7 : Bool) (e8 : Nat) (l9 : (List Nat)) {ρ σ : Type} (k : (List Nat) → Option ρ) (f : ρ → Option σ) : (impl_lessTraces φ b4 e5 l6 b7 e8 l9 k).bind f = impl_lessTraces φ b4 e5 l6 b7 e8 l9 (fun r => (k r).bind f) := by
  simp only [impl_lessTraces, cond_bind, Option.bind_assoc, Option.bind_none, impl_lessTraces_3_nat]

theorem impl_lessTraces_S (φ : Nat) (args : List AV) (h : List Blk) (r : (List Nat)) (hr : S_impl_lessTraces φ args h = some r) : ∃ (b4 : Bool) (e5 : Nat) (l6 : (List Nat)) (b7 : Bool) (e8 : Nat) (l9 : (List Nat)), args = [(.whole 0), (.whole 1)] ∧ h = [(.vec b4 e5 (.flt .f32) l6), (.vec b7 e8 (.flt .f32) l9)] ∧ impl_lessTraces φ b4 e5 l6 b7 e8 l9 some = some r := by
  unfold S_impl_lessTraces at hr
  split at hr
  · exact ⟨_, _, _, _, _, _, rfl, rfl, hr⟩
  · cases hr

theorem impl_lessTraces_ok (hT : TOk P T) (φ : Nat) (hF : FOk P (F_15 φ)) (hm : P.follows .mixedOrders = true) : SumOk P 24 (.mk (S_impl_lessTraces φ) impl_lessTraces_val) := by
  refine mk_ok (fn := Try.f24) (c := bodyOf Try.f24) hT hF (evDraw_ok hT hF hm) (by kernel_rfl) (by kernel_rfl) (by kernel_rfl) ?_
  intro args h r hr
  obtain ⟨b4, e5, l6, b7, e8, l9, rfl, rfl, hq⟩ := impl_lessTraces_S φ args h r hr
  have e := impl_lessTraces_nat φ b4 e5 l6 b7 e8 l9 some (fun r => (some ((impl_lessTraces_val r).1, [(.vec b4 e5 (.flt .f32) l6), (.vec b7 e8 (.flt .f32) l9)] ++ (impl_lessTraces_val r).2) : Option Out))
  rw [hq] at e
  exact ⟨impl_lessTraces_L φ, (LoopsOk.loop (show apartKeys 3 (loopsOf (bodyOf Try.f24)) = true from by kernel_rfl) (show Nat.blt 3 500000 = true from by kernel_rfl) (show findKey 3 (loopsOf (bodyOf Try.f24)) = some (loopOf Try.f24 3) from by kernel_rfl) (impl_lessTraces_3_ok hT φ hF hm) (LoopsOk.none 2 (bodyOf Try.f24))), (impl_lessTraces_ev φ b4 e5 l6 b7 e8 l9).trans e.symm⟩

/-! ### impl_RoughTrace -/
theorem impl_RoughTrace_ev (φ : Nat) (n2 : Int) (b3 : Bool) (e4 : Nat) (l5 : (List Nat)) : evFn T (F_16 φ) (evDraw T (F_16 φ)) (impl_RoughTrace_L φ) Try.f8 [(.whole 0), (.int .i64 n2)] [(.vec b3 e4 (.flt .f32) l5)] = impl_RoughTrace φ n2 b3 e4 l5 (fun r => some ((impl_RoughTrace_val r).1, [(.vec b3 e4 (.flt .f32) l5)] ++ (impl_RoughTrace_val r).2)) := by kernel_rfl

theorem impl_RoughTrace_nat (φ : Nat) (n2 : Int) (b3 : Bool) (e4 : Nat) (l5 : (List Nat)) {ρ σ : Type} (k : (Bool × (List Nat)) → Option ρ) (f : ρ → Option σ) : (impl_RoughTrace φ n2 b3 e4 l5 k).bind f = impl_RoughTrace φ n2 b3 e4 l5 (fun r => (k r).bind f) := by
  simp only [impl_RoughTrace, cond_bind, Option.bind_assoc, Option.bind_none]

theorem impl_RoughTrace_S (φ : Nat) (args : List AV) (h : List Blk) (r : (Bool × (List Nat))) (hr : S_impl_RoughTrace φ args h = some r) : ∃ (n2 : Int) (b3 : Bool) (e4 : Nat) (l5 : (List Nat)), args = [(.whole 0), (.int .i64 n2)] ∧ h = [(.vec b3 e4 (.flt .f32) l5)] ∧ impl_RoughTrace φ n2 b3 e4 l5 some = some r := by
  unfold S_impl_RoughTrace at hr
  split at hr
  · exact ⟨_, _, _, _, rfl, rfl, hr⟩
  · cases hr

theorem impl_RoughTrace_ok (hT : TOk P T) (φ : Nat) (hF : FOk P (F_16 φ)) (hm : P.follows .mixedOrders = true) : SumOk P 8 (.mk (S_impl_RoughTrace φ) impl_RoughTrace_val) := by
  refine mk_ok (fn := Try.f8) (c := bodyOf Try.f8) hT hF (evDraw_ok hT hF hm) (by kernel_rfl) (by kernel_rfl) (by kernel_rfl) ?_
  intro args h r hr
  obtain ⟨n2, b3, e4, l5, rfl, rfl, hq⟩ := impl_RoughTrace_S φ args h r hr
  have e := impl_RoughTrace_nat φ n2 b3 e4 l5 some (fun r => (some ((impl_RoughTrace_val r).1, [(.vec b3 e4 (.flt .f32) l5)] ++ (impl_RoughTrace_val r).2) : Option Out))
  rw [hq] at e
  exact ⟨impl_RoughTrace_L φ, (LoopsOk.none 1 (bodyOf Try.f8)), (impl_RoughTrace_ev φ n2 b3 e4 l5).trans e.symm⟩

/-! ### impl_areEven -/
theorem impl_areEven_ev (φ : Nat) (b4 : Bool) (e5 : Nat) (l6 : (List Nat)) (b7 : Bool) (e8 : Nat) (l9 : (List Nat)) : evFn T (F_17 φ) (evDraw T (F_17 φ)) (impl_areEven_L φ) Try.f25 [(.whole 0), (.whole 1)] [(.vec b4 e5 (.flt .f32) l6), (.vec b7 e8 (.flt .f32) l9)] = impl_areEven φ b4 e5 l6 b7 e8 l9 (fun r => some (impl_areEven_val r, [(.vec b4 e5 (.flt .f32) l6), (.vec b7 e8 (.flt .f32) l9)])) := by kernel_rfl

theorem impl_areEven_nat (φ : Nat) (b4 : Bool) (e5 : Nat) (l6 : (List Nat)) (b7 : Bool) (e8 : Nat) (l9 : (List Nat)) {ρ σ : Type} (k : Bool → Option ρ) (f : ρ → Option σ) : (impl_areEven φ b4 e5 l6 b7 e8 l9 k).bind f = impl_areEven φ b4 e5 l6 b7 e8 l9 (fun r => (k r).bind f) := by
  simp only [impl_areEven, cond_bind, Option.bind_assoc, Option.bind_none]

theorem impl_areEven_S (φ : Nat) (args : List AV) (h : List Blk) (r : Bool) (hr : S_impl_areEven φ args h = some r) : ∃ (b4 : Bool) (e5 : Nat) (l6 : (List Nat)) (b7 : Bool) (e8 : Nat) (l9 : (List Nat)), args = [(.whole 0), (.whole 1)] ∧ h = [(.vec b4 e5 (.flt .f32) l6), (.vec b7 e8 (.flt .f32) l9)] ∧ impl_areEven φ b4 e5 l6 b7 e8 l9 some = some r := by
  unfold S_impl_areEven at hr
  split at hr
  · exact ⟨_, _, _, _, _, _, rfl, rfl, hr⟩
  · cases hr

theorem impl_areEven_ok (hT : TOk P T) (φ : Nat) (hF : FOk P (F_17 φ)) (hm : P.follows .mixedOrders = true) : SumOk P 25 (.rd (S_impl_areEven φ) impl_areEven_val) := by
  refine rd_ok (fn := Try.f25) (c := bodyOf Try.f25) hT hF (evDraw_ok hT hF hm) (by kernel_rfl) (by kernel_rfl) (by kernel_rfl) ?_
  intro args h r hr
  obtain ⟨b4, e5, l6, b7, e8, l9, rfl, rfl, hq⟩ := impl_areEven_S φ args h r hr
  have e := impl_areEven_nat φ b4 e5 l6 b7 e8 l9 some (fun r => (some (impl_areEven_val r, [(.vec b4 e5 (.flt .f32) l6), (.vec b7 e8 (.flt .f32) l9)]) : Option Out))
  rw [hq] at e
  exact ⟨impl_areEven_L φ, (LoopsOk.none 2 (bodyOf Try.f25)), (impl_areEven_ev φ b4 e5 l6 b7 e8 l9).trans e.symm⟩

/-! ### impl_AddTraces -/
theorem impl_AddTraces_5_step (φ : Nat) (n2 : Int) (n3 : Int) (b4 : Bool) (e5 : Nat) (l6 : (List Nat)) (b7 : Bool) (e8 : Nat) (l9 : (List Nat)) (l10 : (List Nat)) (G : St → Option Out) (K : Kont) : evCode T (F_18 φ) (evDraw T (F_18 φ)) (Lin_impl_AddTraces_5 φ) (loopOf Try.f9 5) (impl_AddTraces_5_st n2 n3 b4 e5 l6 b7 e8 l9 l10) (round 2 (hasN [6, 15, 16, 17]) G K) =
    bif (decide (n3 < n2)) then
      Option.bind (idx n3 (List.length l9)) fun r11 =>
      Option.bind (l9[r11]?) fun r12 =>
      Option.bind (idx n3 (List.length l10)) fun r13 =>
      Option.bind (l10[r13]?) fun r14 =>
      Option.bind (idx n3 (List.length l10)) fun r15 =>
      Option.bind (l10[r15]?) fun r16 =>
      (G (impl_AddTraces_5_st n2 (IntKind.wrap .i64 (n3 + (1 : Int))) b4 e5 l6 b7 e8 l9 (List.set l10 r15 (fadd .f32 r14 r12))))
    else
      (K (.exit 0) (St.mk (spread 0 31 [6, 15, 16, 17] [(.whole 2), (.whole 1), (.int .i64 n2), (.int .i64 n3)]) [(.vec b4 e5 (.flt .f32) l6), (.vec b7 e8 (.flt .f32) l9), (.vec Bool.true 34 (.flt .f32) l10)])) := by kernel_rfl

theorem impl_AddTraces_5_ev (φ : Nat) (K : Kont) : ∀ (n : Nat) (n2 : Int) (n3 : Int) (b4 : Bool) (e5 : Nat) (l6 : (List Nat)) (b7 : Bool) (e8 : Nat) (l9 : (List Nat)) (l10 : (List Nat)), evLoop T (F_18 φ) (evDraw T (F_18 φ)) (Lin_impl_AddTraces_5 φ) 2 (hasN [6, 15, 16, 17]) (loopOf Try.f9 5) n (impl_AddTraces_5_st n2 n3 b4 e5 l6 b7 e8 l9 l10) K = impl_AddTraces_5 φ n2 b4 e5 l6 b7 e8 l9 n n3 l10 (fun n18 l25 => K (.exit 0) (St.mk (spread 0 31 [6, 15, 16, 17] [(.whole 2), (.whole 1), (.int .i64 n2), (.int .i64 n18)]) [(.vec b4 e5 (.flt .f32) l6), (.vec b7 e8 (.flt .f32) l9), (.vec Bool.true 34 (.flt .f32) l25)])) := by
  intro n
  induction n with
  | zero => intros; rfl
  | succ n ih =>
    intros
    rw [evLoop_succ, impl_AddTraces_5_step]
    simp only [ih]
    rfl

theorem impl_AddTraces_5_nat (φ : Nat) {ρ σ : Type} (f : ρ → Option σ) : ∀ (n : Nat) (n2 : Int) (n3 : Int) (b4 : Bool) (e5 : Nat) (l6 : (List Nat)) (b7 : Bool) (e8 : Nat) (l9 : (List Nat)) (l10 : (List Nat)) (k0 : Int → (List Nat) → Option ρ), (impl_AddTraces_5 φ n2 b4 e5 l6 b7 e8 l9 n n3 l10 k0).bind f = impl_AddTraces_5 φ n2 b4 e5 l6 b7 e8 l9 n n3 l10 (fun n18 l25 => (k0 n18 l25).bind f) := by
  intro n
  induction n with
  | zero => intros; rfl
  | succ n ih =>
    intros
    simp only [impl_AddTraces_5, cond_bind, Option.bind_assoc, Option.bind_none, ih]

theorem impl_AddTraces_5_ok (hT : TOk P T) (φ : Nat) (hF : FOk P (F_18 φ)) (hm : P.follows .mixedOrders = true) : LoopOk P 2 (impl_AddTraces_5_s φ) (loopOf Try.f9 5) := by
  refine LoopOk.of_rounds (D := (evDraw T (F_18 φ))) (L := Lin_impl_AddTraces_5 φ) (keep := (hasN [6, 15, 16, 17])) hT hF (evDraw_ok hT hF hm) (LoopsOk.none 2 (loopOf Try.f9 5)) ?_
  intro st K out h
  unfold impl_AddTraces_5_s at h
  split at h
  · rename_i hq1 hq2
    obtain ⟨h1, h2⟩ := cond_inv h
    rw [Bool.and_eq_true] at h1
    refine ⟨h1.1, φ, ?_⟩
    rw [norm_spread rfl st hq1 hq2 (Nat.eq_of_beq_eq_true h1.2)]
    exact (impl_AddTraces_5_ev φ K φ _ _ _ _ _ _ _ _ _).trans h2
  · cases h

theorem impl_AddTraces_ev (φ : Nat) (b4 : Bool) (e5 : Nat) (l6 : (List Nat)) (b7 : Bool) (e8 : Nat) (l9 : (List Nat)) : evFn T (F_18 φ) (evDraw T (F_18 φ)) (impl_AddTraces_L φ) Try.f9 [(.whole 0), (.whole 1)] [(.vec b4 e5 (.flt .f32) l6), (.vec b7 e8 (.flt .f32) l9)] = impl_AddTraces φ b4 e5 l6 b7 e8 l9 (fun r => some ((impl_AddTraces_val r).1, [(.vec b4 e5 (.flt .f32) l6), (.vec b7 e8 (.flt .f32) l9)] ++ (impl_AddTraces_val r).2)) := by kernel_rfl

theorem impl_AddTraces_nat (φ : Nat) (b4 : Bool) (e5 : Nat) (l6 : (List Nat)) (b7 : Bool) (e8 : Nat) (l9 : (List Nat)) {ρ σ : Type} (k : (Bool × (List Nat)) → Option ρ) (f : ρ → Option σ) : (impl_AddTraces φ b4 e5 l6 b7 e8 l9 k).bind f = impl_AddTraces φ b4 e5 l6 b7 e8 l9 (fun r => (k r).bind f) := by
  simp only [impl_AddTraces, cond_bind, Option.bind_assoc, Option.bind_none, impl_AddTraces_5_nat]

theorem impl_AddTraces_S (φ : Nat) (args : List AV) (h : List Blk) (r : (Bool × (List Nat))) (hr : S_impl_AddTraces φ args h = some r) : ∃ (b4 : Bool) (e5 : Nat) (l6 : (List Nat)) (b7 : Bool) (e8 : Nat) (l9 : (List Nat)), args = [(.whole 0), (.whole 1)] ∧ h = [(.vec b4 e5 (.flt .f32) l6), (.vec b7 e8 (.flt .f32) l9)] ∧ impl_AddTraces φ b4 e5 l6 b7 e8 l9 some = some r := by
  unfold S_impl_AddTraces at hr
  split at hr
  · exact ⟨_, _, _, _, _, _, rfl, rfl, hr⟩
  · cases hr

theorem impl_AddTraces_ok (hT : TOk P T) (φ : Nat) (hF : FOk P (F_18 φ)) (hm : P.follows .mixedOrders = true) : SumOk P 9 (.mk (S_impl_AddTraces φ) impl_AddTraces_val) := by
  refine mk_ok (fn := Try.f9) (c := bodyOf Try.f9) hT hF (evDraw_ok hT hF hm) (by kernel_rfl) (by kernel_rfl) (by kernel_rfl) ?_
  intro args h r hr
  obtain ⟨b4, e5, l6, b7, e8, l9, rfl, rfl, hq⟩ := impl_AddTraces_S φ args h r hr
  have e := impl_AddTraces_nat φ b4 e5 l6 b7 e8 l9 some (fun r => (some ((impl_AddTraces_val r).1, [(.vec b4 e5 (.flt .f32) l6), (.vec b7 e8 (.flt .f32) l9)] ++ (impl_AddTraces_val r).2) : Option Out))
  rw [hq] at e
  exact ⟨impl_AddTraces_L φ, (LoopsOk.loop (show apartKeys 5 (loopsOf (bodyOf Try.f9)) = true from by kernel_rfl) (show Nat.blt 5 500000 = true from by kernel_rfl) (show findKey 5 (loopsOf (bodyOf Try.f9)) = some (loopOf Try.f9 5) from by kernel_rfl) (impl_AddTraces_5_ok hT φ hF hm) (LoopsOk.none 2 (bodyOf Try.f9))), (impl_AddTraces_ev φ b4 e5 l6 b7 e8 l9).trans e.symm⟩

end
end Go.Proofs.Ytedpmhnglbgihaa

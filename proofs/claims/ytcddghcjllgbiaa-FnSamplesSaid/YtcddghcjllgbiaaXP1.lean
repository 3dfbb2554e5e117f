/-
  That they do so: function by function.
-/
import Derived.Test.YtcddghcjllgbiaaXD1
set_option linter.all false
set_option maxRecDepth 100000
set_option maxHeartbeats 4000000
namespace Go.Proofs.Ytcddghcjllgbiaa
open Go.Ev
noncomputable section

/-! ### laws_r8Long -/
theorem laws_r8Long_ev (φ : Nat) (b4 : Bool) (e5 : Nat) (l6 : (List Int)) (b7 : Bool) (e8 : Nat) (l9 : (List Int)) : evFn T (F_0 φ) (evDraw T (F_0 φ)) (laws_r8Long_L φ) Try.f4 [(.whole 0), (.whole 1)] [(.vec b4 e5 (.int .u8) l6), (.vec b7 e8 (.int .u8) l9)] = laws_r8Long φ b4 e5 l6 b7 e8 l9 (fun r => some (laws_r8Long_val r, [(.vec b4 e5 (.int .u8) l6), (.vec b7 e8 (.int .u8) l9)])) := by kernel_rfl

theorem laws_r8Long_nat (φ : Nat) (b4 : Bool) (e5 : Nat) (l6 : (List Int)) (b7 : Bool) (e8 : Nat) (l9 : (List Int)) {ρ σ : Type} (k : Bool → Option ρ) (f : ρ → Option σ) : (laws_r8Long φ b4 e5 l6 b7 e8 l9 k).bind f = laws_r8Long φ b4 e5 l6 b7 e8 l9 (fun r => (k r).bind f) := by
  simp only [laws_r8Long, cond_bind, Option.bind_assoc, Option.bind_none]

theorem laws_r8Long_S (φ : Nat) (args : List AV) (h : List Blk) (r : Bool) (hr : S_laws_r8Long φ args h = some r) : ∃ (b4 : Bool) (e5 : Nat) (l6 : (List Int)) (b7 : Bool) (e8 : Nat) (l9 : (List Int)), args = [(.whole 0), (.whole 1)] ∧ h = [(.vec b4 e5 (.int .u8) l6), (.vec b7 e8 (.int .u8) l9)] ∧ laws_r8Long φ b4 e5 l6 b7 e8 l9 some = some r := by
  unfold S_laws_r8Long at hr
  split at hr
  · exact ⟨_, _, _, _, _, _, rfl, rfl, hr⟩
  · cases hr

theorem laws_r8Long_ok (hT : TOk P T) (φ : Nat) (hF : FOk P (F_0 φ)) (hm : P.follows .mixedOrders = true) : SumOk P 4 (.rd (S_laws_r8Long φ) laws_r8Long_val) := by
  refine rd_ok (fn := Try.f4) (c := bodyOf Try.f4) hT hF (evDraw_ok hT hF hm) (by kernel_rfl) (by kernel_rfl) (by kernel_rfl) ?_
  intro args h r hr
  obtain ⟨b4, e5, l6, b7, e8, l9, rfl, rfl, hq⟩ := laws_r8Long_S φ args h r hr
  have e := laws_r8Long_nat φ b4 e5 l6 b7 e8 l9 some (fun r => (some (laws_r8Long_val r, [(.vec b4 e5 (.int .u8) l6), (.vec b7 e8 (.int .u8) l9)]) : Option Out))
  rw [hq] at e
  exact ⟨laws_r8Long_L φ, (LoopsOk.none 2 (bodyOf Try.f4)), (laws_r8Long_ev φ b4 e5 l6 b7 e8 l9).trans e.symm⟩

/-! ### laws_r8At -/
theorem laws_r8At_c3_ev (φ : Nat) (K : Kont) (n0 : Int) (n1 : Int) (n2 : Int) (b3 : Bool) (e4 : Nat) (l5 : (List Int)) : evCode T (F_1 φ) (evDraw T (F_1 φ)) (Lin_laws_r8At_c3 φ) (tailOf Try.f5 3) (laws_r8At_c3_st n0 n1 n2 b3 e4 l5) (once 1 (hasN [0, 1, 2, 6]) K) = laws_r8At_c3 φ n0 n1 n2 b3 e4 l5 (fun n11 => K .ret (St.mk (spread 0 22 [0, 1, 2, 6] [(.whole 0), (.int .i64 n0), (.int .i64 n1), (.int .i64 n11)]) [(.vec b3 e4 (.int .u8) l5)])) := by kernel_rfl

theorem laws_r8At_c3_nat (φ : Nat) {ρ σ : Type} (f : ρ → Option σ) (n0 : Int) (n1 : Int) (n2 : Int) (b3 : Bool) (e4 : Nat) (l5 : (List Int)) (k0 : Int → Option ρ) : (laws_r8At_c3 φ n0 n1 n2 b3 e4 l5 k0).bind f = laws_r8At_c3 φ n0 n1 n2 b3 e4 l5 (fun n11 => (k0 n11).bind f) := by
  simp only [laws_r8At_c3, cond_bind, Option.bind_assoc, Option.bind_none]

theorem laws_r8At_c3_ok (hT : TOk P T) (φ : Nat) (hF : FOk P (F_1 φ)) (hm : P.follows .mixedOrders = true) : CodeOk P 1 (laws_r8At_c3_s φ) (tailOf Try.f5 3) := by
  refine CodeOk.of_once (D := (evDraw T (F_1 φ))) (L := Lin_laws_r8At_c3 φ) (keep := (hasN [0, 1, 2, 6])) hT hF (evDraw_ok hT hF hm) (LoopsOk.none 1 (tailOf Try.f5 3)) ?_
  intro st K out h
  unfold laws_r8At_c3_s at h
  split at h
  · rename_i hq1 hq2
    obtain ⟨h1, h2⟩ := cond_inv h
    rw [Bool.and_eq_true] at h1
    refine ⟨h1.1, ?_⟩
    rw [norm_spread rfl st hq1 hq2 (Nat.eq_of_beq_eq_true h1.2)]
    exact (laws_r8At_c3_ev φ K _ _ _ _ _ _).trans h2
  cases h

theorem laws_r8At_ev (φ : Nat) (n2 : Int) (n3 : Int) (b4 : Bool) (e5 : Nat) (l6 : (List Int)) : evFn T (F_1 φ) (evDraw T (F_1 φ)) (laws_r8At_L φ) Try.f5 [(.whole 0), (.int .i64 n2), (.int .i64 n3)] [(.vec b4 e5 (.int .u8) l6)] = laws_r8At φ n2 n3 b4 e5 l6 (fun r => some (laws_r8At_val r, [(.vec b4 e5 (.int .u8) l6)])) := by kernel_rfl

theorem laws_r8At_nat (φ : Nat) (n2 : Int) (n3 : Int) (b4 : Bool) (e5 : Nat) (l6 : (List Int)) {ρ σ : Type} (k : Int → Option ρ) (f : ρ → Option σ) : (laws_r8At φ n2 n3 b4 e5 l6 k).bind f = laws_r8At φ n2 n3 b4 e5 l6 (fun r => (k r).bind f) := by
  simp only [laws_r8At, cond_bind, Option.bind_assoc, Option.bind_none, laws_r8At_c3_nat]

theorem laws_r8At_S (φ : Nat) (args : List AV) (h : List Blk) (r : Int) (hr : S_laws_r8At φ args h = some r) : ∃ (n2 : Int) (n3 : Int) (b4 : Bool) (e5 : Nat) (l6 : (List Int)), args = [(.whole 0), (.int .i64 n2), (.int .i64 n3)] ∧ h = [(.vec b4 e5 (.int .u8) l6)] ∧ laws_r8At φ n2 n3 b4 e5 l6 some = some r := by
  unfold S_laws_r8At at hr
  split at hr
  · exact ⟨_, _, _, _, _, rfl, rfl, hr⟩
  · cases hr

theorem laws_r8At_ok (hT : TOk P T) (φ : Nat) (hF : FOk P (F_1 φ)) (hm : P.follows .mixedOrders = true) : SumOk P 5 (.rd (S_laws_r8At φ) laws_r8At_val) := by
  have uk : (loopsOf (bodyOf Try.f5)).all (fun x => Nat.blt (key x) 500000) = true := by kernel_rfl
  refine rd_ok (fn := Try.f5) (c := bodyOf Try.f5) hT hF (evDraw_ok hT hF hm) (by kernel_rfl) (by kernel_rfl) (by kernel_rfl) ?_
  intro args h r hr
  obtain ⟨n2, n3, b4, e5, l6, rfl, rfl, hq⟩ := laws_r8At_S φ args h r hr
  have e := laws_r8At_nat φ n2 n3 b4 e5 l6 some (fun r => (some (laws_r8At_val r, [(.vec b4 e5 (.int .u8) l6)]) : Option Out))
  rw [hq] at e
  exact ⟨laws_r8At_L φ, (LoopsOk.cut (show apartKeys 3 (tailsOf (bodyOf Try.f5)) = true from by kernel_rfl) uk (show findKey 3 (tailsOf (bodyOf Try.f5)) = some (tailOf Try.f5 3) from by kernel_rfl) (laws_r8At_c3_ok hT φ hF hm) (LoopsOk.none 1 (bodyOf Try.f5))), (laws_r8At_ev φ n2 n3 b4 e5 l6).trans e.symm⟩

/-! ### spec_l00From -/
theorem spec_l00From_ev (φ : Nat) (b2 : Bool) (e3 : Nat) (l4 : (List Int)) : evFn T (F_2 φ) (evDraw T (F_2 φ)) (spec_l00From_L φ) Try.f15 [(.whole 0)] [(.vec b2 e3 (.int .u8) l4)] = spec_l00From φ b2 e3 l4 (fun r => some ((spec_l00From_val r).1, [(.vec b2 e3 (.int .u8) l4)] ++ (spec_l00From_val r).2)) := by kernel_rfl

theorem spec_l00From_nat (φ : Nat) (b2 : Bool) (e3 : Nat) (l4 : (List Int)) {ρ σ : Type} (k : (Int × Int) → Option ρ) (f : ρ → Option σ) : (spec_l00From φ b2 e3 l4 k).bind f = spec_l00From φ b2 e3 l4 (fun r => (k r).bind f) := by
  simp only [spec_l00From, cond_bind, Option.bind_assoc, Option.bind_none]

theorem spec_l00From_S (φ : Nat) (args : List AV) (h : List Blk) (r : (Int × Int)) (hr : S_spec_l00From φ args h = some r) : ∃ (b2 : Bool) (e3 : Nat) (l4 : (List Int)), args = [(.whole 0)] ∧ h = [(.vec b2 e3 (.int .u8) l4)] ∧ spec_l00From φ b2 e3 l4 some = some r := by
  unfold S_spec_l00From at hr
  split at hr
  · exact ⟨_, _, _, rfl, rfl, hr⟩
  · cases hr

theorem spec_l00From_ok (hT : TOk P T) (φ : Nat) (hF : FOk P (F_2 φ)) (hm : P.follows .mixedOrders = true) : SumOk P 15 (.mk (S_spec_l00From φ) spec_l00From_val) := by
  refine mk_ok (fn := Try.f15) (c := bodyOf Try.f15) hT hF (evDraw_ok hT hF hm) (by kernel_rfl) (by kernel_rfl) (by kernel_rfl) ?_
  intro args h r hr
  obtain ⟨b2, e3, l4, rfl, rfl, hq⟩ := spec_l00From_S φ args h r hr
  have e := spec_l00From_nat φ b2 e3 l4 some (fun r => (some ((spec_l00From_val r).1, [(.vec b2 e3 (.int .u8) l4)] ++ (spec_l00From_val r).2) : Option Out))
  rw [hq] at e
  exact ⟨spec_l00From_L φ, (LoopsOk.none 1 (bodyOf Try.f15)), (spec_l00From_ev φ b2 e3 l4).trans e.symm⟩

/-! ### spec_l00Src_next -/
theorem spec_l00Src_next_c4_ev (φ : Nat) (K : Kont) (n2 : Int) (n3 : Int) (n4 : Int) (n5 : Int) (b6 : Bool) (e7 : Nat) (l8 : (List Int)) : evCode T (F_3 φ) (evDraw T (F_3 φ)) (Lin_spec_l00Src_next_c4 φ) (tailOf Try.f36 4) (spec_l00Src_next_c4_st n2 n3 n4 n5 b6 e7 l8) (once 2 (hasN [0, 2, 3]) K) = spec_l00Src_next_c4 φ n2 n3 n4 n5 b6 e7 l8 (fun n10 n12 n13 => K .ret (St.mk (spread 0 62 [0, 2, 3] [(.ptr 0 0), (.int .i64 n10), (.int .i64 n3)]) [(.cells 62 [(.whole 1), (.int .i64 n12), (.int .u64 n13)]), (.vec b6 e7 (.int .u8) l8)])) := by kernel_rfl

theorem spec_l00Src_next_c4_nat (φ : Nat) {ρ σ : Type} (f : ρ → Option σ) (n2 : Int) (n3 : Int) (n4 : Int) (n5 : Int) (b6 : Bool) (e7 : Nat) (l8 : (List Int)) (k0 : Int → Int → Int → Option ρ) : (spec_l00Src_next_c4 φ n2 n3 n4 n5 b6 e7 l8 k0).bind f = spec_l00Src_next_c4 φ n2 n3 n4 n5 b6 e7 l8 (fun n10 n12 n13 => (k0 n10 n12 n13).bind f) := by
  simp only [spec_l00Src_next_c4, cond_bind, Option.bind_assoc, Option.bind_none]

theorem spec_l00Src_next_c4_ok (hT : TOk P T) (φ : Nat) (hF : FOk P (F_3 φ)) (hm : P.follows .mixedOrders = true) : CodeOk P 2 (spec_l00Src_next_c4_s φ) (tailOf Try.f36 4) := by
  refine CodeOk.of_once (D := (evDraw T (F_3 φ))) (L := Lin_spec_l00Src_next_c4 φ) (keep := (hasN [0, 2, 3])) hT hF (evDraw_ok hT hF hm) (LoopsOk.none 2 (tailOf Try.f36 4)) ?_
  intro st K out h
  unfold spec_l00Src_next_c4_s at h
  split at h
  · rename_i hq1 hq2
    obtain ⟨h1, h2⟩ := cond_inv h
    rw [Bool.and_eq_true] at h1
    refine ⟨h1.1, ?_⟩
    rw [norm_spread rfl st hq1 hq2 (Nat.eq_of_beq_eq_true h1.2)]
    exact (spec_l00Src_next_c4_ev φ K _ _ _ _ _ _ _).trans h2
  cases h

theorem spec_l00Src_next_ev (φ : Nat) (n2 : Int) (n3 : Int) (b4 : Bool) (e5 : Nat) (l6 : (List Int)) : evFn T (F_3 φ) (evDraw T (F_3 φ)) (spec_l00Src_next_L φ) Try.f36 [(.ptr 0 0)] [(.cells 62 [(.whole 1), (.int .i64 n2), (.int .u64 n3)]), (.vec b4 e5 (.int .u8) l6)] = spec_l00Src_next φ n2 n3 b4 e5 l6 (fun r => some (spec_l00Src_next_val [(.ptr 0 0)] [(.cells 62 [(.whole 1), (.int .i64 n2), (.int .u64 n3)]), (.vec b4 e5 (.int .u8) l6)] r)) := by kernel_rfl

theorem spec_l00Src_next_nat (φ : Nat) (n2 : Int) (n3 : Int) (b4 : Bool) (e5 : Nat) (l6 : (List Int)) {ρ σ : Type} (k : (Int × Int × Int) → Option ρ) (f : ρ → Option σ) : (spec_l00Src_next φ n2 n3 b4 e5 l6 k).bind f = spec_l00Src_next φ n2 n3 b4 e5 l6 (fun r => (k r).bind f) := by
  simp only [spec_l00Src_next, cond_bind, Option.bind_assoc, Option.bind_none, spec_l00Src_next_c4_nat]

theorem spec_l00Src_next_S (φ : Nat) (args : List AV) (h : List Blk) (r : (Int × Int × Int)) (hr : S_spec_l00Src_next φ args h = some r) : ∃ (n2 : Int) (n3 : Int) (b4 : Bool) (e5 : Nat) (l6 : (List Int)), args = [(.ptr 0 0)] ∧ h = [(.cells 62 [(.whole 1), (.int .i64 n2), (.int .u64 n3)]), (.vec b4 e5 (.int .u8) l6)] ∧ spec_l00Src_next φ n2 n3 b4 e5 l6 some = some r := by
  unfold S_spec_l00Src_next at hr
  split at hr
  · exact ⟨_, _, _, _, _, rfl, rfl, hr⟩
  · cases hr

theorem spec_l00Src_next_ok (hT : TOk P T) (φ : Nat) (hF : FOk P (F_3 φ)) (hm : P.follows .mixedOrders = true) : SumOk P 36 (.wr (S_spec_l00Src_next φ) spec_l00Src_next_val) := by
  have uk : (loopsOf (bodyOf Try.f36)).all (fun x => Nat.blt (key x) 500000) = true := by kernel_rfl
  refine wr_ok (fn := Try.f36) (c := bodyOf Try.f36) hT hF (evDraw_ok hT hF hm) (by kernel_rfl) (by kernel_rfl) (by kernel_rfl) ?_
  intro args h r hr
  obtain ⟨n2, n3, b4, e5, l6, rfl, rfl, hq⟩ := spec_l00Src_next_S φ args h r hr
  have e := spec_l00Src_next_nat φ n2 n3 b4 e5 l6 some (fun r => (some (spec_l00Src_next_val [(.ptr 0 0)] [(.cells 62 [(.whole 1), (.int .i64 n2), (.int .u64 n3)]), (.vec b4 e5 (.int .u8) l6)] r) : Option Out))
  rw [hq] at e
  refine ⟨Nat.le_of_ble_eq_true rfl, ?_⟩
  exact ⟨spec_l00Src_next_L φ, (LoopsOk.cut (show apartKeys 4 (tailsOf (bodyOf Try.f36)) = true from by kernel_rfl) uk (show findKey 4 (tailsOf (bodyOf Try.f36)) = some (tailOf Try.f36 4) from by kernel_rfl) (spec_l00Src_next_c4_ok hT φ hF hm) (LoopsOk.none 2 (bodyOf Try.f36))), (spec_l00Src_next_ev φ n2 n3 b4 e5 l6).trans e.symm⟩

/-! ### spec_l00Src_pick -/
theorem spec_l00Src_pick_ev (φ : Nat) (n2 : Int) (n3 : Int) (n4 : Int) (b5 : Bool) (e6 : Nat) (l7 : (List Int)) : evFn T (F_4 φ) (evDraw T (F_4 φ)) (spec_l00Src_pick_L φ) Try.f16 [(.ptr 0 0), (.int .i64 n2)] [(.cells 62 [(.whole 1), (.int .i64 n3), (.int .u64 n4)]), (.vec b5 e6 (.int .u8) l7)] = spec_l00Src_pick φ n2 n3 n4 b5 e6 l7 (fun r => some (spec_l00Src_pick_val [(.ptr 0 0), (.int .i64 n2)] [(.cells 62 [(.whole 1), (.int .i64 n3), (.int .u64 n4)]), (.vec b5 e6 (.int .u8) l7)] r)) := by kernel_rfl

theorem spec_l00Src_pick_nat (φ : Nat) (n2 : Int) (n3 : Int) (n4 : Int) (b5 : Bool) (e6 : Nat) (l7 : (List Int)) {ρ σ : Type} (k : (Int × Int × Int) → Option ρ) (f : ρ → Option σ) : (spec_l00Src_pick φ n2 n3 n4 b5 e6 l7 k).bind f = spec_l00Src_pick φ n2 n3 n4 b5 e6 l7 (fun r => (k r).bind f) := by
  simp only [spec_l00Src_pick, cond_bind, Option.bind_assoc, Option.bind_none]

theorem spec_l00Src_pick_S (φ : Nat) (args : List AV) (h : List Blk) (r : (Int × Int × Int)) (hr : S_spec_l00Src_pick φ args h = some r) : ∃ (n2 : Int) (n3 : Int) (n4 : Int) (b5 : Bool) (e6 : Nat) (l7 : (List Int)), args = [(.ptr 0 0), (.int .i64 n2)] ∧ h = [(.cells 62 [(.whole 1), (.int .i64 n3), (.int .u64 n4)]), (.vec b5 e6 (.int .u8) l7)] ∧ spec_l00Src_pick φ n2 n3 n4 b5 e6 l7 some = some r := by
  unfold S_spec_l00Src_pick at hr
  split at hr
  · exact ⟨_, _, _, _, _, _, rfl, rfl, hr⟩
  · cases hr

theorem spec_l00Src_pick_ok (hT : TOk P T) (φ : Nat) (hF : FOk P (F_4 φ)) (hm : P.follows .mixedOrders = true) : SumOk P 16 (.wr (S_spec_l00Src_pick φ) spec_l00Src_pick_val) := by
  refine wr_ok (fn := Try.f16) (c := bodyOf Try.f16) hT hF (evDraw_ok hT hF hm) (by kernel_rfl) (by kernel_rfl) (by kernel_rfl) ?_
  intro args h r hr
  obtain ⟨n2, n3, n4, b5, e6, l7, rfl, rfl, hq⟩ := spec_l00Src_pick_S φ args h r hr
  have e := spec_l00Src_pick_nat φ n2 n3 n4 b5 e6 l7 some (fun r => (some (spec_l00Src_pick_val [(.ptr 0 0), (.int .i64 n2)] [(.cells 62 [(.whole 1), (.int .i64 n3), (.int .u64 n4)]), (.vec b5 e6 (.int .u8) l7)] r) : Option Out))
  rw [hq] at e
  refine ⟨Nat.le_of_ble_eq_true rfl, ?_⟩
  exact ⟨spec_l00Src_pick_L φ, (LoopsOk.none 2 (bodyOf Try.f16)), (spec_l00Src_pick_ev φ n2 n3 n4 b5 e6 l7).trans e.symm⟩

/-! ### spec_R8List -/
theorem spec_R8List_3_step (φ : Nat) (n1 : Int) (b2 : Bool) (e3 : Nat) (l4 : (List Int)) (n5 : Int) (n6 : Int) (l7 : (List Nat)) (G : St → Option Out) (K : Kont) : evCode T (F_5 φ) (evDraw T (F_5 φ)) (Lin_spec_R8List_3 φ) (loopOf Try.f6 3) (spec_R8List_3_st n1 b2 e3 l4 n5 n6 l7) (round 1 (hasN [1, 5, 6]) G K) =
    bif (decide (n1 > (0 : Int))) then
      Option.bind (spec_l00Src_pick φ (17 : Int) n5 n6 b2 e3 l4 some) fun r8 =>
      Option.bind (room ((Nat.add (List.length l7) 0) + 1) 4) fun r9 =>
      (G (spec_R8List_3_st (IntKind.wrap .i64 (n1 - (1 : Int))) b2 e3 l4 r8.2.1 r8.2.2 (l7 ++ [(fdiv .f32 (itof .f32 (IntKind.wrap .i64 (r8.1 - (8 : Int)))) (can .f32 1082130432))])))
    else
      (K (.exit 0) (St.mk (spread 0 23 [1, 5, 6] [(.int .i64 n1), (.ptr 1 0), (.whole 2)]) [(.vec b2 e3 (.int .u8) l4), (.cells 62 [(.whole 0), (.int .i64 n5), (.int .u64 n6)]), (.vec Bool.true 27 (.flt .f32) l7)])) := by kernel_rfl

theorem spec_R8List_3_ev (φ : Nat) (K : Kont) : ∀ (n : Nat) (n1 : Int) (b2 : Bool) (e3 : Nat) (l4 : (List Int)) (n5 : Int) (n6 : Int) (l7 : (List Nat)), evLoop T (F_5 φ) (evDraw T (F_5 φ)) (Lin_spec_R8List_3 φ) 1 (hasN [1, 5, 6]) (loopOf Try.f6 3) n (spec_R8List_3_st n1 b2 e3 l4 n5 n6 l7) K = spec_R8List_3 φ b2 e3 l4 n n1 n5 n6 l7 (fun n10 n14 n15 l16 => K (.exit 0) (St.mk (spread 0 23 [1, 5, 6] [(.int .i64 n10), (.ptr 1 0), (.whole 2)]) [(.vec b2 e3 (.int .u8) l4), (.cells 62 [(.whole 0), (.int .i64 n14), (.int .u64 n15)]), (.vec Bool.true 27 (.flt .f32) l16)])) := by
  intro n
  induction n with
  | zero => intros; rfl
  | succ n ih =>
    intros
    rw [evLoop_succ, spec_R8List_3_step]
    simp only [ih]
    rfl

theorem spec_R8List_3_nat (φ : Nat) {ρ σ : Type} (f : ρ → Option σ) : ∀ (n : Nat) (n1 : Int) (b2 : Bool) (e3 : Nat) (l4 : (List Int)) (n5 : Int) (n6 : Int) (l7 : (List Nat)) (k0 : Int → Int → Int → (List Nat) → Option ρ), (spec_R8List_3 φ b2 e3 l4 n n1 n5 n6 l7 k0).bind f = spec_R8List_3 φ b2 e3 l4 n n1 n5 n6 l7 (fun n10 n14 n15 l16 => (k0 n10 n14 n15 l16).bind f) := by
  intro n
  induction n with
  | zero => intros; rfl
  | succ n ih =>
    intros
    simp only [spec_R8List_3, cond_bind, Option.bind_assoc, Option.bind_none, ih]

theorem spec_R8List_3_ok (hT : TOk P T) (φ : Nat) (hF : FOk P (F_5 φ)) (hm : P.follows .mixedOrders = true) : LoopOk P 1 (spec_R8List_3_s φ) (loopOf Try.f6 3) := by
  refine LoopOk.of_rounds (D := (evDraw T (F_5 φ))) (L := Lin_spec_R8List_3 φ) (keep := (hasN [1, 5, 6])) hT hF (evDraw_ok hT hF hm) (LoopsOk.none 1 (loopOf Try.f6 3)) ?_
  intro st K out h
  unfold spec_R8List_3_s at h
  split at h
  · rename_i hq1 hq2
    obtain ⟨h1, h2⟩ := cond_inv h
    rw [Bool.and_eq_true] at h1
    refine ⟨h1.1, φ, ?_⟩
    rw [norm_spread rfl st hq1 hq2 (Nat.eq_of_beq_eq_true h1.2)]
    exact (spec_R8List_3_ev φ K φ _ _ _ _ _ _ _).trans h2
  cases h

theorem spec_R8List_ev (φ : Nat) (n2 : Int) (b3 : Bool) (e4 : Nat) (l5 : (List Int)) : evFn T (F_5 φ) (evDraw T (F_5 φ)) (spec_R8List_L φ) Try.f6 [(.whole 0), (.int .i64 n2)] [(.vec b3 e4 (.int .u8) l5)] = spec_R8List φ n2 b3 e4 l5 (fun r => some ((spec_R8List_val r).1, [(.vec b3 e4 (.int .u8) l5)] ++ (spec_R8List_val r).2)) := by kernel_rfl

theorem spec_R8List_nat (φ : Nat) (n2 : Int) (b3 : Bool) (e4 : Nat) (l5 : (List Int)) {ρ σ : Type} (k : (List Nat) → Option ρ) (f : ρ → Option σ) : (spec_R8List φ n2 b3 e4 l5 k).bind f = spec_R8List φ n2 b3 e4 l5 (fun r => (k r).bind f) := by
  simp only [spec_R8List, cond_bind, Option.bind_assoc, Option.bind_none, spec_R8List_3_nat]

theorem spec_R8List_S (φ : Nat) (args : List AV) (h : List Blk) (r : (List Nat)) (hr : S_spec_R8List φ args h = some r) : ∃ (n2 : Int) (b3 : Bool) (e4 : Nat) (l5 : (List Int)), args = [(.whole 0), (.int .i64 n2)] ∧ h = [(.vec b3 e4 (.int .u8) l5)] ∧ spec_R8List φ n2 b3 e4 l5 some = some r := by
  unfold S_spec_R8List at hr
  split at hr
  · exact ⟨_, _, _, _, rfl, rfl, hr⟩
  · cases hr

theorem spec_R8List_ok (hT : TOk P T) (φ : Nat) (hF : FOk P (F_5 φ)) (hm : P.follows .mixedOrders = true) : SumOk P 6 (.mk (S_spec_R8List φ) spec_R8List_val) := by
  refine mk_ok (fn := Try.f6) (c := bodyOf Try.f6) hT hF (evDraw_ok hT hF hm) (by kernel_rfl) (by kernel_rfl) (by kernel_rfl) ?_
  intro args h r hr
  obtain ⟨n2, b3, e4, l5, rfl, rfl, hq⟩ := spec_R8List_S φ args h r hr
  have e := spec_R8List_nat φ n2 b3 e4 l5 some (fun r => (some ((spec_R8List_val r).1, [(.vec b3 e4 (.int .u8) l5)] ++ (spec_R8List_val r).2) : Option Out))
  rw [hq] at e
  exact ⟨spec_R8List_L φ, (LoopsOk.loop (show apartKeys 3 (loopsOf (bodyOf Try.f6)) = true from by kernel_rfl) (show Nat.blt 3 500000 = true from by kernel_rfl) (show findKey 3 (loopsOf (bodyOf Try.f6)) = some (loopOf Try.f6 3) from by kernel_rfl) (spec_R8List_3_ok hT φ hF hm) (LoopsOk.none 1 (bodyOf Try.f6))), (spec_R8List_ev φ n2 b3 e4 l5).trans e.symm⟩

/-! ### impl_length_float32 -/
theorem impl_length_float32_ev (φ : Nat) (b2 : Bool) (e3 : Nat) (l4 : (List Nat)) : evFn T (F_6 φ) (evDraw T (F_6 φ)) (impl_length_float32_L φ) Try.f26 [(.whole 0)] [(.vec b2 e3 (.flt .f32) l4)] = impl_length_float32 φ b2 e3 l4 (fun r => some (impl_length_float32_val r, [(.vec b2 e3 (.flt .f32) l4)])) := by kernel_rfl

theorem impl_length_float32_nat (φ : Nat) (b2 : Bool) (e3 : Nat) (l4 : (List Nat)) {ρ σ : Type} (k : Int → Option ρ) (f : ρ → Option σ) : (impl_length_float32 φ b2 e3 l4 k).bind f = impl_length_float32 φ b2 e3 l4 (fun r => (k r).bind f) := by
  simp only [impl_length_float32, cond_bind, Option.bind_assoc, Option.bind_none]

theorem impl_length_float32_S (φ : Nat) (args : List AV) (h : List Blk) (r : Int) (hr : S_impl_length_float32 φ args h = some r) : ∃ (b2 : Bool) (e3 : Nat) (l4 : (List Nat)), args = [(.whole 0)] ∧ h = [(.vec b2 e3 (.flt .f32) l4)] ∧ impl_length_float32 φ b2 e3 l4 some = some r := by
  unfold S_impl_length_float32 at hr
  split at hr
  · exact ⟨_, _, _, rfl, rfl, hr⟩
  · cases hr

theorem impl_length_float32_ok (hT : TOk P T) (φ : Nat) (hF : FOk P (F_6 φ)) (hm : P.follows .mixedOrders = true) : SumOk P 26 (.rd (S_impl_length_float32 φ) impl_length_float32_val) := by
  refine rd_ok (fn := Try.f26) (c := bodyOf Try.f26) hT hF (evDraw_ok hT hF hm) (by kernel_rfl) (by kernel_rfl) (by kernel_rfl) ?_
  intro args h r hr
  obtain ⟨b2, e3, l4, rfl, rfl, hq⟩ := impl_length_float32_S φ args h r hr
  have e := impl_length_float32_nat φ b2 e3 l4 some (fun r => (some (impl_length_float32_val r, [(.vec b2 e3 (.flt .f32) l4)]) : Option Out))
  rw [hq] at e
  exact ⟨impl_length_float32_L φ, (LoopsOk.none 1 (bodyOf Try.f26)), (impl_length_float32_ev φ b2 e3 l4).trans e.symm⟩

/-! ### impl_within -/
theorem impl_within_ev (φ : Nat) (n0 : Int) (n1 : Int) (n2 : Int) : evFn T (F_7 φ) (evDraw T (F_7 φ)) (impl_within_L φ) Try.f25 [(.int .i64 n0), (.int .i64 n1), (.int .i64 n2)] [] = impl_within φ n0 n1 n2 (fun r => some (impl_within_val r, [])) := by kernel_rfl

theorem impl_within_nat (φ : Nat) (n0 : Int) (n1 : Int) (n2 : Int) {ρ σ : Type} (k : Bool → Option ρ) (f : ρ → Option σ) : (impl_within φ n0 n1 n2 k).bind f = impl_within φ n0 n1 n2 (fun r => (k r).bind f) := by
  simp only [impl_within, cond_bind, Option.bind_assoc, Option.bind_none]

theorem impl_within_S (φ : Nat) (args : List AV) (h : List Blk) (r : Bool) (hr : S_impl_within φ args h = some r) : ∃ (n0 : Int) (n1 : Int) (n2 : Int), args = [(.int .i64 n0), (.int .i64 n1), (.int .i64 n2)] ∧ h = [] ∧ impl_within φ n0 n1 n2 some = some r := by
  unfold S_impl_within at hr
  split at hr
  · exact ⟨_, _, _, rfl, rfl, hr⟩
  · cases hr

theorem impl_within_ok (hT : TOk P T) (φ : Nat) (hF : FOk P (F_7 φ)) (hm : P.follows .mixedOrders = true) : SumOk P 25 (.rd (S_impl_within φ) impl_within_val) := by
  refine rd_ok (fn := Try.f25) (c := bodyOf Try.f25) hT hF (evDraw_ok hT hF hm) (by kernel_rfl) (by kernel_rfl) (by kernel_rfl) ?_
  intro args h r hr
  obtain ⟨n0, n1, n2, rfl, rfl, hq⟩ := impl_within_S φ args h r hr
  have e := impl_within_nat φ n0 n1 n2 some (fun r => (some (impl_within_val r, []) : Option Out))
  rw [hq] at e
  exact ⟨impl_within_L φ, (LoopsOk.none 0 (bodyOf Try.f25)), (impl_within_ev φ n0 n1 n2).trans e.symm⟩

/-! ### impl_isTicks -/
theorem impl_isTicks_ev (φ : Nat) (b2 : Bool) (e3 : Nat) (l4 : (List Nat)) : evFn T (F_8 φ) (evDraw T (F_8 φ)) (impl_isTicks_L φ) Try.f17 [(.whole 0)] [(.vec b2 e3 (.flt .f32) l4)] = impl_isTicks φ b2 e3 l4 (fun r => some (impl_isTicks_val r, [(.vec b2 e3 (.flt .f32) l4)])) := by kernel_rfl

theorem impl_isTicks_nat (φ : Nat) (b2 : Bool) (e3 : Nat) (l4 : (List Nat)) {ρ σ : Type} (k : Bool → Option ρ) (f : ρ → Option σ) : (impl_isTicks φ b2 e3 l4 k).bind f = impl_isTicks φ b2 e3 l4 (fun r => (k r).bind f) := by
  simp only [impl_isTicks, cond_bind, Option.bind_assoc, Option.bind_none]

theorem impl_isTicks_S (φ : Nat) (args : List AV) (h : List Blk) (r : Bool) (hr : S_impl_isTicks φ args h = some r) : ∃ (b2 : Bool) (e3 : Nat) (l4 : (List Nat)), args = [(.whole 0)] ∧ h = [(.vec b2 e3 (.flt .f32) l4)] ∧ impl_isTicks φ b2 e3 l4 some = some r := by
  unfold S_impl_isTicks at hr
  split at hr
  · exact ⟨_, _, _, rfl, rfl, hr⟩
  · cases hr

theorem impl_isTicks_ok (hT : TOk P T) (φ : Nat) (hF : FOk P (F_8 φ)) (hm : P.follows .mixedOrders = true) : SumOk P 17 (.rd (S_impl_isTicks φ) impl_isTicks_val) := by
  refine rd_ok (fn := Try.f17) (c := bodyOf Try.f17) hT hF (evDraw_ok hT hF hm) (by kernel_rfl) (by kernel_rfl) (by kernel_rfl) ?_
  intro args h r hr
  obtain ⟨b2, e3, l4, rfl, rfl, hq⟩ := impl_isTicks_S φ args h r hr
  have e := impl_isTicks_nat φ b2 e3 l4 some (fun r => (some (impl_isTicks_val r, [(.vec b2 e3 (.flt .f32) l4)]) : Option Out))
  rw [hq] at e
  exact ⟨impl_isTicks_L φ, (LoopsOk.none 1 (bodyOf Try.f17)), (impl_isTicks_ev φ b2 e3 l4).trans e.symm⟩

/-! ### math_Floor -/
theorem math_Floor_ev (φ : Nat) (x0 : Nat) : evFn T (F_9 φ) (evDraw T (F_9 φ)) (math_Floor_L φ) Try.f32 [(.flt .f64 x0)] [] = math_Floor φ x0 (fun r => some (math_Floor_val r, [])) := by kernel_rfl

theorem math_Floor_nat (φ : Nat) (x0 : Nat) {ρ σ : Type} (k : Nat → Option ρ) (f : ρ → Option σ) : (math_Floor φ x0 k).bind f = math_Floor φ x0 (fun r => (k r).bind f) := by
  simp only [math_Floor, cond_bind, Option.bind_assoc, Option.bind_none]

theorem math_Floor_S (φ : Nat) (args : List AV) (h : List Blk) (r : Nat) (hr : S_math_Floor φ args h = some r) : ∃ (x0 : Nat), args = [(.flt .f64 x0)] ∧ h = [] ∧ math_Floor φ x0 some = some r := by
  unfold S_math_Floor at hr
  split at hr
  · exact ⟨_, rfl, rfl, hr⟩
  · cases hr

theorem math_Floor_ok (hT : TOk P T) (φ : Nat) (hF : FOk P (F_9 φ)) (hm : P.follows .mixedOrders = true) : SumOk P 32 (.rd (S_math_Floor φ) math_Floor_val) := by
  refine rd_ok (fn := Try.f32) (c := bodyOf Try.f32) hT hF (evDraw_ok hT hF hm) (by kernel_rfl) (by kernel_rfl) (by kernel_rfl) ?_
  intro args h r hr
  obtain ⟨x0, rfl, rfl, hq⟩ := math_Floor_S φ args h r hr
  have e := math_Floor_nat φ x0 some (fun r => (some (math_Floor_val r, []) : Option Out))
  rw [hq] at e
  exact ⟨math_Floor_L φ, (LoopsOk.none 0 (bodyOf Try.f32)), (math_Floor_ev φ x0).trans e.symm⟩

/-! ### impl_sample -/
theorem impl_sample_c3_ev (φ : Nat) (K : Kont) (x0 : Nat) (x1 : Nat) (b2 : Bool) (e3 : Nat) (l4 : (List Nat)) : evCode T (F_10 φ) (evDraw T (F_10 φ)) (Lin_impl_sample_c3 φ) (tailOf Try.f18 3) (impl_sample_c3_st x0 x1 b2 e3 l4) (once 1 (hasN [0, 1, 4]) K) = impl_sample_c3 φ x0 x1 b2 e3 l4 (fun x17 => K .ret (St.mk (spread 0 49 [0, 1, 4] [(.whole 0), (.flt .f32 x0), (.flt .f32 x17)]) [(.vec b2 e3 (.flt .f32) l4)])) := by kernel_rfl

theorem impl_sample_c3_nat (φ : Nat) {ρ σ : Type} (f : ρ → Option σ) (x0 : Nat) (x1 : Nat) (b2 : Bool) (e3 : Nat) (l4 : (List Nat)) (k0 : Nat → Option ρ) : (impl_sample_c3 φ x0 x1 b2 e3 l4 k0).bind f = impl_sample_c3 φ x0 x1 b2 e3 l4 (fun x17 => (k0 x17).bind f) := by
  simp only [impl_sample_c3, cond_bind, Option.bind_assoc, Option.bind_none]

theorem impl_sample_c3_ok (hT : TOk P T) (φ : Nat) (hF : FOk P (F_10 φ)) (hm : P.follows .mixedOrders = true) : CodeOk P 1 (impl_sample_c3_s φ) (tailOf Try.f18 3) := by
  refine CodeOk.of_once (D := (evDraw T (F_10 φ))) (L := Lin_impl_sample_c3 φ) (keep := (hasN [0, 1, 4])) hT hF (evDraw_ok hT hF hm) (LoopsOk.none 1 (tailOf Try.f18 3)) ?_
  intro st K out h
  unfold impl_sample_c3_s at h
  split at h
  · rename_i hq1 hq2
    obtain ⟨h1, h2⟩ := cond_inv h
    rw [Bool.and_eq_true] at h1
    refine ⟨h1.1, ?_⟩
    rw [norm_spread rfl st hq1 hq2 (Nat.eq_of_beq_eq_true h1.2)]
    exact (impl_sample_c3_ev φ K _ _ _ _ _).trans h2
  cases h

theorem impl_sample_ev (φ : Nat) (x2 : Nat) (b3 : Bool) (e4 : Nat) (l5 : (List Nat)) : evFn T (F_10 φ) (evDraw T (F_10 φ)) (impl_sample_L φ) Try.f18 [(.whole 0), (.flt .f32 x2)] [(.vec b3 e4 (.flt .f32) l5)] = impl_sample φ x2 b3 e4 l5 (fun r => some (impl_sample_val r, [(.vec b3 e4 (.flt .f32) l5)])) := by kernel_rfl

theorem impl_sample_nat (φ : Nat) (x2 : Nat) (b3 : Bool) (e4 : Nat) (l5 : (List Nat)) {ρ σ : Type} (k : Nat → Option ρ) (f : ρ → Option σ) : (impl_sample φ x2 b3 e4 l5 k).bind f = impl_sample φ x2 b3 e4 l5 (fun r => (k r).bind f) := by
  simp only [impl_sample, cond_bind, Option.bind_assoc, Option.bind_none, impl_sample_c3_nat]

theorem impl_sample_S (φ : Nat) (args : List AV) (h : List Blk) (r : Nat) (hr : S_impl_sample φ args h = some r) : ∃ (x2 : Nat) (b3 : Bool) (e4 : Nat) (l5 : (List Nat)), args = [(.whole 0), (.flt .f32 x2)] ∧ h = [(.vec b3 e4 (.flt .f32) l5)] ∧ impl_sample φ x2 b3 e4 l5 some = some r := by
  unfold S_impl_sample at hr
  split at hr
  · exact ⟨_, _, _, _, rfl, rfl, hr⟩
  · cases hr

theorem impl_sample_ok (hT : TOk P T) (φ : Nat) (hF : FOk P (F_10 φ)) (hm : P.follows .mixedOrders = true) : SumOk P 18 (.rd (S_impl_sample φ) impl_sample_val) := by
  have uk : (loopsOf (bodyOf Try.f18)).all (fun x => Nat.blt (key x) 500000) = true := by kernel_rfl
  refine rd_ok (fn := Try.f18) (c := bodyOf Try.f18) hT hF (evDraw_ok hT hF hm) (by kernel_rfl) (by kernel_rfl) (by kernel_rfl) ?_
  intro args h r hr
  obtain ⟨x2, b3, e4, l5, rfl, rfl, hq⟩ := impl_sample_S φ args h r hr
  have e := impl_sample_nat φ x2 b3 e4 l5 some (fun r => (some (impl_sample_val r, [(.vec b3 e4 (.flt .f32) l5)]) : Option Out))
  rw [hq] at e
  exact ⟨impl_sample_L φ, (LoopsOk.cut (show apartKeys 3 (tailsOf (bodyOf Try.f18)) = true from by kernel_rfl) uk (show findKey 3 (tailsOf (bodyOf Try.f18)) = some (tailOf Try.f18 3) from by kernel_rfl) (impl_sample_c3_ok hT φ hF hm) (LoopsOk.none 1 (bodyOf Try.f18))), (impl_sample_ev φ x2 b3 e4 l5).trans e.symm⟩

/-! ### impl_SampleBetween -/
theorem impl_SampleBetween_ev (φ : Nat) (x2 : Nat) (b3 : Bool) (e4 : Nat) (l5 : (List Nat)) : evFn T (F_11 φ) (evDraw T (F_11 φ)) (impl_SampleBetween_L φ) Try.f7 [(.whole 0), (.flt .f32 x2)] [(.vec b3 e4 (.flt .f32) l5)] = impl_SampleBetween φ x2 b3 e4 l5 (fun r => some (impl_SampleBetween_val r, [(.vec b3 e4 (.flt .f32) l5)])) := by kernel_rfl

theorem impl_SampleBetween_nat (φ : Nat) (x2 : Nat) (b3 : Bool) (e4 : Nat) (l5 : (List Nat)) {ρ σ : Type} (k : (Nat × Bool) → Option ρ) (f : ρ → Option σ) : (impl_SampleBetween φ x2 b3 e4 l5 k).bind f = impl_SampleBetween φ x2 b3 e4 l5 (fun r => (k r).bind f) := by
  simp only [impl_SampleBetween, cond_bind, Option.bind_assoc, Option.bind_none]

theorem impl_SampleBetween_S (φ : Nat) (args : List AV) (h : List Blk) (r : (Nat × Bool)) (hr : S_impl_SampleBetween φ args h = some r) : ∃ (x2 : Nat) (b3 : Bool) (e4 : Nat) (l5 : (List Nat)), args = [(.whole 0), (.flt .f32 x2)] ∧ h = [(.vec b3 e4 (.flt .f32) l5)] ∧ impl_SampleBetween φ x2 b3 e4 l5 some = some r := by
  unfold S_impl_SampleBetween at hr
  split at hr
  · exact ⟨_, _, _, _, rfl, rfl, hr⟩
  · cases hr

theorem impl_SampleBetween_ok (hT : TOk P T) (φ : Nat) (hF : FOk P (F_11 φ)) (hm : P.follows .mixedOrders = true) : SumOk P 7 (.rd (S_impl_SampleBetween φ) impl_SampleBetween_val) := by
  refine rd_ok (fn := Try.f7) (c := bodyOf Try.f7) hT hF (evDraw_ok hT hF hm) (by kernel_rfl) (by kernel_rfl) (by kernel_rfl) ?_
  intro args h r hr
  obtain ⟨x2, b3, e4, l5, rfl, rfl, hq⟩ := impl_SampleBetween_S φ args h r hr
  have e := impl_SampleBetween_nat φ x2 b3 e4 l5 some (fun r => (some (impl_SampleBetween_val r, [(.vec b3 e4 (.flt .f32) l5)]) : Option Out))
  rw [hq] at e
  exact ⟨impl_SampleBetween_L φ, (LoopsOk.none 1 (bodyOf Try.f7)), (impl_SampleBetween_ev φ x2 b3 e4 l5).trans e.symm⟩

/-! ### impl_isFinite -/
theorem impl_isFinite_ev (φ : Nat) (x0 : Nat) : evFn T (F_12 φ) (evDraw T (F_12 φ)) (impl_isFinite_L φ) Try.f37 [(.flt .f64 x0)] [] = impl_isFinite φ x0 (fun r => some (impl_isFinite_val r, [])) := by kernel_rfl

theorem impl_isFinite_nat (φ : Nat) (x0 : Nat) {ρ σ : Type} (k : Bool → Option ρ) (f : ρ → Option σ) : (impl_isFinite φ x0 k).bind f = impl_isFinite φ x0 (fun r => (k r).bind f) := by
  simp only [impl_isFinite, cond_bind, Option.bind_assoc, Option.bind_none]

theorem impl_isFinite_S (φ : Nat) (args : List AV) (h : List Blk) (r : Bool) (hr : S_impl_isFinite φ args h = some r) : ∃ (x0 : Nat), args = [(.flt .f64 x0)] ∧ h = [] ∧ impl_isFinite φ x0 some = some r := by
  unfold S_impl_isFinite at hr
  split at hr
  · exact ⟨_, rfl, rfl, hr⟩
  · cases hr

theorem impl_isFinite_ok (hT : TOk P T) (φ : Nat) (hF : FOk P (F_12 φ)) (hm : P.follows .mixedOrders = true) : SumOk P 37 (.rd (S_impl_isFinite φ) impl_isFinite_val) := by
  refine rd_ok (fn := Try.f37) (c := bodyOf Try.f37) hT hF (evDraw_ok hT hF hm) (by kernel_rfl) (by kernel_rfl) (by kernel_rfl) ?_
  intro args h r hr
  obtain ⟨x0, rfl, rfl, hq⟩ := impl_isFinite_S φ args h r hr
  have e := impl_isFinite_nat φ x0 some (fun r => (some (impl_isFinite_val r, []) : Option Out))
  rw [hq] at e
  exact ⟨impl_isFinite_L φ, (LoopsOk.none 0 (bodyOf Try.f37)), (impl_isFinite_ev φ x0).trans e.symm⟩

/-! ### impl_IsFinite -/
theorem impl_IsFinite_ev (φ : Nat) (x0 : Nat) : evFn T (F_13 φ) (evDraw T (F_13 φ)) (impl_IsFinite_L φ) Try.f19 [(.flt .f32 x0)] [] = impl_IsFinite φ x0 (fun r => some (impl_IsFinite_val r, [])) := by kernel_rfl

theorem impl_IsFinite_nat (φ : Nat) (x0 : Nat) {ρ σ : Type} (k : Bool → Option ρ) (f : ρ → Option σ) : (impl_IsFinite φ x0 k).bind f = impl_IsFinite φ x0 (fun r => (k r).bind f) := by
  simp only [impl_IsFinite, cond_bind, Option.bind_assoc, Option.bind_none]

theorem impl_IsFinite_S (φ : Nat) (args : List AV) (h : List Blk) (r : Bool) (hr : S_impl_IsFinite φ args h = some r) : ∃ (x0 : Nat), args = [(.flt .f32 x0)] ∧ h = [] ∧ impl_IsFinite φ x0 some = some r := by
  unfold S_impl_IsFinite at hr
  split at hr
  · exact ⟨_, rfl, rfl, hr⟩
  · cases hr

theorem impl_IsFinite_ok (hT : TOk P T) (φ : Nat) (hF : FOk P (F_13 φ)) (hm : P.follows .mixedOrders = true) : SumOk P 19 (.rd (S_impl_IsFinite φ) impl_IsFinite_val) := by
  refine rd_ok (fn := Try.f19) (c := bodyOf Try.f19) hT hF (evDraw_ok hT hF hm) (by kernel_rfl) (by kernel_rfl) (by kernel_rfl) ?_
  intro args h r hr
  obtain ⟨x0, rfl, rfl, hq⟩ := impl_IsFinite_S φ args h r hr
  have e := impl_IsFinite_nat φ x0 some (fun r => (some (impl_IsFinite_val r, []) : Option Out))
  rw [hq] at e
  exact ⟨impl_IsFinite_L φ, (LoopsOk.none 0 (bodyOf Try.f19)), (impl_IsFinite_ev φ x0).trans e.symm⟩

/-! ### impl_areFinite -/
theorem impl_areFinite_2_step (φ : Nat) (b0 : Bool) (n1 : Int) (n2 : Int) (b3 : Bool) (e4 : Nat) (l5 : (List Nat)) (G : St → Option Out) (K : Kont) : evCode T (F_14 φ) (evDraw T (F_14 φ)) (Lin_impl_areFinite_2 φ) (loopOf Try.f27 2) (impl_areFinite_2_st b0 n1 n2 b3 e4 l5) (round 1 (hasN [2, 5, 6, 7]) G K) =
    bif (decide (n2 < n1)) then
      Option.bind (idx n2 (List.length l5)) fun r6 =>
      Option.bind (l5[r6]?) fun r7 =>
      Option.bind (impl_IsFinite φ r7 some) fun r8 =>
      bif (!r8) then
        (K .ret (St.mk (spread 0 15 [2, 5, 6, 7] [(.bool Bool.false), (.whole 0), (.int .i64 n1), (.int .i64 n2)]) [(.vec b3 e4 (.flt .f32) l5)]))
      else
        (G (impl_areFinite_2_st b0 n1 (IntKind.wrap .i64 (n2 + (1 : Int))) b3 e4 l5))
    else
      (K (.exit 0) (St.mk (spread 0 15 [2, 5, 6, 7] [(.bool b0), (.whole 0), (.int .i64 n1), (.int .i64 n2)]) [(.vec b3 e4 (.flt .f32) l5)])) := by kernel_rfl

theorem impl_areFinite_2_ev (φ : Nat) (K : Kont) : ∀ (n : Nat) (b0 : Bool) (n1 : Int) (n2 : Int) (b3 : Bool) (e4 : Nat) (l5 : (List Nat)), evLoop T (F_14 φ) (evDraw T (F_14 φ)) (Lin_impl_areFinite_2 φ) 1 (hasN [2, 5, 6, 7]) (loopOf Try.f27 2) n (impl_areFinite_2_st b0 n1 n2 b3 e4 l5) K = impl_areFinite_2 φ b0 n1 b3 e4 l5 n n2 (fun n11 => K .ret (St.mk (spread 0 15 [2, 5, 6, 7] [(.bool Bool.false), (.whole 0), (.int .i64 n1), (.int .i64 n11)]) [(.vec b3 e4 (.flt .f32) l5)])) (fun n17 => K (.exit 0) (St.mk (spread 0 15 [2, 5, 6, 7] [(.bool b0), (.whole 0), (.int .i64 n1), (.int .i64 n17)]) [(.vec b3 e4 (.flt .f32) l5)])) := by
  intro n
  induction n with
  | zero => intros; rfl
  | succ n ih =>
    intros
    rw [evLoop_succ, impl_areFinite_2_step]
    simp only [ih]
    rfl

theorem impl_areFinite_2_nat (φ : Nat) {ρ σ : Type} (f : ρ → Option σ) : ∀ (n : Nat) (b0 : Bool) (n1 : Int) (n2 : Int) (b3 : Bool) (e4 : Nat) (l5 : (List Nat)) (k0 : Int → Option ρ) (k1 : Int → Option ρ), (impl_areFinite_2 φ b0 n1 b3 e4 l5 n n2 k0 k1).bind f = impl_areFinite_2 φ b0 n1 b3 e4 l5 n n2 (fun n11 => (k0 n11).bind f) (fun n17 => (k1 n17).bind f) := by
  intro n
  induction n with
  | zero => intros; rfl
  | succ n ih =>
    intros
    simp only [impl_areFinite_2, cond_bind, Option.bind_assoc, Option.bind_none, ih]

theorem impl_areFinite_2_ok (hT : TOk P T) (φ : Nat) (hF : FOk P (F_14 φ)) (hm : P.follows .mixedOrders = true) : LoopOk P 1 (impl_areFinite_2_s φ) (loopOf Try.f27 2) := by
  refine LoopOk.of_rounds (D := (evDraw T (F_14 φ))) (L := Lin_impl_areFinite_2 φ) (keep := (hasN [2, 5, 6, 7])) hT hF (evDraw_ok hT hF hm) (LoopsOk.none 1 (loopOf Try.f27 2)) ?_
  intro st K out h
  unfold impl_areFinite_2_s at h
  split at h
  · rename_i hq1 hq2
    obtain ⟨h1, h2⟩ := cond_inv h
    rw [Bool.and_eq_true] at h1
    refine ⟨h1.1, φ, ?_⟩
    rw [norm_spread rfl st hq1 hq2 (Nat.eq_of_beq_eq_true h1.2)]
    exact (impl_areFinite_2_ev φ K φ _ _ _ _ _ _).trans h2
  cases h

theorem impl_areFinite_ev (φ : Nat) (b2 : Bool) (e3 : Nat) (l4 : (List Nat)) : evFn T (F_14 φ) (evDraw T (F_14 φ)) (impl_areFinite_L φ) Try.f27 [(.whole 0)] [(.vec b2 e3 (.flt .f32) l4)] = impl_areFinite φ b2 e3 l4 (fun r => some (impl_areFinite_val r, [(.vec b2 e3 (.flt .f32) l4)])) := by kernel_rfl

theorem impl_areFinite_nat (φ : Nat) (b2 : Bool) (e3 : Nat) (l4 : (List Nat)) {ρ σ : Type} (k : Bool → Option ρ) (f : ρ → Option σ) : (impl_areFinite φ b2 e3 l4 k).bind f = impl_areFinite φ b2 e3 l4 (fun r => (k r).bind f) := by
  simp only [impl_areFinite, cond_bind, Option.bind_assoc, Option.bind_none, impl_areFinite_2_nat]

theorem impl_areFinite_S (φ : Nat) (args : List AV) (h : List Blk) (r : Bool) (hr : S_impl_areFinite φ args h = some r) : ∃ (b2 : Bool) (e3 : Nat) (l4 : (List Nat)), args = [(.whole 0)] ∧ h = [(.vec b2 e3 (.flt .f32) l4)] ∧ impl_areFinite φ b2 e3 l4 some = some r := by
  unfold S_impl_areFinite at hr
  split at hr
  · exact ⟨_, _, _, rfl, rfl, hr⟩
  · cases hr

theorem impl_areFinite_ok (hT : TOk P T) (φ : Nat) (hF : FOk P (F_14 φ)) (hm : P.follows .mixedOrders = true) : SumOk P 27 (.rd (S_impl_areFinite φ) impl_areFinite_val) := by
  refine rd_ok (fn := Try.f27) (c := bodyOf Try.f27) hT hF (evDraw_ok hT hF hm) (by kernel_rfl) (by kernel_rfl) (by kernel_rfl) ?_
  intro args h r hr
  obtain ⟨b2, e3, l4, rfl, rfl, hq⟩ := impl_areFinite_S φ args h r hr
  have e := impl_areFinite_nat φ b2 e3 l4 some (fun r => (some (impl_areFinite_val r, [(.vec b2 e3 (.flt .f32) l4)]) : Option Out))
  rw [hq] at e
  exact ⟨impl_areFinite_L φ, (LoopsOk.loop (show apartKeys 2 (loopsOf (bodyOf Try.f27)) = true from by kernel_rfl) (show Nat.blt 2 500000 = true from by kernel_rfl) (show findKey 2 (loopsOf (bodyOf Try.f27)) = some (loopOf Try.f27 2) from by kernel_rfl) (impl_areFinite_2_ok hT φ hF hm) (LoopsOk.none 1 (bodyOf Try.f27))), (impl_areFinite_ev φ b2 e3 l4).trans e.symm⟩

/-! ### impl_arePositive_1 -/
theorem impl_arePositive_1_ev (φ : Nat) (x0 : Nat) : evFn T (F_15 φ) (evDraw T (F_15 φ)) (impl_arePositive_1_L φ) Try.f39 [(.flt .f32 x0)] [] = impl_arePositive_1 φ x0 (fun r => some (impl_arePositive_1_val r, [])) := by kernel_rfl

theorem impl_arePositive_1_nat (φ : Nat) (x0 : Nat) {ρ σ : Type} (k : Bool → Option ρ) (f : ρ → Option σ) : (impl_arePositive_1 φ x0 k).bind f = impl_arePositive_1 φ x0 (fun r => (k r).bind f) := by
  simp only [impl_arePositive_1, cond_bind, Option.bind_assoc, Option.bind_none]

theorem impl_arePositive_1_S (φ : Nat) (args : List AV) (h : List Blk) (r : Bool) (hr : S_impl_arePositive_1 φ args h = some r) : ∃ (x0 : Nat), args = [(.flt .f32 x0)] ∧ h = [] ∧ impl_arePositive_1 φ x0 some = some r := by
  unfold S_impl_arePositive_1 at hr
  split at hr
  · exact ⟨_, rfl, rfl, hr⟩
  · cases hr

theorem impl_arePositive_1_ok (hT : TOk P T) (φ : Nat) (hF : FOk P (F_15 φ)) (hm : P.follows .mixedOrders = true) : SumOk P 39 (.rd (S_impl_arePositive_1 φ) impl_arePositive_1_val) := by
  refine rd_ok (fn := Try.f39) (c := bodyOf Try.f39) hT hF (evDraw_ok hT hF hm) (by kernel_rfl) (by kernel_rfl) (by kernel_rfl) ?_
  intro args h r hr
  obtain ⟨x0, rfl, rfl, hq⟩ := impl_arePositive_1_S φ args h r hr
  have e := impl_arePositive_1_nat φ x0 some (fun r => (some (impl_arePositive_1_val r, []) : Option Out))
  rw [hq] at e
  exact ⟨impl_arePositive_1_L φ, (LoopsOk.none 0 (bodyOf Try.f39)), (impl_arePositive_1_ev φ x0).trans e.symm⟩

/-! ### slices_IndexFunc_float32_float32 -/
theorem slices_IndexFunc_float32_float32_2_step (φ : Nat) (n0 : Int) (n1 : Int) (n2 : Int) (b3 : Bool) (e4 : Nat) (l5 : (List Nat)) (G : St → Option Out) (K : Kont) : evCode T (F_16 φ) (evDraw T (F_16 φ)) (Lin_slices_IndexFunc_float32_float32_2 φ) (loopOf Try.f46 2) (slices_IndexFunc_float32_float32_2_st n0 n1 n2 b3 e4 l5) (round 1 (hasN [0, 1, 4, 7, 8]) G K) =
    bif (decide (n2 < n1)) then
      Option.bind (idx n2 (List.length l5)) fun r6 =>
      Option.bind (l5[r6]?) fun r7 =>
      Option.bind (impl_arePositive_1 φ r7 some) fun r8 =>
      bif r8 then
        (K .ret (St.mk (spread 0 19 [0, 1, 4, 7, 8] [(.whole 0), (.fn 39 [] []), (.int .i64 n2), (.int .i64 n1), (.int .i64 n2)]) [(.vec b3 e4 (.flt .f32) l5)]))
      else
        (G (slices_IndexFunc_float32_float32_2_st n0 n1 (IntKind.wrap .i64 (n2 + (1 : Int))) b3 e4 l5))
    else
      (K (.exit 0) (St.mk (spread 0 19 [0, 1, 4, 7, 8] [(.whole 0), (.fn 39 [] []), (.int .i64 n0), (.int .i64 n1), (.int .i64 n2)]) [(.vec b3 e4 (.flt .f32) l5)])) := by kernel_rfl

theorem slices_IndexFunc_float32_float32_2_ev (φ : Nat) (K : Kont) : ∀ (n : Nat) (n0 : Int) (n1 : Int) (n2 : Int) (b3 : Bool) (e4 : Nat) (l5 : (List Nat)), evLoop T (F_16 φ) (evDraw T (F_16 φ)) (Lin_slices_IndexFunc_float32_float32_2 φ) 1 (hasN [0, 1, 4, 7, 8]) (loopOf Try.f46 2) n (slices_IndexFunc_float32_float32_2_st n0 n1 n2 b3 e4 l5) K = slices_IndexFunc_float32_float32_2 φ n0 n1 b3 e4 l5 n n2 (fun n9 n11 => K .ret (St.mk (spread 0 19 [0, 1, 4, 7, 8] [(.whole 0), (.fn 39 [] []), (.int .i64 n9), (.int .i64 n1), (.int .i64 n11)]) [(.vec b3 e4 (.flt .f32) l5)])) (fun n17 => K (.exit 0) (St.mk (spread 0 19 [0, 1, 4, 7, 8] [(.whole 0), (.fn 39 [] []), (.int .i64 n0), (.int .i64 n1), (.int .i64 n17)]) [(.vec b3 e4 (.flt .f32) l5)])) := by
  intro n
  induction n with
  | zero => intros; rfl
  | succ n ih =>
    intros
    rw [evLoop_succ, slices_IndexFunc_float32_float32_2_step]
    simp only [ih]
    rfl

theorem slices_IndexFunc_float32_float32_2_nat (φ : Nat) {ρ σ : Type} (f : ρ → Option σ) : ∀ (n : Nat) (n0 : Int) (n1 : Int) (n2 : Int) (b3 : Bool) (e4 : Nat) (l5 : (List Nat)) (k0 : Int → Int → Option ρ) (k1 : Int → Option ρ), (slices_IndexFunc_float32_float32_2 φ n0 n1 b3 e4 l5 n n2 k0 k1).bind f = slices_IndexFunc_float32_float32_2 φ n0 n1 b3 e4 l5 n n2 (fun n9 n11 => (k0 n9 n11).bind f) (fun n17 => (k1 n17).bind f) := by
  intro n
  induction n with
  | zero => intros; rfl
  | succ n ih =>
    intros
    simp only [slices_IndexFunc_float32_float32_2, cond_bind, Option.bind_assoc, Option.bind_none, ih]

theorem slices_IndexFunc_float32_float32_2_ok (hT : TOk P T) (φ : Nat) (hF : FOk P (F_16 φ)) (hm : P.follows .mixedOrders = true) : LoopOk P 1 (slices_IndexFunc_float32_float32_2_s φ) (loopOf Try.f46 2) := by
  refine LoopOk.of_rounds (D := (evDraw T (F_16 φ))) (L := Lin_slices_IndexFunc_float32_float32_2 φ) (keep := (hasN [0, 1, 4, 7, 8])) hT hF (evDraw_ok hT hF hm) (LoopsOk.none 1 (loopOf Try.f46 2)) ?_
  intro st K out h
  unfold slices_IndexFunc_float32_float32_2_s at h
  split at h
  · rename_i hq1 hq2
    obtain ⟨h1, h2⟩ := cond_inv h
    rw [Bool.and_eq_true] at h1
    refine ⟨h1.1, φ, ?_⟩
    rw [norm_spread rfl st hq1 hq2 (Nat.eq_of_beq_eq_true h1.2)]
    exact (slices_IndexFunc_float32_float32_2_ev φ K φ _ _ _ _ _ _).trans h2
  cases h

theorem slices_IndexFunc_float32_float32_ev (φ : Nat) (b2 : Bool) (e3 : Nat) (l4 : (List Nat)) : evFn T (F_16 φ) (evDraw T (F_16 φ)) (slices_IndexFunc_float32_float32_L φ) Try.f46 [(.whole 0), (.fn 39 [] [])] [(.vec b2 e3 (.flt .f32) l4)] = slices_IndexFunc_float32_float32 φ b2 e3 l4 (fun r => some (slices_IndexFunc_float32_float32_val r, [(.vec b2 e3 (.flt .f32) l4)])) := by kernel_rfl

theorem slices_IndexFunc_float32_float32_nat (φ : Nat) (b2 : Bool) (e3 : Nat) (l4 : (List Nat)) {ρ σ : Type} (k : Int → Option ρ) (f : ρ → Option σ) : (slices_IndexFunc_float32_float32 φ b2 e3 l4 k).bind f = slices_IndexFunc_float32_float32 φ b2 e3 l4 (fun r => (k r).bind f) := by
  simp only [slices_IndexFunc_float32_float32, cond_bind, Option.bind_assoc, Option.bind_none, slices_IndexFunc_float32_float32_2_nat]

theorem slices_IndexFunc_float32_float32_S (φ : Nat) (args : List AV) (h : List Blk) (r : Int) (hr : S_slices_IndexFunc_float32_float32 φ args h = some r) : ∃ (b2 : Bool) (e3 : Nat) (l4 : (List Nat)), args = [(.whole 0), (.fn 39 [] [])] ∧ h = [(.vec b2 e3 (.flt .f32) l4)] ∧ slices_IndexFunc_float32_float32 φ b2 e3 l4 some = some r := by
  unfold S_slices_IndexFunc_float32_float32 at hr
  split at hr
  · exact ⟨_, _, _, rfl, rfl, hr⟩
  · cases hr

theorem slices_IndexFunc_float32_float32_ok (hT : TOk P T) (φ : Nat) (hF : FOk P (F_16 φ)) (hm : P.follows .mixedOrders = true) : SumOk P 46 (.rd (S_slices_IndexFunc_float32_float32 φ) slices_IndexFunc_float32_float32_val) := by
  refine rd_ok (fn := Try.f46) (c := bodyOf Try.f46) hT hF (evDraw_ok hT hF hm) (by kernel_rfl) (by kernel_rfl) (by kernel_rfl) ?_
  intro args h r hr
  obtain ⟨b2, e3, l4, rfl, rfl, hq⟩ := slices_IndexFunc_float32_float32_S φ args h r hr
  have e := slices_IndexFunc_float32_float32_nat φ b2 e3 l4 some (fun r => (some (slices_IndexFunc_float32_float32_val r, [(.vec b2 e3 (.flt .f32) l4)]) : Option Out))
  rw [hq] at e
  exact ⟨slices_IndexFunc_float32_float32_L φ, (LoopsOk.loop (show apartKeys 2 (loopsOf (bodyOf Try.f46)) = true from by kernel_rfl) (show Nat.blt 2 500000 = true from by kernel_rfl) (show findKey 2 (loopsOf (bodyOf Try.f46)) = some (loopOf Try.f46 2) from by kernel_rfl) (slices_IndexFunc_float32_float32_2_ok hT φ hF hm) (LoopsOk.none 1 (bodyOf Try.f46))), (slices_IndexFunc_float32_float32_ev φ b2 e3 l4).trans e.symm⟩

/-! ### slices_ContainsFunc_float32_float32 -/
theorem slices_ContainsFunc_float32_float32_ev (φ : Nat) (b2 : Bool) (e3 : Nat) (l4 : (List Nat)) : evFn T (F_17 φ) (evDraw T (F_17 φ)) (slices_ContainsFunc_float32_float32_L φ) Try.f38 [(.whole 0), (.fn 39 [] [])] [(.vec b2 e3 (.flt .f32) l4)] = slices_ContainsFunc_float32_float32 φ b2 e3 l4 (fun r => some (slices_ContainsFunc_float32_float32_val r, [(.vec b2 e3 (.flt .f32) l4)])) := by kernel_rfl

theorem slices_ContainsFunc_float32_float32_nat (φ : Nat) (b2 : Bool) (e3 : Nat) (l4 : (List Nat)) {ρ σ : Type} (k : Bool → Option ρ) (f : ρ → Option σ) : (slices_ContainsFunc_float32_float32 φ b2 e3 l4 k).bind f = slices_ContainsFunc_float32_float32 φ b2 e3 l4 (fun r => (k r).bind f) := by
  simp only [slices_ContainsFunc_float32_float32, cond_bind, Option.bind_assoc, Option.bind_none]

theorem slices_ContainsFunc_float32_float32_S (φ : Nat) (args : List AV) (h : List Blk) (r : Bool) (hr : S_slices_ContainsFunc_float32_float32 φ args h = some r) : ∃ (b2 : Bool) (e3 : Nat) (l4 : (List Nat)), args = [(.whole 0), (.fn 39 [] [])] ∧ h = [(.vec b2 e3 (.flt .f32) l4)] ∧ slices_ContainsFunc_float32_float32 φ b2 e3 l4 some = some r := by
  unfold S_slices_ContainsFunc_float32_float32 at hr
  split at hr
  · exact ⟨_, _, _, rfl, rfl, hr⟩
  · cases hr

theorem slices_ContainsFunc_float32_float32_ok (hT : TOk P T) (φ : Nat) (hF : FOk P (F_17 φ)) (hm : P.follows .mixedOrders = true) : SumOk P 38 (.rd (S_slices_ContainsFunc_float32_float32 φ) slices_ContainsFunc_float32_float32_val) := by
  refine rd_ok (fn := Try.f38) (c := bodyOf Try.f38) hT hF (evDraw_ok hT hF hm) (by kernel_rfl) (by kernel_rfl) (by kernel_rfl) ?_
  intro args h r hr
  obtain ⟨b2, e3, l4, rfl, rfl, hq⟩ := slices_ContainsFunc_float32_float32_S φ args h r hr
  have e := slices_ContainsFunc_float32_float32_nat φ b2 e3 l4 some (fun r => (some (slices_ContainsFunc_float32_float32_val r, [(.vec b2 e3 (.flt .f32) l4)]) : Option Out))
  rw [hq] at e
  exact ⟨slices_ContainsFunc_float32_float32_L φ, (LoopsOk.none 1 (bodyOf Try.f38)), (slices_ContainsFunc_float32_float32_ev φ b2 e3 l4).trans e.symm⟩

/-! ### impl_arePositive -/
theorem impl_arePositive_ev (φ : Nat) (b2 : Bool) (e3 : Nat) (l4 : (List Nat)) : evFn T (F_18 φ) (evDraw T (F_18 φ)) (impl_arePositive_L φ) Try.f20 [(.whole 0)] [(.vec b2 e3 (.flt .f32) l4)] = impl_arePositive φ b2 e3 l4 (fun r => some (impl_arePositive_val r, [(.vec b2 e3 (.flt .f32) l4)])) := by kernel_rfl

theorem impl_arePositive_nat (φ : Nat) (b2 : Bool) (e3 : Nat) (l4 : (List Nat)) {ρ σ : Type} (k : Bool → Option ρ) (f : ρ → Option σ) : (impl_arePositive φ b2 e3 l4 k).bind f = impl_arePositive φ b2 e3 l4 (fun r => (k r).bind f) := by
  simp only [impl_arePositive, cond_bind, Option.bind_assoc, Option.bind_none]

theorem impl_arePositive_S (φ : Nat) (args : List AV) (h : List Blk) (r : Bool) (hr : S_impl_arePositive φ args h = some r) : ∃ (b2 : Bool) (e3 : Nat) (l4 : (List Nat)), args = [(.whole 0)] ∧ h = [(.vec b2 e3 (.flt .f32) l4)] ∧ impl_arePositive φ b2 e3 l4 some = some r := by
  unfold S_impl_arePositive at hr
  split at hr
  · exact ⟨_, _, _, rfl, rfl, hr⟩
  · cases hr

theorem impl_arePositive_ok (hT : TOk P T) (φ : Nat) (hF : FOk P (F_18 φ)) (hm : P.follows .mixedOrders = true) : SumOk P 20 (.rd (S_impl_arePositive φ) impl_arePositive_val) := by
  refine rd_ok (fn := Try.f20) (c := bodyOf Try.f20) hT hF (evDraw_ok hT hF hm) (by kernel_rfl) (by kernel_rfl) (by kernel_rfl) ?_
  intro args h r hr
  obtain ⟨b2, e3, l4, rfl, rfl, hq⟩ := impl_arePositive_S φ args h r hr
  have e := impl_arePositive_nat φ b2 e3 l4 some (fun r => (some (impl_arePositive_val r, [(.vec b2 e3 (.flt .f32) l4)]) : Option Out))
  rw [hq] at e
  exact ⟨impl_arePositive_L φ, (LoopsOk.none 1 (bodyOf Try.f20)), (impl_arePositive_ev φ b2 e3 l4).trans e.symm⟩

/-! ### math_Sqrt -/
theorem math_Sqrt_ev (φ : Nat) (x0 : Nat) : evFn T (F_19 φ) (evDraw T (F_19 φ)) (math_Sqrt_L φ) Try.f47 [(.flt .f64 x0)] [] = math_Sqrt φ x0 (fun r => some (math_Sqrt_val r, [])) := by kernel_rfl

theorem math_Sqrt_nat (φ : Nat) (x0 : Nat) {ρ σ : Type} (k : Nat → Option ρ) (f : ρ → Option σ) : (math_Sqrt φ x0 k).bind f = math_Sqrt φ x0 (fun r => (k r).bind f) := by
  simp only [math_Sqrt, cond_bind, Option.bind_assoc, Option.bind_none]

theorem math_Sqrt_S (φ : Nat) (args : List AV) (h : List Blk) (r : Nat) (hr : S_math_Sqrt φ args h = some r) : ∃ (x0 : Nat), args = [(.flt .f64 x0)] ∧ h = [] ∧ math_Sqrt φ x0 some = some r := by
  unfold S_math_Sqrt at hr
  split at hr
  · exact ⟨_, rfl, rfl, hr⟩
  · cases hr

theorem math_Sqrt_ok (hT : TOk P T) (φ : Nat) (hF : FOk P (F_19 φ)) (hm : P.follows .mixedOrders = true) : SumOk P 47 (.rd (S_math_Sqrt φ) math_Sqrt_val) := by
  refine rd_ok (fn := Try.f47) (c := bodyOf Try.f47) hT hF (evDraw_ok hT hF hm) (by kernel_rfl) (by kernel_rfl) (by kernel_rfl) ?_
  intro args h r hr
  obtain ⟨x0, rfl, rfl, hq⟩ := math_Sqrt_S φ args h r hr
  have e := math_Sqrt_nat φ x0 some (fun r => (some (math_Sqrt_val r, []) : Option Out))
  rw [hq] at e
  exact ⟨math_Sqrt_L φ, (LoopsOk.none 0 (bodyOf Try.f47)), (math_Sqrt_ev φ x0).trans e.symm⟩

/-! ### impl_RootNumber -/
theorem impl_RootNumber_ev (φ : Nat) (x0 : Nat) : evFn T (F_20 φ) (evDraw T (F_20 φ)) (impl_RootNumber_L φ) Try.f42 [(.flt .f32 x0)] [] = impl_RootNumber φ x0 (fun r => some (impl_RootNumber_val r, [])) := by kernel_rfl

theorem impl_RootNumber_nat (φ : Nat) (x0 : Nat) {ρ σ : Type} (k : Nat → Option ρ) (f : ρ → Option σ) : (impl_RootNumber φ x0 k).bind f = impl_RootNumber φ x0 (fun r => (k r).bind f) := by
  simp only [impl_RootNumber, cond_bind, Option.bind_assoc, Option.bind_none]

theorem impl_RootNumber_S (φ : Nat) (args : List AV) (h : List Blk) (r : Nat) (hr : S_impl_RootNumber φ args h = some r) : ∃ (x0 : Nat), args = [(.flt .f32 x0)] ∧ h = [] ∧ impl_RootNumber φ x0 some = some r := by
  unfold S_impl_RootNumber at hr
  split at hr
  · exact ⟨_, rfl, rfl, hr⟩
  · cases hr

theorem impl_RootNumber_ok (hT : TOk P T) (φ : Nat) (hF : FOk P (F_20 φ)) (hm : P.follows .mixedOrders = true) : SumOk P 42 (.rd (S_impl_RootNumber φ) impl_RootNumber_val) := by
  refine rd_ok (fn := Try.f42) (c := bodyOf Try.f42) hT hF (evDraw_ok hT hF hm) (by kernel_rfl) (by kernel_rfl) (by kernel_rfl) ?_
  intro args h r hr
  obtain ⟨x0, rfl, rfl, hq⟩ := impl_RootNumber_S φ args h r hr
  have e := impl_RootNumber_nat φ x0 some (fun r => (some (impl_RootNumber_val r, []) : Option Out))
  rw [hq] at e
  exact ⟨impl_RootNumber_L φ, (LoopsOk.none 0 (bodyOf Try.f42)), (impl_RootNumber_ev φ x0).trans e.symm⟩

/-! ### impl_curve -/
theorem impl_curve_ev (φ : Nat) (x0 : Nat) (x1 : Nat) (x2 : Nat) : evFn T (F_21 φ) (evDraw T (F_21 φ)) (impl_curve_L φ) Try.f33 [(.flt .f32 x0), (.flt .f32 x1), (.flt .f32 x2)] [] = impl_curve φ x0 x1 x2 (fun r => some (impl_curve_val r, [])) := by kernel_rfl

theorem impl_curve_nat (φ : Nat) (x0 : Nat) (x1 : Nat) (x2 : Nat) {ρ σ : Type} (k : Nat → Option ρ) (f : ρ → Option σ) : (impl_curve φ x0 x1 x2 k).bind f = impl_curve φ x0 x1 x2 (fun r => (k r).bind f) := by
  simp only [impl_curve, cond_bind, Option.bind_assoc, Option.bind_none]

theorem impl_curve_S (φ : Nat) (args : List AV) (h : List Blk) (r : Nat) (hr : S_impl_curve φ args h = some r) : ∃ (x0 : Nat) (x1 : Nat) (x2 : Nat), args = [(.flt .f32 x0), (.flt .f32 x1), (.flt .f32 x2)] ∧ h = [] ∧ impl_curve φ x0 x1 x2 some = some r := by
  unfold S_impl_curve at hr
  split at hr
  · exact ⟨_, _, _, rfl, rfl, hr⟩
  · cases hr

theorem impl_curve_ok (hT : TOk P T) (φ : Nat) (hF : FOk P (F_21 φ)) (hm : P.follows .mixedOrders = true) : SumOk P 33 (.rd (S_impl_curve φ) impl_curve_val) := by
  refine rd_ok (fn := Try.f33) (c := bodyOf Try.f33) hT hF (evDraw_ok hT hF hm) (by kernel_rfl) (by kernel_rfl) (by kernel_rfl) ?_
  intro args h r hr
  obtain ⟨x0, x1, x2, rfl, rfl, hq⟩ := impl_curve_S φ args h r hr
  have e := impl_curve_nat φ x0 x1 x2 some (fun r => (some (impl_curve_val r, []) : Option Out))
  rw [hq] at e
  exact ⟨impl_curve_L φ, (LoopsOk.none 0 (bodyOf Try.f33)), (impl_curve_ev φ x0 x1 x2).trans e.symm⟩

/-! ### impl_corrected_1 -/
theorem impl_corrected_1_ev (φ : Nat) (x0 : Nat) (x1 : Nat) (x2 : Nat) : evFn T (F_22 φ) (evDraw T (F_22 φ)) (impl_corrected_1_L φ) Try.f40 [(.flt .f32 x0), (.ptr 0 0), (.ptr 1 0)] [(.cells 27 [(.flt .f32 x1)]), (.cells 27 [(.flt .f32 x2)])] = impl_corrected_1 φ x0 x1 x2 (fun r => some (impl_corrected_1_val r, [(.cells 27 [(.flt .f32 x1)]), (.cells 27 [(.flt .f32 x2)])])) := by kernel_rfl

theorem impl_corrected_1_nat (φ : Nat) (x0 : Nat) (x1 : Nat) (x2 : Nat) {ρ σ : Type} (k : Nat → Option ρ) (f : ρ → Option σ) : (impl_corrected_1 φ x0 x1 x2 k).bind f = impl_corrected_1 φ x0 x1 x2 (fun r => (k r).bind f) := by
  simp only [impl_corrected_1, cond_bind, Option.bind_assoc, Option.bind_none]

theorem impl_corrected_1_S (φ : Nat) (args : List AV) (h : List Blk) (r : Nat) (hr : S_impl_corrected_1 φ args h = some r) : ∃ (x0 : Nat) (x1 : Nat) (x2 : Nat), args = [(.flt .f32 x0), (.ptr 0 0), (.ptr 1 0)] ∧ h = [(.cells 27 [(.flt .f32 x1)]), (.cells 27 [(.flt .f32 x2)])] ∧ impl_corrected_1 φ x0 x1 x2 some = some r := by
  unfold S_impl_corrected_1 at hr
  split at hr
  · exact ⟨_, _, _, rfl, rfl, hr⟩
  · cases hr

theorem impl_corrected_1_ok (hT : TOk P T) (φ : Nat) (hF : FOk P (F_22 φ)) (hm : P.follows .mixedOrders = true) : SumOk P 40 (.rd (S_impl_corrected_1 φ) impl_corrected_1_val) := by
  refine rd_ok (fn := Try.f40) (c := bodyOf Try.f40) hT hF (evDraw_ok hT hF hm) (by kernel_rfl) (by kernel_rfl) (by kernel_rfl) ?_
  intro args h r hr
  obtain ⟨x0, x1, x2, rfl, rfl, hq⟩ := impl_corrected_1_S φ args h r hr
  have e := impl_corrected_1_nat φ x0 x1 x2 some (fun r => (some (impl_corrected_1_val r, [(.cells 27 [(.flt .f32 x1)]), (.cells 27 [(.flt .f32 x2)])]) : Option Out))
  rw [hq] at e
  exact ⟨impl_corrected_1_L φ, (LoopsOk.none 2 (bodyOf Try.f40)), (impl_corrected_1_ev φ x0 x1 x2).trans e.symm⟩

/-! ### impl_sampled -/
theorem impl_sampled_3_step (φ : Nat) (n0 : Int) (n1 : Int) (b2 : Bool) (e3 : Nat) (l4 : (List Nat)) (x5 : Nat) (x6 : Nat) (l7 : (List Nat)) (G : St → Option Out) (K : Kont) : evCode T (F_23 φ) (evDraw T (F_23 φ)) (Lin_impl_sampled_3 φ) (loopOf Try.f23 3) (impl_sampled_3_st n0 n1 b2 e3 l4 x5 x6 l7) (round 3 (hasN [0, 1, 5, 8, 9]) G K) =
    bif (decide (n1 < n0)) then
      Option.bind (impl_corrected_1 φ (itof .f32 n1) x5 x6 some) fun r8 =>
      Option.bind (impl_sample φ r8 b2 e3 l4 some) fun r9 =>
      Option.bind (room ((Nat.add (List.length l7) 0) + 1) 4) fun r10 =>
      (G (impl_sampled_3_st n0 (IntKind.wrap .i64 (n1 + (1 : Int))) b2 e3 l4 x5 x6 (l7 ++ [r9])))
    else
      (K (.exit 0) (St.mk (spread 0 23 [0, 1, 5, 8, 9] [(.whole 0), (.fn 40 [] [(.ptr 1 0), (.ptr 2 0)]), (.whole 3), (.int .i64 n0), (.int .i64 n1)]) [(.vec b2 e3 (.flt .f32) l4), (.cells 27 [(.flt .f32 x5)]), (.cells 27 [(.flt .f32 x6)]), (.vec Bool.true 27 (.flt .f32) l7)])) := by kernel_rfl

theorem impl_sampled_3_ev (φ : Nat) (K : Kont) : ∀ (n : Nat) (n0 : Int) (n1 : Int) (b2 : Bool) (e3 : Nat) (l4 : (List Nat)) (x5 : Nat) (x6 : Nat) (l7 : (List Nat)), evLoop T (F_23 φ) (evDraw T (F_23 φ)) (Lin_impl_sampled_3 φ) 3 (hasN [0, 1, 5, 8, 9]) (loopOf Try.f23 3) n (impl_sampled_3_st n0 n1 b2 e3 l4 x5 x6 l7) K = impl_sampled_3 φ n0 b2 e3 l4 x5 x6 n n1 l7 (fun n12 l18 => K (.exit 0) (St.mk (spread 0 23 [0, 1, 5, 8, 9] [(.whole 0), (.fn 40 [] [(.ptr 1 0), (.ptr 2 0)]), (.whole 3), (.int .i64 n0), (.int .i64 n12)]) [(.vec b2 e3 (.flt .f32) l4), (.cells 27 [(.flt .f32 x5)]), (.cells 27 [(.flt .f32 x6)]), (.vec Bool.true 27 (.flt .f32) l18)])) := by
  intro n
  induction n with
  | zero => intros; rfl
  | succ n ih =>
    intros
    rw [evLoop_succ, impl_sampled_3_step]
    simp only [ih]
    rfl

theorem impl_sampled_3_nat (φ : Nat) {ρ σ : Type} (f : ρ → Option σ) : ∀ (n : Nat) (n0 : Int) (n1 : Int) (b2 : Bool) (e3 : Nat) (l4 : (List Nat)) (x5 : Nat) (x6 : Nat) (l7 : (List Nat)) (k0 : Int → (List Nat) → Option ρ), (impl_sampled_3 φ n0 b2 e3 l4 x5 x6 n n1 l7 k0).bind f = impl_sampled_3 φ n0 b2 e3 l4 x5 x6 n n1 l7 (fun n12 l18 => (k0 n12 l18).bind f) := by
  intro n
  induction n with
  | zero => intros; rfl
  | succ n ih =>
    intros
    simp only [impl_sampled_3, cond_bind, Option.bind_assoc, Option.bind_none, ih]

theorem impl_sampled_3_ok (hT : TOk P T) (φ : Nat) (hF : FOk P (F_23 φ)) (hm : P.follows .mixedOrders = true) : LoopOk P 3 (impl_sampled_3_s φ) (loopOf Try.f23 3) := by
  refine LoopOk.of_rounds (D := (evDraw T (F_23 φ))) (L := Lin_impl_sampled_3 φ) (keep := (hasN [0, 1, 5, 8, 9])) hT hF (evDraw_ok hT hF hm) (LoopsOk.none 3 (loopOf Try.f23 3)) ?_
  intro st K out h
  unfold impl_sampled_3_s at h
  split at h
  · rename_i hq1 hq2
    obtain ⟨h1, h2⟩ := cond_inv h
    rw [Bool.and_eq_true] at h1
    refine ⟨h1.1, φ, ?_⟩
    rw [norm_spread rfl st hq1 hq2 (Nat.eq_of_beq_eq_true h1.2)]
    exact (impl_sampled_3_ev φ K φ _ _ _ _ _ _ _ _).trans h2
  cases h

theorem impl_sampled_ev (φ : Nat) (b2 : Bool) (e3 : Nat) (l4 : (List Nat)) (x5 : Nat) (x6 : Nat) : evFn T (F_23 φ) (evDraw T (F_23 φ)) (impl_sampled_L φ) Try.f23 [(.whole 0), (.fn 40 [] [(.ptr 1 0), (.ptr 2 0)])] [(.vec b2 e3 (.flt .f32) l4), (.cells 27 [(.flt .f32 x5)]), (.cells 27 [(.flt .f32 x6)])] = impl_sampled φ b2 e3 l4 x5 x6 (fun r => some ((impl_sampled_val r).1, [(.vec b2 e3 (.flt .f32) l4), (.cells 27 [(.flt .f32 x5)]), (.cells 27 [(.flt .f32 x6)])] ++ (impl_sampled_val r).2)) := by kernel_rfl

theorem impl_sampled_nat (φ : Nat) (b2 : Bool) (e3 : Nat) (l4 : (List Nat)) (x5 : Nat) (x6 : Nat) {ρ σ : Type} (k : (List Nat) → Option ρ) (f : ρ → Option σ) : (impl_sampled φ b2 e3 l4 x5 x6 k).bind f = impl_sampled φ b2 e3 l4 x5 x6 (fun r => (k r).bind f) := by
  simp only [impl_sampled, cond_bind, Option.bind_assoc, Option.bind_none, impl_sampled_3_nat]

theorem impl_sampled_S (φ : Nat) (args : List AV) (h : List Blk) (r : (List Nat)) (hr : S_impl_sampled φ args h = some r) : ∃ (b2 : Bool) (e3 : Nat) (l4 : (List Nat)) (x5 : Nat) (x6 : Nat), args = [(.whole 0), (.fn 40 [] [(.ptr 1 0), (.ptr 2 0)])] ∧ h = [(.vec b2 e3 (.flt .f32) l4), (.cells 27 [(.flt .f32 x5)]), (.cells 27 [(.flt .f32 x6)])] ∧ impl_sampled φ b2 e3 l4 x5 x6 some = some r := by
  unfold S_impl_sampled at hr
  split at hr
  · exact ⟨_, _, _, _, _, rfl, rfl, hr⟩
  · cases hr

theorem impl_sampled_ok (hT : TOk P T) (φ : Nat) (hF : FOk P (F_23 φ)) (hm : P.follows .mixedOrders = true) : SumOk P 23 (.mk (S_impl_sampled φ) impl_sampled_val) := by
  refine mk_ok (fn := Try.f23) (c := bodyOf Try.f23) hT hF (evDraw_ok hT hF hm) (by kernel_rfl) (by kernel_rfl) (by kernel_rfl) ?_
  intro args h r hr
  obtain ⟨b2, e3, l4, x5, x6, rfl, rfl, hq⟩ := impl_sampled_S φ args h r hr
  have e := impl_sampled_nat φ b2 e3 l4 x5 x6 some (fun r => (some ((impl_sampled_val r).1, [(.vec b2 e3 (.flt .f32) l4), (.cells 27 [(.flt .f32 x5)]), (.cells 27 [(.flt .f32 x6)])] ++ (impl_sampled_val r).2) : Option Out))
  rw [hq] at e
  exact ⟨impl_sampled_L φ, (LoopsOk.loop (show apartKeys 3 (loopsOf (bodyOf Try.f23)) = true from by kernel_rfl) (show Nat.blt 3 500000 = true from by kernel_rfl) (show findKey 3 (loopsOf (bodyOf Try.f23)) = some (loopOf Try.f23 3) from by kernel_rfl) (impl_sampled_3_ok hT φ hF hm) (LoopsOk.none 3 (bodyOf Try.f23))), (impl_sampled_ev φ b2 e3 l4 x5 x6).trans e.symm⟩

end
end Go.Proofs.Ytcddghcjllgbiaa

/-
  That they do so: function by function.
-/
import Derived.Test.YtcddghcjllgbiaaXD1
set_option linter.all false
set_option maxRecDepth 100000
set_option maxHeartbeats 4000000
namespace Go.Proofs.Ytcddghcjllgbiaa
open Go.Ev
noncomputable section

/-! ### impl_ValidGather -/
theorem impl_ValidGather_c3_ev (φ : Nat) (K : Kont) (b4 : Bool) (b5 : Bool) (e6 : Nat) (l7 : (List Nat)) (b8 : Bool) (e9 : Nat) (l10 : (List (List Nat))) (n11 : Int) : evCode T (F_39 φ) (evDraw T (F_39 φ)) (Lin_impl_ValidGather_c3 φ) (tailOf Try.f14 3) (impl_ValidGather_c3_st b4 b5 e6 l7 b8 e9 l10 n11) (once 2 (hasN [1, 2]) K) = impl_ValidGather_c3 φ b4 b5 e6 l7 b8 e9 l10 n11 (fun b13 => K .ret (St.mk (spread 0 34 [1, 2] [(.ptr 2 0), (.bool b13)]) [(.vec b5 e6 (.flt .f32) l7), (.vec b8 e9 (.slice (.flt .f32)) l10), (.cells 36 [(.int .i64 n11), (.whole 0), (.whole 1)])])) := by kernel_rfl

theorem impl_ValidGather_c3_nat (φ : Nat) {ρ σ : Type} (f : ρ → Option σ) (b4 : Bool) (b5 : Bool) (e6 : Nat) (l7 : (List Nat)) (b8 : Bool) (e9 : Nat) (l10 : (List (List Nat))) (n11 : Int) (k0 : Bool → Option ρ) : (impl_ValidGather_c3 φ b4 b5 e6 l7 b8 e9 l10 n11 k0).bind f = impl_ValidGather_c3 φ b4 b5 e6 l7 b8 e9 l10 n11 (fun b13 => (k0 b13).bind f) := by
  simp only [impl_ValidGather_c3, cond_bind, Option.bind_assoc, Option.bind_none]

theorem impl_ValidGather_c3_ok (hT : TOk P T) (φ : Nat) (hF : FOk P (F_39 φ)) (hm : P.follows .mixedOrders = true) : CodeOk P 2 (impl_ValidGather_c3_s φ) (tailOf Try.f14 3) := by
  refine CodeOk.of_once (D := (evDraw T (F_39 φ))) (L := Lin_impl_ValidGather_c3 φ) (keep := (hasN [1, 2])) hT hF (evDraw_ok hT hF hm) (LoopsOk.none 2 (tailOf Try.f14 3)) ?_
  intro st K out h
  unfold impl_ValidGather_c3_s at h
  split at h
  · rename_i hq1 hq2
    obtain ⟨h1, h2⟩ := cond_inv h
    rw [Bool.and_eq_true] at h1
    refine ⟨h1.1, ?_⟩
    rw [norm_spread rfl st hq1 hq2 (Nat.eq_of_beq_eq_true h1.2)]
    exact (impl_ValidGather_c3_ev φ K _ _ _ _ _ _ _ _).trans h2
  cases h

theorem impl_ValidGather_ev (φ : Nat) (n4 : Int) (b5 : Bool) (e6 : Nat) (l7 : (List Nat)) (b8 : Bool) (e9 : Nat) (l10 : (List (List Nat))) : evFn T (F_39 φ) (evDraw T (F_39 φ)) (impl_ValidGather_L φ) Try.f14 [(.agg [(.int .i64 n4), (.whole 0), (.whole 1)])] [(.vec b5 e6 (.flt .f32) l7), (.vec b8 e9 (.slice (.flt .f32)) l10)] = impl_ValidGather φ n4 b5 e6 l7 b8 e9 l10 (fun r => some (impl_ValidGather_val r, [(.vec b5 e6 (.flt .f32) l7), (.vec b8 e9 (.slice (.flt .f32)) l10)])) := by kernel_rfl

theorem impl_ValidGather_nat (φ : Nat) (n4 : Int) (b5 : Bool) (e6 : Nat) (l7 : (List Nat)) (b8 : Bool) (e9 : Nat) (l10 : (List (List Nat))) {ρ σ : Type} (k : Bool → Option ρ) (f : ρ → Option σ) : (impl_ValidGather φ n4 b5 e6 l7 b8 e9 l10 k).bind f = impl_ValidGather φ n4 b5 e6 l7 b8 e9 l10 (fun r => (k r).bind f) := by
  simp only [impl_ValidGather, cond_bind, Option.bind_assoc, Option.bind_none, impl_ValidGather_c3_nat]

theorem impl_ValidGather_S (φ : Nat) (args : List AV) (h : List Blk) (r : Bool) (hr : S_impl_ValidGather φ args h = some r) : ∃ (n4 : Int) (b5 : Bool) (e6 : Nat) (l7 : (List Nat)) (b8 : Bool) (e9 : Nat) (l10 : (List (List Nat))), args = [(.agg [(.int .i64 n4), (.whole 0), (.whole 1)])] ∧ h = [(.vec b5 e6 (.flt .f32) l7), (.vec b8 e9 (.slice (.flt .f32)) l10)] ∧ impl_ValidGather φ n4 b5 e6 l7 b8 e9 l10 some = some r := by
  unfold S_impl_ValidGather at hr
  split at hr
  · exact ⟨_, _, _, _, _, _, _, rfl, rfl, hr⟩
  · cases hr

theorem impl_ValidGather_ok (hT : TOk P T) (φ : Nat) (hF : FOk P (F_39 φ)) (hm : P.follows .mixedOrders = true) : SumOk P 14 (.rd (S_impl_ValidGather φ) impl_ValidGather_val) := by
  have uk : (loopsOf (bodyOf Try.f14)).all (fun x => Nat.blt (key x) 500000) = true := by kernel_rfl
  refine rd_ok (fn := Try.f14) (c := bodyOf Try.f14) hT hF (evDraw_ok hT hF hm) (by kernel_rfl) (by kernel_rfl) (by kernel_rfl) ?_
  intro args h r hr
  obtain ⟨n4, b5, e6, l7, b8, e9, l10, rfl, rfl, hq⟩ := impl_ValidGather_S φ args h r hr
  have e := impl_ValidGather_nat φ n4 b5 e6 l7 b8 e9 l10 some (fun r => (some (impl_ValidGather_val r, [(.vec b5 e6 (.flt .f32) l7), (.vec b8 e9 (.slice (.flt .f32)) l10)]) : Option Out))
  rw [hq] at e
  exact ⟨impl_ValidGather_L φ, (LoopsOk.cut (show apartKeys 3 (tailsOf (bodyOf Try.f14)) = true from by kernel_rfl) uk (show findKey 3 (tailsOf (bodyOf Try.f14)) = some (tailOf Try.f14 3) from by kernel_rfl) (impl_ValidGather_c3_ok hT φ hF hm) (LoopsOk.none 2 (bodyOf Try.f14))), (impl_ValidGather_ev φ n4 b5 e6 l7 b8 e9 l10).trans e.symm⟩

/-! ### impl_isNonNegative -/
theorem impl_isNonNegative_ev (φ : Nat) (x0 : Nat) : evFn T (F_40 φ) (evDraw T (F_40 φ)) (impl_isNonNegative_L φ) Try.f29 [(.flt .f32 x0)] [] = impl_isNonNegative φ x0 (fun r => some (impl_isNonNegative_val r, [])) := by kernel_rfl

theorem impl_isNonNegative_nat (φ : Nat) (x0 : Nat) {ρ σ : Type} (k : Bool → Option ρ) (f : ρ → Option σ) : (impl_isNonNegative φ x0 k).bind f = impl_isNonNegative φ x0 (fun r => (k r).bind f) := by
  simp only [impl_isNonNegative, cond_bind, Option.bind_assoc, Option.bind_none]

theorem impl_isNonNegative_S (φ : Nat) (args : List AV) (h : List Blk) (r : Bool) (hr : S_impl_isNonNegative φ args h = some r) : ∃ (x0 : Nat), args = [(.flt .f32 x0)] ∧ h = [] ∧ impl_isNonNegative φ x0 some = some r := by
  unfold S_impl_isNonNegative at hr
  split at hr
  · exact ⟨_, rfl, rfl, hr⟩
  · cases hr

theorem impl_isNonNegative_ok (hT : TOk P T) (φ : Nat) (hF : FOk P (F_40 φ)) (hm : P.follows .mixedOrders = true) : SumOk P 29 (.rd (S_impl_isNonNegative φ) impl_isNonNegative_val) := by
  refine rd_ok (fn := Try.f29) (c := bodyOf Try.f29) hT hF (evDraw_ok hT hF hm) (by kernel_rfl) (by kernel_rfl) (by kernel_rfl) ?_
  intro args h r hr
  obtain ⟨x0, rfl, rfl, hq⟩ := impl_isNonNegative_S φ args h r hr
  have e := impl_isNonNegative_nat φ x0 some (fun r => (some (impl_isNonNegative_val r, []) : Option Out))
  rw [hq] at e
  exact ⟨impl_isNonNegative_L φ, (LoopsOk.none 0 (bodyOf Try.f29)), (impl_isNonNegative_ev φ x0).trans e.symm⟩

/-! ### impl_AddEvent_1 -/
theorem impl_AddEvent_1_ev (φ : Nat) (x2 : Nat) (b3 : Bool) (e4 : Nat) (l5 : (List Nat)) (x6 : Nat) (x7 : Nat) (x8 : Nat) : evFn T (F_41 φ) (evDraw T (F_41 φ)) (impl_AddEvent_1_L φ) Try.f31 [(.whole 0), (.flt .f32 x2), (.ptr 1 0), (.ptr 2 0), (.ptr 3 0)] [(.vec b3 e4 (.flt .f32) l5), (.cells 27 [(.flt .f32 x6)]), (.cells 27 [(.flt .f32 x7)]), (.cells 27 [(.flt .f32 x8)])] = impl_AddEvent_1 φ x2 b3 e4 l5 x6 x7 x8 (fun r => some ((impl_AddEvent_1_val r).1, [(.vec b3 e4 (.flt .f32) l5), (.cells 27 [(.flt .f32 x6)]), (.cells 27 [(.flt .f32 x7)]), (.cells 27 [(.flt .f32 x8)])] ++ (impl_AddEvent_1_val r).2)) := by kernel_rfl

theorem impl_AddEvent_1_nat (φ : Nat) (x2 : Nat) (b3 : Bool) (e4 : Nat) (l5 : (List Nat)) (x6 : Nat) (x7 : Nat) (x8 : Nat) {ρ σ : Type} (k : (List Nat) → Option ρ) (f : ρ → Option σ) : (impl_AddEvent_1 φ x2 b3 e4 l5 x6 x7 x8 k).bind f = impl_AddEvent_1 φ x2 b3 e4 l5 x6 x7 x8 (fun r => (k r).bind f) := by
  simp only [impl_AddEvent_1, cond_bind, Option.bind_assoc, Option.bind_none]

theorem impl_AddEvent_1_S (φ : Nat) (args : List AV) (h : List Blk) (r : (List Nat)) (hr : S_impl_AddEvent_1 φ args h = some r) : ∃ (x2 : Nat) (b3 : Bool) (e4 : Nat) (l5 : (List Nat)) (x6 : Nat) (x7 : Nat) (x8 : Nat), args = [(.whole 0), (.flt .f32 x2), (.ptr 1 0), (.ptr 2 0), (.ptr 3 0)] ∧ h = [(.vec b3 e4 (.flt .f32) l5), (.cells 27 [(.flt .f32 x6)]), (.cells 27 [(.flt .f32 x7)]), (.cells 27 [(.flt .f32 x8)])] ∧ impl_AddEvent_1 φ x2 b3 e4 l5 x6 x7 x8 some = some r := by
  unfold S_impl_AddEvent_1 at hr
  split at hr
  · exact ⟨_, _, _, _, _, _, _, rfl, rfl, hr⟩
  · cases hr

theorem impl_AddEvent_1_ok (hT : TOk P T) (φ : Nat) (hF : FOk P (F_41 φ)) (hm : P.follows .mixedOrders = true) : SumOk P 31 (.mk (S_impl_AddEvent_1 φ) impl_AddEvent_1_val) := by
  refine mk_ok (fn := Try.f31) (c := bodyOf Try.f31) hT hF (evDraw_ok hT hF hm) (by kernel_rfl) (by kernel_rfl) (by kernel_rfl) ?_
  intro args h r hr
  obtain ⟨x2, b3, e4, l5, x6, x7, x8, rfl, rfl, hq⟩ := impl_AddEvent_1_S φ args h r hr
  have e := impl_AddEvent_1_nat φ x2 b3 e4 l5 x6 x7 x8 some (fun r => (some ((impl_AddEvent_1_val r).1, [(.vec b3 e4 (.flt .f32) l5), (.cells 27 [(.flt .f32 x6)]), (.cells 27 [(.flt .f32 x7)]), (.cells 27 [(.flt .f32 x8)])] ++ (impl_AddEvent_1_val r).2) : Option Out))
  rw [hq] at e
  exact ⟨impl_AddEvent_1_L φ, (LoopsOk.none 4 (bodyOf Try.f31)), (impl_AddEvent_1_ev φ x2 b3 e4 l5 x6 x7 x8).trans e.symm⟩

/-! ### impl_Gather_each -/
theorem impl_Gather_each_3_step (φ : Nat) (n25 : Int) (n26 : Int) (b27 : Bool) (e28 : Nat) (l29 : (List Nat)) (b30 : Bool) (e31 : Nat) (l32 : (List (List Nat))) (x33 : Nat) (x34 : Nat) (x35 : Nat) (n36 : Int) (l37 : (List Nat)) (l38 : (List (List Nat))) (n39 : Int) (l40 : (List Nat)) (n41 : Int) (l42 : (List (List Nat))) (G : St → Option Out) (K : Kont) : evCode T (F_42 φ) (evDraw T (F_42 φ)) (Lin_impl_Gather_each_3 φ) (loopOf Try.f30 3) (impl_Gather_each_3_st n25 n26 b27 e28 l29 b30 e31 l32 x33 x34 x35 n36 l37 l38 n39 l40 n41 l42) (round 5 (hasN [1, 2, 4, 5, 15, 16, 17]) G K) =
    bif (decide (n26 < n25)) then
      Option.bind (idx n26 (List.length l32)) fun r43 =>
      Option.bind (l32[r43]?) fun r44 =>
      Option.bind (idx n26 (List.length l29)) fun r45 =>
      Option.bind (l29[r45]?) fun r46 =>
      Option.bind (impl_AddEvent_1 φ r46 Bool.false 0 r44 x33 x34 x35 some) fun r47 =>
      Option.bind (room ((Nat.add (List.length l42) 0) + 1) 24) fun r48 =>
      (G (impl_Gather_each_3_st n25 (IntKind.wrap .i64 (n26 + (1 : Int))) b27 e28 l29 b30 e31 l32 x33 x34 x35 n36 l37 l38 n39 l40 n41 (l42 ++ [r47])))
    else
      (K (.exit 0) (St.mk (spread 0 37 [1, 2, 4, 5, 15, 16, 17] [(.fn 31 [] [(.ptr 2 0), (.ptr 3 0), (.ptr 4 0)]), (.ptr 5 0), (.ptr 8 0), (.ptr 10 0), (.whole 1), (.int .i64 n25), (.int .i64 n26)]) [(.vec b27 e28 (.flt .f32) l29), (.vec b30 e31 (.slice (.flt .f32)) l32), (.cells 27 [(.flt .f32 x33)]), (.cells 27 [(.flt .f32 x34)]), (.cells 27 [(.flt .f32 x35)]), (.cells 36 [(.int .i64 n36), (.whole 0), (.whole 1)]), (.vec Bool.true 27 (.flt .f32) l37), (.vec Bool.true 25 (.slice (.flt .f32)) l38), (.cells 36 [(.int .i64 n39), (.whole 6), (.whole 7)]), (.vec Bool.true 27 (.flt .f32) l40), (.cells 36 [(.int .i64 n41), (.whole 9), (.whole 11)]), (.vec Bool.true 25 (.slice (.flt .f32)) l42)])) := by kernel_rfl

theorem impl_Gather_each_3_ev (φ : Nat) (K : Kont) : ∀ (n : Nat) (n25 : Int) (n26 : Int) (b27 : Bool) (e28 : Nat) (l29 : (List Nat)) (b30 : Bool) (e31 : Nat) (l32 : (List (List Nat))) (x33 : Nat) (x34 : Nat) (x35 : Nat) (n36 : Int) (l37 : (List Nat)) (l38 : (List (List Nat))) (n39 : Int) (l40 : (List Nat)) (n41 : Int) (l42 : (List (List Nat))), evLoop T (F_42 φ) (evDraw T (F_42 φ)) (Lin_impl_Gather_each_3 φ) 5 (hasN [1, 2, 4, 5, 15, 16, 17]) (loopOf Try.f30 3) n (impl_Gather_each_3_st n25 n26 b27 e28 l29 b30 e31 l32 x33 x34 x35 n36 l37 l38 n39 l40 n41 l42) K = impl_Gather_each_3 φ n25 b27 e28 l29 b30 e31 l32 x33 x34 x35 n36 l37 l38 n39 l40 n41 n n26 l42 (fun n50 l66 => K (.exit 0) (St.mk (spread 0 37 [1, 2, 4, 5, 15, 16, 17] [(.fn 31 [] [(.ptr 2 0), (.ptr 3 0), (.ptr 4 0)]), (.ptr 5 0), (.ptr 8 0), (.ptr 10 0), (.whole 1), (.int .i64 n25), (.int .i64 n50)]) [(.vec b27 e28 (.flt .f32) l29), (.vec b30 e31 (.slice (.flt .f32)) l32), (.cells 27 [(.flt .f32 x33)]), (.cells 27 [(.flt .f32 x34)]), (.cells 27 [(.flt .f32 x35)]), (.cells 36 [(.int .i64 n36), (.whole 0), (.whole 1)]), (.vec Bool.true 27 (.flt .f32) l37), (.vec Bool.true 25 (.slice (.flt .f32)) l38), (.cells 36 [(.int .i64 n39), (.whole 6), (.whole 7)]), (.vec Bool.true 27 (.flt .f32) l40), (.cells 36 [(.int .i64 n41), (.whole 9), (.whole 11)]), (.vec Bool.true 25 (.slice (.flt .f32)) l66)])) := by
  intro n
  induction n with
  | zero => intros; rfl
  | succ n ih =>
    intros
    rw [evLoop_succ, impl_Gather_each_3_step]
    simp only [ih]
    rfl

theorem impl_Gather_each_3_nat (φ : Nat) {ρ σ : Type} (f : ρ → Option σ) : ∀ (n : Nat) (n25 : Int) (n26 : Int) (b27 : Bool) (e28 : Nat) (l29 : (List Nat)) (b30 : Bool) (e31 : Nat) (l32 : (List (List Nat))) (x33 : Nat) (x34 : Nat) (x35 : Nat) (n36 : Int) (l37 : (List Nat)) (l38 : (List (List Nat))) (n39 : Int) (l40 : (List Nat)) (n41 : Int) (l42 : (List (List Nat))) (k0 : Int → (List (List Nat)) → Option ρ), (impl_Gather_each_3 φ n25 b27 e28 l29 b30 e31 l32 x33 x34 x35 n36 l37 l38 n39 l40 n41 n n26 l42 k0).bind f = impl_Gather_each_3 φ n25 b27 e28 l29 b30 e31 l32 x33 x34 x35 n36 l37 l38 n39 l40 n41 n n26 l42 (fun n50 l66 => (k0 n50 l66).bind f) := by
  intro n
  induction n with
  | zero => intros; rfl
  | succ n ih =>
    intros
    simp only [impl_Gather_each_3, cond_bind, Option.bind_assoc, Option.bind_none, ih]

theorem impl_Gather_each_3_1_step (φ : Nat) (n1 : Int) (n2 : Int) (b3 : Bool) (e4 : Nat) (l5 : (List Nat)) (b6 : Bool) (e7 : Nat) (l8 : (List (List Nat))) (x9 : Nat) (x10 : Nat) (x11 : Nat) (n12 : Int) (l13 : (List Nat)) (l14 : (List (List Nat))) (n15 : Int) (l16 : (List Nat)) (l17 : (List (List Nat))) (n18 : Int) (G : St → Option Out) (K : Kont) : evCode T (F_42 φ) (evDraw T (F_42 φ)) (Lin_impl_Gather_each_3 φ) (loopOf Try.f30 3) (impl_Gather_each_3_1_st n1 n2 b3 e4 l5 b6 e7 l8 x9 x10 x11 n12 l13 l14 n15 l16 l17 n18) (round 5 (hasN [1, 2, 4, 5, 15, 16, 17]) G K) =
    bif (decide (n2 < n1)) then
      Option.bind (idx n2 (List.length l8)) fun r19 =>
      Option.bind (l8[r19]?) fun r20 =>
      Option.bind (idx n2 (List.length l5)) fun r21 =>
      Option.bind (l5[r21]?) fun r22 =>
      Option.bind (impl_AddEvent_1 φ r22 Bool.false 0 r20 x9 x10 x11 some) fun r23 =>
      Option.bind (room ((Nat.add (List.length l17) 0) + 1) 24) fun r24 =>
      (G (impl_Gather_each_3_st n1 (IntKind.wrap .i64 (n2 + (1 : Int))) b3 e4 l5 b6 e7 l8 x9 x10 x11 n12 l13 l14 n15 l16 n18 (l17 ++ [r23])))
    else
      (K (.exit 0) (St.mk (spread 0 37 [1, 2, 4, 5, 15, 16, 17] [(.fn 31 [] [(.ptr 2 0), (.ptr 3 0), (.ptr 4 0)]), (.ptr 5 0), (.ptr 8 0), (.ptr 11 0), (.whole 1), (.int .i64 n1), (.int .i64 n2)]) [(.vec b3 e4 (.flt .f32) l5), (.vec b6 e7 (.slice (.flt .f32)) l8), (.cells 27 [(.flt .f32 x9)]), (.cells 27 [(.flt .f32 x10)]), (.cells 27 [(.flt .f32 x11)]), (.cells 36 [(.int .i64 n12), (.whole 0), (.whole 1)]), (.vec Bool.true 27 (.flt .f32) l13), (.vec Bool.true 25 (.slice (.flt .f32)) l14), (.cells 36 [(.int .i64 n15), (.whole 6), (.whole 7)]), (.vec Bool.true 27 (.flt .f32) l16), (.vec Bool.true 25 (.slice (.flt .f32)) l17), (.cells 36 [(.int .i64 n18), (.whole 9), (.whole 10)])])) := by kernel_rfl

theorem impl_Gather_each_3_1_ev (φ : Nat) (K : Kont) : ∀ (n : Nat) (n1 : Int) (n2 : Int) (b3 : Bool) (e4 : Nat) (l5 : (List Nat)) (b6 : Bool) (e7 : Nat) (l8 : (List (List Nat))) (x9 : Nat) (x10 : Nat) (x11 : Nat) (n12 : Int) (l13 : (List Nat)) (l14 : (List (List Nat))) (n15 : Int) (l16 : (List Nat)) (l17 : (List (List Nat))) (n18 : Int), evLoop T (F_42 φ) (evDraw T (F_42 φ)) (Lin_impl_Gather_each_3 φ) 5 (hasN [1, 2, 4, 5, 15, 16, 17]) (loopOf Try.f30 3) n (impl_Gather_each_3_1_st n1 n2 b3 e4 l5 b6 e7 l8 x9 x10 x11 n12 l13 l14 n15 l16 l17 n18) K = impl_Gather_each_3_1 φ n1 n2 b3 e4 l5 b6 e7 l8 x9 x10 x11 n12 l13 l14 n15 l16 l17 n18 n  (fun n70 l86 => K (.exit 0) (St.mk (spread 0 37 [1, 2, 4, 5, 15, 16, 17] [(.fn 31 [] [(.ptr 2 0), (.ptr 3 0), (.ptr 4 0)]), (.ptr 5 0), (.ptr 8 0), (.ptr 10 0), (.whole 1), (.int .i64 n1), (.int .i64 n70)]) [(.vec b3 e4 (.flt .f32) l5), (.vec b6 e7 (.slice (.flt .f32)) l8), (.cells 27 [(.flt .f32 x9)]), (.cells 27 [(.flt .f32 x10)]), (.cells 27 [(.flt .f32 x11)]), (.cells 36 [(.int .i64 n12), (.whole 0), (.whole 1)]), (.vec Bool.true 27 (.flt .f32) l13), (.vec Bool.true 25 (.slice (.flt .f32)) l14), (.cells 36 [(.int .i64 n15), (.whole 6), (.whole 7)]), (.vec Bool.true 27 (.flt .f32) l16), (.cells 36 [(.int .i64 n18), (.whole 9), (.whole 11)]), (.vec Bool.true 25 (.slice (.flt .f32)) l86)])) (K (.exit 0) (St.mk (spread 0 37 [1, 2, 4, 5, 15, 16, 17] [(.fn 31 [] [(.ptr 2 0), (.ptr 3 0), (.ptr 4 0)]), (.ptr 5 0), (.ptr 8 0), (.ptr 11 0), (.whole 1), (.int .i64 n1), (.int .i64 n2)]) [(.vec b3 e4 (.flt .f32) l5), (.vec b6 e7 (.slice (.flt .f32)) l8), (.cells 27 [(.flt .f32 x9)]), (.cells 27 [(.flt .f32 x10)]), (.cells 27 [(.flt .f32 x11)]), (.cells 36 [(.int .i64 n12), (.whole 0), (.whole 1)]), (.vec Bool.true 27 (.flt .f32) l13), (.vec Bool.true 25 (.slice (.flt .f32)) l14), (.cells 36 [(.int .i64 n15), (.whole 6), (.whole 7)]), (.vec Bool.true 27 (.flt .f32) l16), (.vec Bool.true 25 (.slice (.flt .f32)) l17), (.cells 36 [(.int .i64 n18), (.whole 9), (.whole 10)])])) := by
  intro n
  induction n with
  | zero => intros; rfl
  | succ n ih =>
    intros
    rw [evLoop_succ, impl_Gather_each_3_1_step]
    simp only [ih, impl_Gather_each_3_ev φ K]
    rfl

theorem impl_Gather_each_3_1_nat (φ : Nat) {ρ σ : Type} (f : ρ → Option σ) : ∀ (n : Nat) (n1 : Int) (n2 : Int) (b3 : Bool) (e4 : Nat) (l5 : (List Nat)) (b6 : Bool) (e7 : Nat) (l8 : (List (List Nat))) (x9 : Nat) (x10 : Nat) (x11 : Nat) (n12 : Int) (l13 : (List Nat)) (l14 : (List (List Nat))) (n15 : Int) (l16 : (List Nat)) (l17 : (List (List Nat))) (n18 : Int) (k0 : Int → (List (List Nat)) → Option ρ) (k1 : Option ρ), (impl_Gather_each_3_1 φ n1 n2 b3 e4 l5 b6 e7 l8 x9 x10 x11 n12 l13 l14 n15 l16 l17 n18 n  k0 k1).bind f = impl_Gather_each_3_1 φ n1 n2 b3 e4 l5 b6 e7 l8 x9 x10 x11 n12 l13 l14 n15 l16 l17 n18 n  (fun n70 l86 => (k0 n70 l86).bind f) (k1.bind f) := by
  intro n
  induction n with
  | zero => intros; rfl
  | succ n ih =>
    intros
    simp only [impl_Gather_each_3_1, cond_bind, Option.bind_assoc, Option.bind_none, ih, impl_Gather_each_3_nat φ f]

theorem impl_Gather_each_3_ok (hT : TOk P T) (φ : Nat) (hF : FOk P (F_42 φ)) (hm : P.follows .mixedOrders = true) : LoopOk P 5 (impl_Gather_each_3_s φ) (loopOf Try.f30 3) := by
  refine LoopOk.of_rounds (D := (evDraw T (F_42 φ))) (L := Lin_impl_Gather_each_3 φ) (keep := (hasN [1, 2, 4, 5, 15, 16, 17])) hT hF (evDraw_ok hT hF hm) (LoopsOk.none 5 (loopOf Try.f30 3)) ?_
  intro st K out h
  unfold impl_Gather_each_3_s at h
  split at h
  · rename_i hq1 hq2
    obtain ⟨h1, h2⟩ := cond_inv h
    rw [Bool.and_eq_true] at h1
    refine ⟨h1.1, φ, ?_⟩
    rw [norm_spread rfl st hq1 hq2 (Nat.eq_of_beq_eq_true h1.2)]
    exact (impl_Gather_each_3_ev φ K φ _ _ _ _ _ _ _ _ _ _ _ _ _ _ _ _ _ _).trans h2
  split at h
  · rename_i hq1 hq2
    obtain ⟨h1, h2⟩ := cond_inv h
    rw [Bool.and_eq_true] at h1
    refine ⟨h1.1, φ, ?_⟩
    rw [norm_spread rfl st hq1 hq2 (Nat.eq_of_beq_eq_true h1.2)]
    exact (impl_Gather_each_3_1_ev φ K φ _ _ _ _ _ _ _ _ _ _ _ _ _ _ _ _ _ _).trans h2
  cases h

theorem impl_Gather_each_ev (φ : Nat) (n4 : Int) (b5 : Bool) (e6 : Nat) (l7 : (List Nat)) (b8 : Bool) (e9 : Nat) (l10 : (List (List Nat))) (x11 : Nat) (x12 : Nat) (x13 : Nat) : evFn T (F_42 φ) (evDraw T (F_42 φ)) (impl_Gather_each_L φ) Try.f30 [(.agg [(.int .i64 n4), (.whole 0), (.whole 1)]), (.fn 31 [] [(.ptr 2 0), (.ptr 3 0), (.ptr 4 0)])] [(.vec b5 e6 (.flt .f32) l7), (.vec b8 e9 (.slice (.flt .f32)) l10), (.cells 27 [(.flt .f32 x11)]), (.cells 27 [(.flt .f32 x12)]), (.cells 27 [(.flt .f32 x13)])] = impl_Gather_each φ n4 b5 e6 l7 b8 e9 l10 x11 x12 x13 (fun r => some ((impl_Gather_each_val r).1, [(.vec b5 e6 (.flt .f32) l7), (.vec b8 e9 (.slice (.flt .f32)) l10), (.cells 27 [(.flt .f32 x11)]), (.cells 27 [(.flt .f32 x12)]), (.cells 27 [(.flt .f32 x13)])] ++ (impl_Gather_each_val r).2)) := by kernel_rfl

theorem impl_Gather_each_nat (φ : Nat) (n4 : Int) (b5 : Bool) (e6 : Nat) (l7 : (List Nat)) (b8 : Bool) (e9 : Nat) (l10 : (List (List Nat))) (x11 : Nat) (x12 : Nat) (x13 : Nat) {ρ σ : Type} (k : (Int × (List Nat) × (List (List Nat))) → Option ρ) (f : ρ → Option σ) : (impl_Gather_each φ n4 b5 e6 l7 b8 e9 l10 x11 x12 x13 k).bind f = impl_Gather_each φ n4 b5 e6 l7 b8 e9 l10 x11 x12 x13 (fun r => (k r).bind f) := by
  simp only [impl_Gather_each, cond_bind, Option.bind_assoc, Option.bind_none, impl_Gather_each_3_nat, impl_Gather_each_3_1_nat]

theorem impl_Gather_each_S (φ : Nat) (args : List AV) (h : List Blk) (r : (Int × (List Nat) × (List (List Nat)))) (hr : S_impl_Gather_each φ args h = some r) : ∃ (n4 : Int) (b5 : Bool) (e6 : Nat) (l7 : (List Nat)) (b8 : Bool) (e9 : Nat) (l10 : (List (List Nat))) (x11 : Nat) (x12 : Nat) (x13 : Nat), args = [(.agg [(.int .i64 n4), (.whole 0), (.whole 1)]), (.fn 31 [] [(.ptr 2 0), (.ptr 3 0), (.ptr 4 0)])] ∧ h = [(.vec b5 e6 (.flt .f32) l7), (.vec b8 e9 (.slice (.flt .f32)) l10), (.cells 27 [(.flt .f32 x11)]), (.cells 27 [(.flt .f32 x12)]), (.cells 27 [(.flt .f32 x13)])] ∧ impl_Gather_each φ n4 b5 e6 l7 b8 e9 l10 x11 x12 x13 some = some r := by
  unfold S_impl_Gather_each at hr
  split at hr
  · exact ⟨_, _, _, _, _, _, _, _, _, _, rfl, rfl, hr⟩
  · cases hr

theorem impl_Gather_each_ok (hT : TOk P T) (φ : Nat) (hF : FOk P (F_42 φ)) (hm : P.follows .mixedOrders = true) : SumOk P 30 (.mk (S_impl_Gather_each φ) impl_Gather_each_val) := by
  refine mk_ok (fn := Try.f30) (c := bodyOf Try.f30) hT hF (evDraw_ok hT hF hm) (by kernel_rfl) (by kernel_rfl) (by kernel_rfl) ?_
  intro args h r hr
  obtain ⟨n4, b5, e6, l7, b8, e9, l10, x11, x12, x13, rfl, rfl, hq⟩ := impl_Gather_each_S φ args h r hr
  have e := impl_Gather_each_nat φ n4 b5 e6 l7 b8 e9 l10 x11 x12 x13 some (fun r => (some ((impl_Gather_each_val r).1, [(.vec b5 e6 (.flt .f32) l7), (.vec b8 e9 (.slice (.flt .f32)) l10), (.cells 27 [(.flt .f32 x11)]), (.cells 27 [(.flt .f32 x12)]), (.cells 27 [(.flt .f32 x13)])] ++ (impl_Gather_each_val r).2) : Option Out))
  rw [hq] at e
  exact ⟨impl_Gather_each_L φ, (LoopsOk.loop (show apartKeys 3 (loopsOf (bodyOf Try.f30)) = true from by kernel_rfl) (show Nat.blt 3 500000 = true from by kernel_rfl) (show findKey 3 (loopsOf (bodyOf Try.f30)) = some (loopOf Try.f30 3) from by kernel_rfl) (impl_Gather_each_3_ok hT φ hF hm) (LoopsOk.none 5 (bodyOf Try.f30))), (impl_Gather_each_ev φ n4 b5 e6 l7 b8 e9 l10 x11 x12 x13).trans e.symm⟩

/-! ### impl_AddEvent -/
theorem impl_AddEvent_ev (φ : Nat) (n4 : Int) (x5 : Nat) (x6 : Nat) (x7 : Nat) (b8 : Bool) (e9 : Nat) (l10 : (List Nat)) (b11 : Bool) (e12 : Nat) (l13 : (List (List Nat))) : evFn T (F_43 φ) (evDraw T (F_43 φ)) (impl_AddEvent_L φ) Try.f13 [(.agg [(.int .i64 n4), (.whole 0), (.whole 1)]), (.flt .f32 x5), (.flt .f32 x6), (.flt .f32 x7)] [(.vec b8 e9 (.flt .f32) l10), (.vec b11 e12 (.slice (.flt .f32)) l13)] = impl_AddEvent φ n4 x5 x6 x7 b8 e9 l10 b11 e12 l13 (fun r => some ((impl_AddEvent_val r).1, [(.vec b8 e9 (.flt .f32) l10), (.vec b11 e12 (.slice (.flt .f32)) l13)] ++ (impl_AddEvent_val r).2)) := by kernel_rfl

theorem impl_AddEvent_nat (φ : Nat) (n4 : Int) (x5 : Nat) (x6 : Nat) (x7 : Nat) (b8 : Bool) (e9 : Nat) (l10 : (List Nat)) (b11 : Bool) (e12 : Nat) (l13 : (List (List Nat))) {ρ σ : Type} (k : (Int × Bool × (List Nat) × (List (List Nat))) → Option ρ) (f : ρ → Option σ) : (impl_AddEvent φ n4 x5 x6 x7 b8 e9 l10 b11 e12 l13 k).bind f = impl_AddEvent φ n4 x5 x6 x7 b8 e9 l10 b11 e12 l13 (fun r => (k r).bind f) := by
  simp only [impl_AddEvent, cond_bind, Option.bind_assoc, Option.bind_none]

theorem impl_AddEvent_S (φ : Nat) (args : List AV) (h : List Blk) (r : (Int × Bool × (List Nat) × (List (List Nat)))) (hr : S_impl_AddEvent φ args h = some r) : ∃ (n4 : Int) (x5 : Nat) (x6 : Nat) (x7 : Nat) (b8 : Bool) (e9 : Nat) (l10 : (List Nat)) (b11 : Bool) (e12 : Nat) (l13 : (List (List Nat))), args = [(.agg [(.int .i64 n4), (.whole 0), (.whole 1)]), (.flt .f32 x5), (.flt .f32 x6), (.flt .f32 x7)] ∧ h = [(.vec b8 e9 (.flt .f32) l10), (.vec b11 e12 (.slice (.flt .f32)) l13)] ∧ impl_AddEvent φ n4 x5 x6 x7 b8 e9 l10 b11 e12 l13 some = some r := by
  unfold S_impl_AddEvent at hr
  split at hr
  · exact ⟨_, _, _, _, _, _, _, _, _, _, rfl, rfl, hr⟩
  · cases hr

theorem impl_AddEvent_ok (hT : TOk P T) (φ : Nat) (hF : FOk P (F_43 φ)) (hm : P.follows .mixedOrders = true) : SumOk P 13 (.mk (S_impl_AddEvent φ) impl_AddEvent_val) := by
  refine mk_ok (fn := Try.f13) (c := bodyOf Try.f13) hT hF (evDraw_ok hT hF hm) (by kernel_rfl) (by kernel_rfl) (by kernel_rfl) ?_
  intro args h r hr
  obtain ⟨n4, x5, x6, x7, b8, e9, l10, b11, e12, l13, rfl, rfl, hq⟩ := impl_AddEvent_S φ args h r hr
  have e := impl_AddEvent_nat φ n4 x5 x6 x7 b8 e9 l10 b11 e12 l13 some (fun r => (some ((impl_AddEvent_val r).1, [(.vec b8 e9 (.flt .f32) l10), (.vec b11 e12 (.slice (.flt .f32)) l13)] ++ (impl_AddEvent_val r).2) : Option Out))
  rw [hq] at e
  exact ⟨impl_AddEvent_L φ, (LoopsOk.none 2 (bodyOf Try.f13)), (impl_AddEvent_ev φ n4 x5 x6 x7 b8 e9 l10 b11 e12 l13).trans e.symm⟩

/-! ### laws_FnSamples -/
theorem laws_FnSamples_15_step (φ : Nat) (n30 : Int) (n31 : Int) (n32 : Int) (b33 : Bool) (e34 : Nat) (l35 : (List Int)) (b36 : Bool) (e37 : Nat) (l38 : (List Int)) (l39 : (List Nat)) (l40 : (List Nat)) (G : St → Option Out) (K : Kont) : evCode T (F_44 φ) (evDraw T (F_44 φ)) (Lin_laws_FnSamples_15 φ) (loopOf Try.f3 15) (laws_FnSamples_15_st n30 n31 n32 b33 e34 l35 b36 e37 l38 l39 l40) (round 2 (hasN [1, 5, 6, 7, 18, 19]) G K) =
    bif (decide (n32 < n30)) then
      Option.bind (idx n32 (List.length l39)) fun r41 =>
      Option.bind (l39[r41]?) fun r42 =>
      Option.bind (room ((Nat.add (List.length l40) 0) + 1) 4) fun r43 =>
      (G (laws_FnSamples_15_st n30 n31 (IntKind.wrap .i64 (n32 + (1 : Int))) b33 e34 l35 b36 e37 l38 l39 (l40 ++ [(fmul .f32 (can .f32 1073741824) r42)])))
    else
      (K (.exit 0) (St.mk (spread 0 267 [1, 5, 6, 7, 18, 19] [(.whole 1), (.int .i64 n30), (.whole 2), (.int .i64 n31), (.whole 3), (.int .i64 n32)]) [(.vec b33 e34 (.int .u8) l35), (.vec b36 e37 (.int .u8) l38), (.vec Bool.true 27 (.flt .f32) l39), (.vec Bool.true 27 (.flt .f32) l40)])) := by kernel_rfl

theorem laws_FnSamples_15_ev (φ : Nat) (K : Kont) : ∀ (n : Nat) (n30 : Int) (n31 : Int) (n32 : Int) (b33 : Bool) (e34 : Nat) (l35 : (List Int)) (b36 : Bool) (e37 : Nat) (l38 : (List Int)) (l39 : (List Nat)) (l40 : (List Nat)), evLoop T (F_44 φ) (evDraw T (F_44 φ)) (Lin_laws_FnSamples_15 φ) 2 (hasN [1, 5, 6, 7, 18, 19]) (loopOf Try.f3 15) n (laws_FnSamples_15_st n30 n31 n32 b33 e34 l35 b36 e37 l38 l39 l40) K = laws_FnSamples_15 φ n30 n31 b33 e34 l35 b36 e37 l38 l39 n n32 l40 (fun n46 l54 => K (.exit 0) (St.mk (spread 0 267 [1, 5, 6, 7, 18, 19] [(.whole 1), (.int .i64 n30), (.whole 2), (.int .i64 n31), (.whole 3), (.int .i64 n46)]) [(.vec b33 e34 (.int .u8) l35), (.vec b36 e37 (.int .u8) l38), (.vec Bool.true 27 (.flt .f32) l39), (.vec Bool.true 27 (.flt .f32) l54)])) := by
  intro n
  induction n with
  | zero => intros; rfl
  | succ n ih =>
    intros
    rw [evLoop_succ, laws_FnSamples_15_step]
    simp only [ih]
    rfl

theorem laws_FnSamples_15_nat (φ : Nat) {ρ σ : Type} (f : ρ → Option σ) : ∀ (n : Nat) (n30 : Int) (n31 : Int) (n32 : Int) (b33 : Bool) (e34 : Nat) (l35 : (List Int)) (b36 : Bool) (e37 : Nat) (l38 : (List Int)) (l39 : (List Nat)) (l40 : (List Nat)) (k0 : Int → (List Nat) → Option ρ), (laws_FnSamples_15 φ n30 n31 b33 e34 l35 b36 e37 l38 l39 n n32 l40 k0).bind f = laws_FnSamples_15 φ n30 n31 b33 e34 l35 b36 e37 l38 l39 n n32 l40 (fun n46 l54 => (k0 n46 l54).bind f) := by
  intro n
  induction n with
  | zero => intros; rfl
  | succ n ih =>
    intros
    simp only [laws_FnSamples_15, cond_bind, Option.bind_assoc, Option.bind_none, ih]

theorem laws_FnSamples_15_ok (hT : TOk P T) (φ : Nat) (hF : FOk P (F_44 φ)) (hm : P.follows .mixedOrders = true) : LoopOk P 2 (laws_FnSamples_15_s φ) (loopOf Try.f3 15) := by
  refine LoopOk.of_rounds (D := (evDraw T (F_44 φ))) (L := Lin_laws_FnSamples_15 φ) (keep := (hasN [1, 5, 6, 7, 18, 19])) hT hF (evDraw_ok hT hF hm) (LoopsOk.none 2 (loopOf Try.f3 15)) ?_
  intro st K out h
  unfold laws_FnSamples_15_s at h
  split at h
  · rename_i hq1 hq2
    obtain ⟨h1, h2⟩ := cond_inv h
    rw [Bool.and_eq_true] at h1
    refine ⟨h1.1, φ, ?_⟩
    rw [norm_spread rfl st hq1 hq2 (Nat.eq_of_beq_eq_true h1.2)]
    exact (laws_FnSamples_15_ev φ K φ _ _ _ _ _ _ _ _ _ _ _).trans h2
  cases h

theorem laws_FnSamples_24_step (φ : Nat) (n71 : Int) (n72 : Int) (x73 : Nat) (n74 : Int) (b75 : Bool) (e76 : Nat) (l77 : (List Int)) (b78 : Bool) (e79 : Nat) (l80 : (List Int)) (l81 : (List Nat)) (l82 : (List Nat)) (G : St → Option Out) (K : Kont) : evCode T (F_44 φ) (evDraw T (F_44 φ)) (Lin_laws_FnSamples_24 φ) (loopOf Try.f3 24) (laws_FnSamples_24_st n71 n72 x73 n74 b75 e76 l77 b78 e79 l80 l81 l82) (round 2 (hasN [4, 5, 7, 20, 21, 23, 25]) G K) =
    bif (decide (n74 < n71)) then
      Option.bind (idx n74 (List.length l82)) fun r83 =>
      Option.bind (l82[r83]?) fun r84 =>
      Option.bind (idx n74 (List.length l81)) fun r85 =>
      Option.bind (l81[r85]?) fun r86 =>
      bif (fne .f32 r84 (fmul .f32 (can .f32 1073741824) r86)) then
        (K .ret (St.mk (spread 0 267 [4, 5, 7, 20, 21, 23, 25] [(.bool Bool.false), (.int .i64 n71), (.int .i64 n72), (.flt .f32 x73), (.whole 2), (.whole 3), (.int .i64 n74)]) [(.vec b75 e76 (.int .u8) l77), (.vec b78 e79 (.int .u8) l80), (.vec Bool.true 27 (.flt .f32) l81), (.vec Bool.true 27 (.flt .f32) l82)]))
      else
        (G (laws_FnSamples_24_st n71 n72 x73 (IntKind.wrap .i64 (n74 + (1 : Int))) b75 e76 l77 b78 e79 l80 l81 l82))
    else
      (K (.exit 2) (St.mk (spread 0 267 [5, 7, 20, 21, 23, 25] [(.int .i64 n71), (.int .i64 n72), (.flt .f32 x73), (.whole 2), (.whole 3), (.int .i64 n74)]) [(.vec b75 e76 (.int .u8) l77), (.vec b78 e79 (.int .u8) l80), (.vec Bool.true 27 (.flt .f32) l81), (.vec Bool.true 27 (.flt .f32) l82)])) := by kernel_rfl

theorem laws_FnSamples_24_ev (φ : Nat) (K : Kont) : ∀ (n : Nat) (n71 : Int) (n72 : Int) (x73 : Nat) (n74 : Int) (b75 : Bool) (e76 : Nat) (l77 : (List Int)) (b78 : Bool) (e79 : Nat) (l80 : (List Int)) (l81 : (List Nat)) (l82 : (List Nat)), evLoop T (F_44 φ) (evDraw T (F_44 φ)) (Lin_laws_FnSamples_24 φ) 2 (hasN [4, 5, 7, 20, 21, 23, 25]) (loopOf Try.f3 24) n (laws_FnSamples_24_st n71 n72 x73 n74 b75 e76 l77 b78 e79 l80 l81 l82) K = laws_FnSamples_24 φ n71 n72 x73 b75 e76 l77 b78 e79 l80 l81 l82 n n74 (fun n91 => K .ret (St.mk (spread 0 267 [4, 5, 7, 20, 21, 23, 25] [(.bool Bool.false), (.int .i64 n71), (.int .i64 n72), (.flt .f32 x73), (.whole 2), (.whole 3), (.int .i64 n91)]) [(.vec b75 e76 (.int .u8) l77), (.vec b78 e79 (.int .u8) l80), (.vec Bool.true 27 (.flt .f32) l81), (.vec Bool.true 27 (.flt .f32) l82)])) (fun n103 => K (.exit 2) (St.mk (spread 0 267 [5, 7, 20, 21, 23, 25] [(.int .i64 n71), (.int .i64 n72), (.flt .f32 x73), (.whole 2), (.whole 3), (.int .i64 n103)]) [(.vec b75 e76 (.int .u8) l77), (.vec b78 e79 (.int .u8) l80), (.vec Bool.true 27 (.flt .f32) l81), (.vec Bool.true 27 (.flt .f32) l82)])) := by
  intro n
  induction n with
  | zero => intros; rfl
  | succ n ih =>
    intros
    rw [evLoop_succ, laws_FnSamples_24_step]
    simp only [ih]
    rfl

theorem laws_FnSamples_24_nat (φ : Nat) {ρ σ : Type} (f : ρ → Option σ) : ∀ (n : Nat) (n71 : Int) (n72 : Int) (x73 : Nat) (n74 : Int) (b75 : Bool) (e76 : Nat) (l77 : (List Int)) (b78 : Bool) (e79 : Nat) (l80 : (List Int)) (l81 : (List Nat)) (l82 : (List Nat)) (k0 : Int → Option ρ) (k1 : Int → Option ρ), (laws_FnSamples_24 φ n71 n72 x73 b75 e76 l77 b78 e79 l80 l81 l82 n n74 k0 k1).bind f = laws_FnSamples_24 φ n71 n72 x73 b75 e76 l77 b78 e79 l80 l81 l82 n n74 (fun n91 => (k0 n91).bind f) (fun n103 => (k1 n103).bind f) := by
  intro n
  induction n with
  | zero => intros; rfl
  | succ n ih =>
    intros
    simp only [laws_FnSamples_24, cond_bind, Option.bind_assoc, Option.bind_none, ih]

theorem laws_FnSamples_24_ok (hT : TOk P T) (φ : Nat) (hF : FOk P (F_44 φ)) (hm : P.follows .mixedOrders = true) : LoopOk P 2 (laws_FnSamples_24_s φ) (loopOf Try.f3 24) := by
  refine LoopOk.of_rounds (D := (evDraw T (F_44 φ))) (L := Lin_laws_FnSamples_24 φ) (keep := (hasN [4, 5, 7, 20, 21, 23, 25])) hT hF (evDraw_ok hT hF hm) (LoopsOk.none 2 (loopOf Try.f3 24)) ?_
  intro st K out h
  unfold laws_FnSamples_24_s at h
  split at h
  · rename_i hq1 hq2
    obtain ⟨h1, h2⟩ := cond_inv h
    rw [Bool.and_eq_true] at h1
    refine ⟨h1.1, φ, ?_⟩
    rw [norm_spread rfl st hq1 hq2 (Nat.eq_of_beq_eq_true h1.2)]
    exact (laws_FnSamples_24_ev φ K φ _ _ _ _ _ _ _ _ _ _ _ _).trans h2
  cases h

theorem laws_FnSamples_37_step (φ : Nat) (n140 : Int) (n141 : Int) (n142 : Int) (x143 : Nat) (n144 : Int) (b145 : Bool) (e146 : Nat) (l147 : (List Int)) (b148 : Bool) (e149 : Nat) (l150 : (List Int)) (l151 : (List Nat)) (l152 : (List (List Nat))) (n153 : Int) (G : St → Option Out) (K : Kont) : evCode T (F_44 φ) (evDraw T (F_44 φ)) (Lin_laws_FnSamples_37 φ) (loopOf Try.f3 37) (laws_FnSamples_37_st n140 n141 n142 x143 n144 b145 e146 l147 b148 e149 l150 l151 l152 n153) (round 2 (hasN [5, 7, 28, 30, 31, 32]) G K) =
    bif (decide (n144 < n140)) then
      Option.bind (idx n142 (List.length l152)) fun r154 =>
      Option.bind (l152[r154]?) fun r155 =>
      Option.bind (idx n144 (List.length r155)) fun r156 =>
      Option.bind (r155[r156]?) fun r157 =>
      (G (laws_FnSamples_37_st n140 n141 n142 (fadd .f32 x143 r157) (IntKind.wrap .i64 (n144 + (1 : Int))) b145 e146 l147 b148 e149 l150 l151 l152 n153))
    else
      (K (.exit 6) (St.mk (spread 0 267 [5, 7, 28, 30, 31, 32] [(.int .i64 n140), (.int .i64 n141), (.ptr 4 0), (.int .i64 n142), (.flt .f32 x143), (.int .i64 n144)]) [(.vec b145 e146 (.int .u8) l147), (.vec b148 e149 (.int .u8) l150), (.vec Bool.true 27 (.flt .f32) l151), (.vec Bool.true 25 (.slice (.flt .f32)) l152), (.cells 36 [(.int .i64 n153), (.whole 2), (.whole 3)])])) := by kernel_rfl

theorem laws_FnSamples_37_ev (φ : Nat) (K : Kont) : ∀ (n : Nat) (n140 : Int) (n141 : Int) (n142 : Int) (x143 : Nat) (n144 : Int) (b145 : Bool) (e146 : Nat) (l147 : (List Int)) (b148 : Bool) (e149 : Nat) (l150 : (List Int)) (l151 : (List Nat)) (l152 : (List (List Nat))) (n153 : Int), evLoop T (F_44 φ) (evDraw T (F_44 φ)) (Lin_laws_FnSamples_37 φ) 2 (hasN [5, 7, 28, 30, 31, 32]) (loopOf Try.f3 37) n (laws_FnSamples_37_st n140 n141 n142 x143 n144 b145 e146 l147 b148 e149 l150 l151 l152 n153) K = laws_FnSamples_37 φ n140 n141 n142 b145 e146 l147 b148 e149 l150 l151 l152 n153 n x143 n144 (fun x161 n162 => K (.exit 6) (St.mk (spread 0 267 [5, 7, 28, 30, 31, 32] [(.int .i64 n140), (.int .i64 n141), (.ptr 4 0), (.int .i64 n142), (.flt .f32 x161), (.int .i64 n162)]) [(.vec b145 e146 (.int .u8) l147), (.vec b148 e149 (.int .u8) l150), (.vec Bool.true 27 (.flt .f32) l151), (.vec Bool.true 25 (.slice (.flt .f32)) l152), (.cells 36 [(.int .i64 n153), (.whole 2), (.whole 3)])])) := by
  intro n
  induction n with
  | zero => intros; rfl
  | succ n ih =>
    intros
    rw [evLoop_succ, laws_FnSamples_37_step]
    simp only [ih]
    rfl

theorem laws_FnSamples_37_nat (φ : Nat) {ρ σ : Type} (f : ρ → Option σ) : ∀ (n : Nat) (n140 : Int) (n141 : Int) (n142 : Int) (x143 : Nat) (n144 : Int) (b145 : Bool) (e146 : Nat) (l147 : (List Int)) (b148 : Bool) (e149 : Nat) (l150 : (List Int)) (l151 : (List Nat)) (l152 : (List (List Nat))) (n153 : Int) (k0 : Nat → Int → Option ρ), (laws_FnSamples_37 φ n140 n141 n142 b145 e146 l147 b148 e149 l150 l151 l152 n153 n x143 n144 k0).bind f = laws_FnSamples_37 φ n140 n141 n142 b145 e146 l147 b148 e149 l150 l151 l152 n153 n x143 n144 (fun x161 n162 => (k0 x161 n162).bind f) := by
  intro n
  induction n with
  | zero => intros; rfl
  | succ n ih =>
    intros
    simp only [laws_FnSamples_37, cond_bind, Option.bind_assoc, Option.bind_none, ih]

theorem laws_FnSamples_37_ok (hT : TOk P T) (φ : Nat) (hF : FOk P (F_44 φ)) (hm : P.follows .mixedOrders = true) : LoopOk P 2 (laws_FnSamples_37_s φ) (loopOf Try.f3 37) := by
  refine LoopOk.of_rounds (D := (evDraw T (F_44 φ))) (L := Lin_laws_FnSamples_37 φ) (keep := (hasN [5, 7, 28, 30, 31, 32])) hT hF (evDraw_ok hT hF hm) (LoopsOk.none 2 (loopOf Try.f3 37)) ?_
  intro st K out h
  unfold laws_FnSamples_37_s at h
  split at h
  · rename_i hq1 hq2
    obtain ⟨h1, h2⟩ := cond_inv h
    rw [Bool.and_eq_true] at h1
    refine ⟨h1.1, φ, ?_⟩
    rw [norm_spread rfl st hq1 hq2 (Nat.eq_of_beq_eq_true h1.2)]
    exact (laws_FnSamples_37_ev φ K φ _ _ _ _ _ _ _ _ _ _ _ _ _ _).trans h2
  cases h

theorem laws_FnSamples_33_step (φ : Nat) (n128 : Int) (n129 : Int) (n130 : Int) (b131 : Bool) (e132 : Nat) (l133 : (List Int)) (b134 : Bool) (e135 : Nat) (l136 : (List Int)) (l137 : (List Nat)) (l138 : (List (List Nat))) (n139 : Int) (G : St → Option Out) (K : Kont) : evCode T (F_44 φ) (evDraw T (F_44 φ)) (Lin_laws_FnSamples_33 φ) (loopOf Try.f3 33) (laws_FnSamples_33_st n128 n129 n130 b131 e132 l133 b134 e135 l136 l137 l138 n139) (round 2 (hasN [4, 5, 7, 28, 30]) G K) =
    bif (decide (n130 < (3 : Int))) then
      laws_FnSamples_37 φ n128 n129 n130 b131 e132 l133 b134 e135 l136 l137 l138 n139 φ (can .f32 0) (0 : Int)
        (fun e172 e173 =>
        bif (fne .f32 e172 (can .f32 1077936128)) then
          bif (fne .f32 e172 (can .f32 0)) then
            (K .ret (St.mk (spread 0 267 [4, 5, 7, 28, 30] [(.bool Bool.false), (.int .i64 n128), (.int .i64 n129), (.ptr 4 0), (.int .i64 n130)]) [(.vec b131 e132 (.int .u8) l133), (.vec b134 e135 (.int .u8) l136), (.vec Bool.true 27 (.flt .f32) l137), (.vec Bool.true 25 (.slice (.flt .f32)) l138), (.cells 36 [(.int .i64 n139), (.whole 2), (.whole 3)])]))
          else
            (G (laws_FnSamples_33_st n128 n129 (IntKind.wrap .i64 (n130 + (1 : Int))) b131 e132 l133 b134 e135 l136 l137 l138 n139))
        else
          (G (laws_FnSamples_33_st n128 n129 (IntKind.wrap .i64 (n130 + (1 : Int))) b131 e132 l133 b134 e135 l136 l137 l138 n139)))
    else
      (K (.exit 4) (St.mk (spread 0 267 [5, 7, 28, 30] [(.int .i64 n128), (.int .i64 n129), (.ptr 4 0), (.int .i64 n130)]) [(.vec b131 e132 (.int .u8) l133), (.vec b134 e135 (.int .u8) l136), (.vec Bool.true 27 (.flt .f32) l137), (.vec Bool.true 25 (.slice (.flt .f32)) l138), (.cells 36 [(.int .i64 n139), (.whole 2), (.whole 3)])])) := by kernel_rfl

theorem laws_FnSamples_33_ev (φ : Nat) (K : Kont) : ∀ (n : Nat) (n128 : Int) (n129 : Int) (n130 : Int) (b131 : Bool) (e132 : Nat) (l133 : (List Int)) (b134 : Bool) (e135 : Nat) (l136 : (List Int)) (l137 : (List Nat)) (l138 : (List (List Nat))) (n139 : Int), evLoop T (F_44 φ) (evDraw T (F_44 φ)) (Lin_laws_FnSamples_33 φ) 2 (hasN [4, 5, 7, 28, 30]) (loopOf Try.f3 33) n (laws_FnSamples_33_st n128 n129 n130 b131 e132 l133 b134 e135 l136 l137 l138 n139) K = laws_FnSamples_33 φ n128 n129 b131 e132 l133 b134 e135 l136 l137 l138 n139 n n130 (fun n177 => K .ret (St.mk (spread 0 267 [4, 5, 7, 28, 30] [(.bool Bool.false), (.int .i64 n128), (.int .i64 n129), (.ptr 4 0), (.int .i64 n177)]) [(.vec b131 e132 (.int .u8) l133), (.vec b134 e135 (.int .u8) l136), (.vec Bool.true 27 (.flt .f32) l137), (.vec Bool.true 25 (.slice (.flt .f32)) l138), (.cells 36 [(.int .i64 n139), (.whole 2), (.whole 3)])])) (fun n189 => K (.exit 4) (St.mk (spread 0 267 [5, 7, 28, 30] [(.int .i64 n128), (.int .i64 n129), (.ptr 4 0), (.int .i64 n189)]) [(.vec b131 e132 (.int .u8) l133), (.vec b134 e135 (.int .u8) l136), (.vec Bool.true 27 (.flt .f32) l137), (.vec Bool.true 25 (.slice (.flt .f32)) l138), (.cells 36 [(.int .i64 n139), (.whole 2), (.whole 3)])])) := by
  intro n
  induction n with
  | zero => intros; rfl
  | succ n ih =>
    intros
    rw [evLoop_succ, laws_FnSamples_33_step]
    simp only [ih]
    rfl

theorem laws_FnSamples_33_nat (φ : Nat) {ρ σ : Type} (f : ρ → Option σ) : ∀ (n : Nat) (n128 : Int) (n129 : Int) (n130 : Int) (b131 : Bool) (e132 : Nat) (l133 : (List Int)) (b134 : Bool) (e135 : Nat) (l136 : (List Int)) (l137 : (List Nat)) (l138 : (List (List Nat))) (n139 : Int) (k0 : Int → Option ρ) (k1 : Int → Option ρ), (laws_FnSamples_33 φ n128 n129 b131 e132 l133 b134 e135 l136 l137 l138 n139 n n130 k0 k1).bind f = laws_FnSamples_33 φ n128 n129 b131 e132 l133 b134 e135 l136 l137 l138 n139 n n130 (fun n177 => (k0 n177).bind f) (fun n189 => (k1 n189).bind f) := by
  intro n
  induction n with
  | zero => intros; rfl
  | succ n ih =>
    intros
    simp only [laws_FnSamples_33, cond_bind, Option.bind_assoc, Option.bind_none, ih, laws_FnSamples_37_nat]

theorem laws_FnSamples_33_ok (hT : TOk P T) (φ : Nat) (hF : FOk P (F_44 φ)) (hm : P.follows .mixedOrders = true) : LoopOk P 2 (laws_FnSamples_33_s φ) (loopOf Try.f3 33) := by
  refine LoopOk.of_rounds (D := (evDraw T (F_44 φ))) (L := Lin_laws_FnSamples_33 φ) (keep := (hasN [4, 5, 7, 28, 30])) hT hF (evDraw_ok hT hF hm) (LoopsOk.loop (show apartKeys 37 (loopsOf (loopOf Try.f3 33)) = true from by kernel_rfl) (show Nat.blt 37 500000 = true from by kernel_rfl) (show findKey 37 (loopsOf (loopOf Try.f3 33)) = some (loopOf Try.f3 37) from by kernel_rfl) (laws_FnSamples_37_ok hT φ hF hm) (LoopsOk.none 2 (loopOf Try.f3 33))) ?_
  intro st K out h
  unfold laws_FnSamples_33_s at h
  split at h
  · rename_i hq1 hq2
    obtain ⟨h1, h2⟩ := cond_inv h
    rw [Bool.and_eq_true] at h1
    refine ⟨h1.1, φ, ?_⟩
    rw [norm_spread rfl st hq1 hq2 (Nat.eq_of_beq_eq_true h1.2)]
    exact (laws_FnSamples_33_ev φ K φ _ _ _ _ _ _ _ _ _ _ _ _).trans h2
  cases h

theorem laws_FnSamples_c32_ev (φ : Nat) (K : Kont) (n117 : Int) (n118 : Int) (b119 : Bool) (e120 : Nat) (l121 : (List Int)) (b122 : Bool) (e123 : Nat) (l124 : (List Int)) (l125 : (List Nat)) (l126 : (List (List Nat))) (n127 : Int) : evCode T (F_44 φ) (evDraw T (F_44 φ)) (Lin_laws_FnSamples_c32 φ) (tailOf Try.f3 32) (laws_FnSamples_c32_st n117 n118 b119 e120 l121 b122 e123 l124 l125 l126 n127) (once 2 (hasN [4, 5, 7, 28]) K) = laws_FnSamples_c32 φ n117 n118 b119 e120 l121 b122 e123 l124 l125 l126 n127 (fun b205 => K .ret (St.mk (spread 0 267 [4, 5, 7, 28] [(.bool b205), (.int .i64 n117), (.int .i64 n118), (.ptr 4 0)]) [(.vec b119 e120 (.int .u8) l121), (.vec b122 e123 (.int .u8) l124), (.vec Bool.true 27 (.flt .f32) l125), (.vec Bool.true 25 (.slice (.flt .f32)) l126), (.cells 36 [(.int .i64 n127), (.whole 2), (.whole 3)])])) := by kernel_rfl

theorem laws_FnSamples_c32_nat (φ : Nat) {ρ σ : Type} (f : ρ → Option σ) (n117 : Int) (n118 : Int) (b119 : Bool) (e120 : Nat) (l121 : (List Int)) (b122 : Bool) (e123 : Nat) (l124 : (List Int)) (l125 : (List Nat)) (l126 : (List (List Nat))) (n127 : Int) (k0 : Bool → Option ρ) : (laws_FnSamples_c32 φ n117 n118 b119 e120 l121 b122 e123 l124 l125 l126 n127 k0).bind f = laws_FnSamples_c32 φ n117 n118 b119 e120 l121 b122 e123 l124 l125 l126 n127 (fun b205 => (k0 b205).bind f) := by
  simp only [laws_FnSamples_c32, cond_bind, Option.bind_assoc, Option.bind_none, laws_FnSamples_33_nat]

theorem laws_FnSamples_c32_ok (hT : TOk P T) (φ : Nat) (hF : FOk P (F_44 φ)) (hm : P.follows .mixedOrders = true) : CodeOk P 2 (laws_FnSamples_c32_s φ) (tailOf Try.f3 32) := by
  refine CodeOk.of_once (D := (evDraw T (F_44 φ))) (L := Lin_laws_FnSamples_c32 φ) (keep := (hasN [4, 5, 7, 28])) hT hF (evDraw_ok hT hF hm) (LoopsOk.loop (show apartKeys 33 (loopsOf (tailOf Try.f3 32)) = true from by kernel_rfl) (show Nat.blt 33 500000 = true from by kernel_rfl) (show findKey 33 (loopsOf (tailOf Try.f3 32)) = some (loopOf Try.f3 33) from by kernel_rfl) (laws_FnSamples_33_ok hT φ hF hm) (LoopsOk.none 2 (tailOf Try.f3 32))) ?_
  intro st K out h
  unfold laws_FnSamples_c32_s at h
  split at h
  · rename_i hq1 hq2
    obtain ⟨h1, h2⟩ := cond_inv h
    rw [Bool.and_eq_true] at h1
    refine ⟨h1.1, ?_⟩
    rw [norm_spread rfl st hq1 hq2 (Nat.eq_of_beq_eq_true h1.2)]
    exact (laws_FnSamples_c32_ev φ K _ _ _ _ _ _ _ _ _ _ _).trans h2
  cases h

theorem laws_FnSamples_c23_ev (φ : Nat) (K : Kont) (n60 : Int) (n61 : Int) (x62 : Nat) (b63 : Bool) (e64 : Nat) (l65 : (List Int)) (b66 : Bool) (e67 : Nat) (l68 : (List Int)) (l69 : (List Nat)) (l70 : (List Nat)) : evCode T (F_44 φ) (evDraw T (F_44 φ)) (Lin_laws_FnSamples_c23 φ) (tailOf Try.f3 23) (laws_FnSamples_c23_st n60 n61 x62 b63 e64 l65 b66 e67 l68 l69 l70) (once 2 (hasN [4, 5, 7, 20, 21, 23]) K) = laws_FnSamples_c23 φ n60 n61 x62 b63 e64 l65 b66 e67 l68 l69 l70 (K .ret (St.mk (spread 0 267 [4, 5, 7, 20, 21, 23] [(.bool Bool.false), (.int .i64 n60), (.int .i64 n61), (.flt .f32 x62), (.whole 2), (.whole 3)]) [(.vec b63 e64 (.int .u8) l65), (.vec b66 e67 (.int .u8) l68), (.vec Bool.true 27 (.flt .f32) l69), (.vec Bool.true 27 (.flt .f32) l70)])) (fun b230 => K .ret (St.mk (spread 0 267 [4, 5, 7] [(.bool b230), (.int .i64 n60), (.int .i64 n61)]) [(.vec b63 e64 (.int .u8) l65), (.vec b66 e67 (.int .u8) l68)])) := by kernel_rfl

theorem laws_FnSamples_c23_nat (φ : Nat) {ρ σ : Type} (f : ρ → Option σ) (n60 : Int) (n61 : Int) (x62 : Nat) (b63 : Bool) (e64 : Nat) (l65 : (List Int)) (b66 : Bool) (e67 : Nat) (l68 : (List Int)) (l69 : (List Nat)) (l70 : (List Nat)) (k0 : Option ρ) (k1 : Bool → Option ρ) : (laws_FnSamples_c23 φ n60 n61 x62 b63 e64 l65 b66 e67 l68 l69 l70 k0 k1).bind f = laws_FnSamples_c23 φ n60 n61 x62 b63 e64 l65 b66 e67 l68 l69 l70 (k0.bind f) (fun b230 => (k1 b230).bind f) := by
  simp only [laws_FnSamples_c23, cond_bind, Option.bind_assoc, Option.bind_none, laws_FnSamples_24_nat, laws_FnSamples_c32_nat]

theorem laws_FnSamples_c23_ok (hT : TOk P T) (φ : Nat) (hF : FOk P (F_44 φ)) (hm : P.follows .mixedOrders = true) : CodeOk P 2 (laws_FnSamples_c23_s φ) (tailOf Try.f3 23) := by
  have uk : (loopsOf (tailOf Try.f3 23)).all (fun x => Nat.blt (key x) 500000) = true := by kernel_rfl
  refine CodeOk.of_once (D := (evDraw T (F_44 φ))) (L := Lin_laws_FnSamples_c23 φ) (keep := (hasN [4, 5, 7, 20, 21, 23])) hT hF (evDraw_ok hT hF hm) (LoopsOk.loop (show apartKeys 24 (loopsOf (tailOf Try.f3 23)) = true from by kernel_rfl) (show Nat.blt 24 500000 = true from by kernel_rfl) (show findKey 24 (loopsOf (tailOf Try.f3 23)) = some (loopOf Try.f3 24) from by kernel_rfl) (laws_FnSamples_24_ok hT φ hF hm) (LoopsOk.cut (show apartKeys 32 (tailsOf (tailOf Try.f3 23)) = true from by kernel_rfl) uk (show findKey 32 (tailsOf (tailOf Try.f3 23)) = some (tailOf Try.f3 32) from by kernel_rfl) (laws_FnSamples_c32_ok hT φ hF hm) (LoopsOk.none 2 (tailOf Try.f3 23)))) ?_
  intro st K out h
  unfold laws_FnSamples_c23_s at h
  split at h
  · rename_i hq1 hq2
    obtain ⟨h1, h2⟩ := cond_inv h
    rw [Bool.and_eq_true] at h1
    refine ⟨h1.1, ?_⟩
    rw [norm_spread rfl st hq1 hq2 (Nat.eq_of_beq_eq_true h1.2)]
    exact (laws_FnSamples_c23_ev φ K _ _ _ _ _ _ _ _ _ _ _).trans h2
  cases h

theorem laws_FnSamples_c13_ev (φ : Nat) (K : Kont) (b20 : Bool) (n21 : Int) (n22 : Int) (b23 : Bool) (e24 : Nat) (l25 : (List Int)) (b26 : Bool) (e27 : Nat) (l28 : (List Int)) (l29 : (List Nat)) : evCode T (F_44 φ) (evDraw T (F_44 φ)) (Lin_laws_FnSamples_c13 φ) (tailOf Try.f3 13) (laws_FnSamples_c13_st b20 n21 n22 b23 e24 l25 b26 e27 l28 l29) (once 2 (hasN [1, 4, 5, 6, 7]) K) = laws_FnSamples_c13 φ b20 n21 n22 b23 e24 l25 b26 e27 l28 l29 (K .ret (St.mk (spread 0 267 [1, 4, 5, 6, 7] [(.whole 1), (.bool Bool.false), (.int .i64 n21), (.whole 2), (.int .i64 n22)]) [(.vec b23 e24 (.int .u8) l25), (.vec b26 e27 (.int .u8) l28), (.vec Bool.true 27 (.flt .f32) l29)])) (fun b250 => K .ret (St.mk (spread 0 267 [4, 5, 7] [(.bool b250), (.int .i64 n21), (.int .i64 n22)]) [(.vec b23 e24 (.int .u8) l25), (.vec b26 e27 (.int .u8) l28)])) := by kernel_rfl

theorem laws_FnSamples_c13_nat (φ : Nat) {ρ σ : Type} (f : ρ → Option σ) (b20 : Bool) (n21 : Int) (n22 : Int) (b23 : Bool) (e24 : Nat) (l25 : (List Int)) (b26 : Bool) (e27 : Nat) (l28 : (List Int)) (l29 : (List Nat)) (k0 : Option ρ) (k1 : Bool → Option ρ) : (laws_FnSamples_c13 φ b20 n21 n22 b23 e24 l25 b26 e27 l28 l29 k0 k1).bind f = laws_FnSamples_c13 φ b20 n21 n22 b23 e24 l25 b26 e27 l28 l29 (k0.bind f) (fun b250 => (k1 b250).bind f) := by
  simp only [laws_FnSamples_c13, cond_bind, Option.bind_assoc, Option.bind_none, laws_FnSamples_15_nat, laws_FnSamples_c23_nat]

theorem laws_FnSamples_c13_ok (hT : TOk P T) (φ : Nat) (hF : FOk P (F_44 φ)) (hm : P.follows .mixedOrders = true) : CodeOk P 2 (laws_FnSamples_c13_s φ) (tailOf Try.f3 13) := by
  have uk : (loopsOf (tailOf Try.f3 13)).all (fun x => Nat.blt (key x) 500000) = true := by kernel_rfl
  refine CodeOk.of_once (D := (evDraw T (F_44 φ))) (L := Lin_laws_FnSamples_c13 φ) (keep := (hasN [1, 4, 5, 6, 7])) hT hF (evDraw_ok hT hF hm) (LoopsOk.loop (show apartKeys 15 (loopsOf (tailOf Try.f3 13)) = true from by kernel_rfl) (show Nat.blt 15 500000 = true from by kernel_rfl) (show findKey 15 (loopsOf (tailOf Try.f3 13)) = some (loopOf Try.f3 15) from by kernel_rfl) (laws_FnSamples_15_ok hT φ hF hm) (LoopsOk.cut (show apartKeys 23 (tailsOf (tailOf Try.f3 13)) = true from by kernel_rfl) uk (show findKey 23 (tailsOf (tailOf Try.f3 13)) = some (tailOf Try.f3 23) from by kernel_rfl) (laws_FnSamples_c23_ok hT φ hF hm) (LoopsOk.none 2 (tailOf Try.f3 13)))) ?_
  intro st K out h
  unfold laws_FnSamples_c13_s at h
  split at h
  · rename_i hq1 hq2
    obtain ⟨h1, h2⟩ := cond_inv h
    rw [Bool.and_eq_true] at h1
    refine ⟨h1.1, ?_⟩
    rw [norm_spread rfl st hq1 hq2 (Nat.eq_of_beq_eq_true h1.2)]
    exact (laws_FnSamples_c13_ev φ K _ _ _ _ _ _ _ _ _ _).trans h2
  cases h

theorem laws_FnSamples_ev (φ : Nat) (b4 : Bool) (e5 : Nat) (l6 : (List Int)) (b7 : Bool) (e8 : Nat) (l9 : (List Int)) : evFn T (F_44 φ) (evDraw T (F_44 φ)) (laws_FnSamples_L φ) Try.f3 [(.whole 0), (.whole 1)] [(.vec b4 e5 (.int .u8) l6), (.vec b7 e8 (.int .u8) l9)] = laws_FnSamples φ b4 e5 l6 b7 e8 l9 (fun r => some (laws_FnSamples_val r, [(.vec b4 e5 (.int .u8) l6), (.vec b7 e8 (.int .u8) l9)])) := by kernel_rfl

theorem laws_FnSamples_nat (φ : Nat) (b4 : Bool) (e5 : Nat) (l6 : (List Int)) (b7 : Bool) (e8 : Nat) (l9 : (List Int)) {ρ σ : Type} (k : Bool → Option ρ) (f : ρ → Option σ) : (laws_FnSamples φ b4 e5 l6 b7 e8 l9 k).bind f = laws_FnSamples φ b4 e5 l6 b7 e8 l9 (fun r => (k r).bind f) := by
  simp only [laws_FnSamples, cond_bind, Option.bind_assoc, Option.bind_none, laws_FnSamples_15_nat, laws_FnSamples_24_nat, laws_FnSamples_37_nat, laws_FnSamples_33_nat, laws_FnSamples_c32_nat, laws_FnSamples_c23_nat, laws_FnSamples_c13_nat]

theorem laws_FnSamples_S (φ : Nat) (args : List AV) (h : List Blk) (r : Bool) (hr : S_laws_FnSamples φ args h = some r) : ∃ (b4 : Bool) (e5 : Nat) (l6 : (List Int)) (b7 : Bool) (e8 : Nat) (l9 : (List Int)), args = [(.whole 0), (.whole 1)] ∧ h = [(.vec b4 e5 (.int .u8) l6), (.vec b7 e8 (.int .u8) l9)] ∧ laws_FnSamples φ b4 e5 l6 b7 e8 l9 some = some r := by
  unfold S_laws_FnSamples at hr
  split at hr
  · exact ⟨_, _, _, _, _, _, rfl, rfl, hr⟩
  · cases hr

theorem laws_FnSamples_ok (hT : TOk P T) (φ : Nat) (hF : FOk P (F_44 φ)) (hm : P.follows .mixedOrders = true) : SumOk P 3 (.rd (S_laws_FnSamples φ) laws_FnSamples_val) := by
  have uk : (loopsOf (bodyOf Try.f3)).all (fun x => Nat.blt (key x) 500000) = true := by kernel_rfl
  refine rd_ok (fn := Try.f3) (c := bodyOf Try.f3) hT hF (evDraw_ok hT hF hm) (by kernel_rfl) (by kernel_rfl) (by kernel_rfl) ?_
  intro args h r hr
  obtain ⟨b4, e5, l6, b7, e8, l9, rfl, rfl, hq⟩ := laws_FnSamples_S φ args h r hr
  have e := laws_FnSamples_nat φ b4 e5 l6 b7 e8 l9 some (fun r => (some (laws_FnSamples_val r, [(.vec b4 e5 (.int .u8) l6), (.vec b7 e8 (.int .u8) l9)]) : Option Out))
  rw [hq] at e
  exact ⟨laws_FnSamples_L φ, (LoopsOk.cut (show apartKeys 13 (tailsOf (bodyOf Try.f3)) = true from by kernel_rfl) uk (show findKey 13 (tailsOf (bodyOf Try.f3)) = some (tailOf Try.f3 13) from by kernel_rfl) (laws_FnSamples_c13_ok hT φ hF hm) (LoopsOk.none 2 (bodyOf Try.f3))), (laws_FnSamples_ev φ b4 e5 l6 b7 e8 l9).trans e.symm⟩

end
end Go.Proofs.Ytcddghcjllgbiaa

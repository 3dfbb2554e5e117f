/-
  That they do so: function by function.
-/
import Derived.Test.YtcddghcjllgbiaaXD1
set_option linter.all false
set_option maxRecDepth 100000
set_option maxHeartbeats 4000000
namespace Go.Proofs.Ytcddghcjllgbiaa
open Go.Ev
noncomputable section

/-! ### impl_corrected -/
theorem impl_corrected_ev (φ : Nat) (x2 : Nat) (x3 : Nat) (b4 : Bool) (e5 : Nat) (l6 : (List Nat)) : evFn T (F_24 φ) (evDraw T (F_24 φ)) (impl_corrected_L φ) Try.f21 [(.whole 0), (.flt .f32 x2), (.flt .f32 x3)] [(.vec b4 e5 (.flt .f32) l6)] = impl_corrected φ x2 x3 b4 e5 l6 (fun r => some ((impl_corrected_val r).1, [(.vec b4 e5 (.flt .f32) l6)] ++ (impl_corrected_val r).2)) := by kernel_rfl

theorem impl_corrected_nat (φ : Nat) (x2 : Nat) (x3 : Nat) (b4 : Bool) (e5 : Nat) (l6 : (List Nat)) {ρ σ : Type} (k : (List Nat) → Option ρ) (f : ρ → Option σ) : (impl_corrected φ x2 x3 b4 e5 l6 k).bind f = impl_corrected φ x2 x3 b4 e5 l6 (fun r => (k r).bind f) := by
  simp only [impl_corrected, cond_bind, Option.bind_assoc, Option.bind_none]

theorem impl_corrected_S (φ : Nat) (args : List AV) (h : List Blk) (r : (List Nat)) (hr : S_impl_corrected φ args h = some r) : ∃ (x2 : Nat) (x3 : Nat) (b4 : Bool) (e5 : Nat) (l6 : (List Nat)), args = [(.whole 0), (.flt .f32 x2), (.flt .f32 x3)] ∧ h = [(.vec b4 e5 (.flt .f32) l6)] ∧ impl_corrected φ x2 x3 b4 e5 l6 some = some r := by
  unfold S_impl_corrected at hr
  split at hr
  · exact ⟨_, _, _, _, _, rfl, rfl, hr⟩
  · cases hr

theorem impl_corrected_ok (hT : TOk P T) (φ : Nat) (hF : FOk P (F_24 φ)) (hm : P.follows .mixedOrders = true) : SumOk P 21 (.mk (S_impl_corrected φ) impl_corrected_val) := by
  refine mk_ok (fn := Try.f21) (c := bodyOf Try.f21) hT hF (evDraw_ok hT hF hm) (by kernel_rfl) (by kernel_rfl) (by kernel_rfl) ?_
  intro args h r hr
  obtain ⟨x2, x3, b4, e5, l6, rfl, rfl, hq⟩ := impl_corrected_S φ args h r hr
  have e := impl_corrected_nat φ x2 x3 b4 e5 l6 some (fun r => (some ((impl_corrected_val r).1, [(.vec b4 e5 (.flt .f32) l6)] ++ (impl_corrected_val r).2) : Option Out))
  rw [hq] at e
  exact ⟨impl_corrected_L φ, (LoopsOk.none 1 (bodyOf Try.f21)), (impl_corrected_ev φ x2 x3 b4 e5 l6).trans e.symm⟩

/-! ### impl_CorrectTrace -/
theorem impl_CorrectTrace_ev (φ : Nat) (x2 : Nat) (x3 : Nat) (b4 : Bool) (e5 : Nat) (l6 : (List Nat)) : evFn T (F_25 φ) (evDraw T (F_25 φ)) (impl_CorrectTrace_L φ) Try.f8 [(.whole 0), (.flt .f32 x2), (.flt .f32 x3)] [(.vec b4 e5 (.flt .f32) l6)] = impl_CorrectTrace φ x2 x3 b4 e5 l6 (fun r => some ((impl_CorrectTrace_val r).1, [(.vec b4 e5 (.flt .f32) l6)] ++ (impl_CorrectTrace_val r).2)) := by kernel_rfl

theorem impl_CorrectTrace_nat (φ : Nat) (x2 : Nat) (x3 : Nat) (b4 : Bool) (e5 : Nat) (l6 : (List Nat)) {ρ σ : Type} (k : (Bool × (List Nat)) → Option ρ) (f : ρ → Option σ) : (impl_CorrectTrace φ x2 x3 b4 e5 l6 k).bind f = impl_CorrectTrace φ x2 x3 b4 e5 l6 (fun r => (k r).bind f) := by
  simp only [impl_CorrectTrace, cond_bind, Option.bind_assoc, Option.bind_none]

theorem impl_CorrectTrace_S (φ : Nat) (args : List AV) (h : List Blk) (r : (Bool × (List Nat))) (hr : S_impl_CorrectTrace φ args h = some r) : ∃ (x2 : Nat) (x3 : Nat) (b4 : Bool) (e5 : Nat) (l6 : (List Nat)), args = [(.whole 0), (.flt .f32 x2), (.flt .f32 x3)] ∧ h = [(.vec b4 e5 (.flt .f32) l6)] ∧ impl_CorrectTrace φ x2 x3 b4 e5 l6 some = some r := by
  unfold S_impl_CorrectTrace at hr
  split at hr
  · exact ⟨_, _, _, _, _, rfl, rfl, hr⟩
  · cases hr

theorem impl_CorrectTrace_ok (hT : TOk P T) (φ : Nat) (hF : FOk P (F_25 φ)) (hm : P.follows .mixedOrders = true) : SumOk P 8 (.mk (S_impl_CorrectTrace φ) impl_CorrectTrace_val) := by
  refine mk_ok (fn := Try.f8) (c := bodyOf Try.f8) hT hF (evDraw_ok hT hF hm) (by kernel_rfl) (by kernel_rfl) (by kernel_rfl) ?_
  intro args h r hr
  obtain ⟨x2, x3, b4, e5, l6, rfl, rfl, hq⟩ := impl_CorrectTrace_S φ args h r hr
  have e := impl_CorrectTrace_nat φ x2 x3 b4 e5 l6 some (fun r => (some ((impl_CorrectTrace_val r).1, [(.vec b4 e5 (.flt .f32) l6)] ++ (impl_CorrectTrace_val r).2) : Option Out))
  rw [hq] at e
  exact ⟨impl_CorrectTrace_L φ, (LoopsOk.none 1 (bodyOf Try.f8)), (impl_CorrectTrace_ev φ x2 x3 b4 e5 l6).trans e.symm⟩

/-! ### impl_bent_1 -/
theorem impl_bent_1_ev (φ : Nat) (x0 : Nat) (x1 : Nat) (x2 : Nat) : evFn T (F_26 φ) (evDraw T (F_26 φ)) (impl_bent_1_L φ) Try.f41 [(.flt .f32 x0), (.ptr 0 0), (.ptr 1 0)] [(.cells 27 [(.flt .f32 x1)]), (.cells 27 [(.flt .f32 x2)])] = impl_bent_1 φ x0 x1 x2 (fun r => some (impl_bent_1_val r, [(.cells 27 [(.flt .f32 x1)]), (.cells 27 [(.flt .f32 x2)])])) := by kernel_rfl

theorem impl_bent_1_nat (φ : Nat) (x0 : Nat) (x1 : Nat) (x2 : Nat) {ρ σ : Type} (k : Nat → Option ρ) (f : ρ → Option σ) : (impl_bent_1 φ x0 x1 x2 k).bind f = impl_bent_1 φ x0 x1 x2 (fun r => (k r).bind f) := by
  simp only [impl_bent_1, cond_bind, Option.bind_assoc, Option.bind_none]

theorem impl_bent_1_S (φ : Nat) (args : List AV) (h : List Blk) (r : Nat) (hr : S_impl_bent_1 φ args h = some r) : ∃ (x0 : Nat) (x1 : Nat) (x2 : Nat), args = [(.flt .f32 x0), (.ptr 0 0), (.ptr 1 0)] ∧ h = [(.cells 27 [(.flt .f32 x1)]), (.cells 27 [(.flt .f32 x2)])] ∧ impl_bent_1 φ x0 x1 x2 some = some r := by
  unfold S_impl_bent_1 at hr
  split at hr
  · exact ⟨_, _, _, rfl, rfl, hr⟩
  · cases hr

theorem impl_bent_1_ok (hT : TOk P T) (φ : Nat) (hF : FOk P (F_26 φ)) (hm : P.follows .mixedOrders = true) : SumOk P 41 (.rd (S_impl_bent_1 φ) impl_bent_1_val) := by
  refine rd_ok (fn := Try.f41) (c := bodyOf Try.f41) hT hF (evDraw_ok hT hF hm) (by kernel_rfl) (by kernel_rfl) (by kernel_rfl) ?_
  intro args h r hr
  obtain ⟨x0, x1, x2, rfl, rfl, hq⟩ := impl_bent_1_S φ args h r hr
  have e := impl_bent_1_nat φ x0 x1 x2 some (fun r => (some (impl_bent_1_val r, [(.cells 27 [(.flt .f32 x1)]), (.cells 27 [(.flt .f32 x2)])]) : Option Out))
  rw [hq] at e
  exact ⟨impl_bent_1_L φ, (LoopsOk.none 2 (bodyOf Try.f41)), (impl_bent_1_ev φ x0 x1 x2).trans e.symm⟩

/-! ### impl_sampled_v2 -/
theorem impl_sampled_v2_3_step (φ : Nat) (n0 : Int) (n1 : Int) (b2 : Bool) (e3 : Nat) (l4 : (List Nat)) (x5 : Nat) (x6 : Nat) (l7 : (List Nat)) (G : St → Option Out) (K : Kont) : evCode T (F_27 φ) (evDraw T (F_27 φ)) (Lin_impl_sampled_v2_3 φ) (loopOf Try.f23 3) (impl_sampled_v2_3_st n0 n1 b2 e3 l4 x5 x6 l7) (round 3 (hasN [0, 1, 5, 8, 9]) G K) =
    bif (decide (n1 < n0)) then
      Option.bind (impl_bent_1 φ (itof .f32 n1) x5 x6 some) fun r8 =>
      Option.bind (impl_sample φ r8 b2 e3 l4 some) fun r9 =>
      Option.bind (room ((Nat.add (List.length l7) 0) + 1) 4) fun r10 =>
      (G (impl_sampled_v2_3_st n0 (IntKind.wrap .i64 (n1 + (1 : Int))) b2 e3 l4 x5 x6 (l7 ++ [r9])))
    else
      (K (.exit 0) (St.mk (spread 0 23 [0, 1, 5, 8, 9] [(.whole 0), (.fn 41 [] [(.ptr 1 0), (.ptr 2 0)]), (.whole 3), (.int .i64 n0), (.int .i64 n1)]) [(.vec b2 e3 (.flt .f32) l4), (.cells 27 [(.flt .f32 x5)]), (.cells 27 [(.flt .f32 x6)]), (.vec Bool.true 27 (.flt .f32) l7)])) := by kernel_rfl

theorem impl_sampled_v2_3_ev (φ : Nat) (K : Kont) : ∀ (n : Nat) (n0 : Int) (n1 : Int) (b2 : Bool) (e3 : Nat) (l4 : (List Nat)) (x5 : Nat) (x6 : Nat) (l7 : (List Nat)), evLoop T (F_27 φ) (evDraw T (F_27 φ)) (Lin_impl_sampled_v2_3 φ) 3 (hasN [0, 1, 5, 8, 9]) (loopOf Try.f23 3) n (impl_sampled_v2_3_st n0 n1 b2 e3 l4 x5 x6 l7) K = impl_sampled_v2_3 φ n0 b2 e3 l4 x5 x6 n n1 l7 (fun n12 l18 => K (.exit 0) (St.mk (spread 0 23 [0, 1, 5, 8, 9] [(.whole 0), (.fn 41 [] [(.ptr 1 0), (.ptr 2 0)]), (.whole 3), (.int .i64 n0), (.int .i64 n12)]) [(.vec b2 e3 (.flt .f32) l4), (.cells 27 [(.flt .f32 x5)]), (.cells 27 [(.flt .f32 x6)]), (.vec Bool.true 27 (.flt .f32) l18)])) := by
  intro n
  induction n with
  | zero => intros; rfl
  | succ n ih =>
    intros
    rw [evLoop_succ, impl_sampled_v2_3_step]
    simp only [ih]
    rfl

theorem impl_sampled_v2_3_nat (φ : Nat) {ρ σ : Type} (f : ρ → Option σ) : ∀ (n : Nat) (n0 : Int) (n1 : Int) (b2 : Bool) (e3 : Nat) (l4 : (List Nat)) (x5 : Nat) (x6 : Nat) (l7 : (List Nat)) (k0 : Int → (List Nat) → Option ρ), (impl_sampled_v2_3 φ n0 b2 e3 l4 x5 x6 n n1 l7 k0).bind f = impl_sampled_v2_3 φ n0 b2 e3 l4 x5 x6 n n1 l7 (fun n12 l18 => (k0 n12 l18).bind f) := by
  intro n
  induction n with
  | zero => intros; rfl
  | succ n ih =>
    intros
    simp only [impl_sampled_v2_3, cond_bind, Option.bind_assoc, Option.bind_none, ih]

theorem impl_sampled_v2_3_ok (hT : TOk P T) (φ : Nat) (hF : FOk P (F_27 φ)) (hm : P.follows .mixedOrders = true) : LoopOk P 3 (impl_sampled_v2_3_s φ) (loopOf Try.f23 3) := by
  refine LoopOk.of_rounds (D := (evDraw T (F_27 φ))) (L := Lin_impl_sampled_v2_3 φ) (keep := (hasN [0, 1, 5, 8, 9])) hT hF (evDraw_ok hT hF hm) (LoopsOk.none 3 (loopOf Try.f23 3)) ?_
  intro st K out h
  unfold impl_sampled_v2_3_s at h
  split at h
  · rename_i hq1 hq2
    obtain ⟨h1, h2⟩ := cond_inv h
    rw [Bool.and_eq_true] at h1
    refine ⟨h1.1, φ, ?_⟩
    rw [norm_spread rfl st hq1 hq2 (Nat.eq_of_beq_eq_true h1.2)]
    exact (impl_sampled_v2_3_ev φ K φ _ _ _ _ _ _ _ _).trans h2
  cases h

theorem impl_sampled_v2_ev (φ : Nat) (b2 : Bool) (e3 : Nat) (l4 : (List Nat)) (x5 : Nat) (x6 : Nat) : evFn T (F_27 φ) (evDraw T (F_27 φ)) (impl_sampled_v2_L φ) Try.f23 [(.whole 0), (.fn 41 [] [(.ptr 1 0), (.ptr 2 0)])] [(.vec b2 e3 (.flt .f32) l4), (.cells 27 [(.flt .f32 x5)]), (.cells 27 [(.flt .f32 x6)])] = impl_sampled_v2 φ b2 e3 l4 x5 x6 (fun r => some ((impl_sampled_v2_val r).1, [(.vec b2 e3 (.flt .f32) l4), (.cells 27 [(.flt .f32 x5)]), (.cells 27 [(.flt .f32 x6)])] ++ (impl_sampled_v2_val r).2)) := by kernel_rfl

theorem impl_sampled_v2_nat (φ : Nat) (b2 : Bool) (e3 : Nat) (l4 : (List Nat)) (x5 : Nat) (x6 : Nat) {ρ σ : Type} (k : (List Nat) → Option ρ) (f : ρ → Option σ) : (impl_sampled_v2 φ b2 e3 l4 x5 x6 k).bind f = impl_sampled_v2 φ b2 e3 l4 x5 x6 (fun r => (k r).bind f) := by
  simp only [impl_sampled_v2, cond_bind, Option.bind_assoc, Option.bind_none, impl_sampled_v2_3_nat]

theorem impl_sampled_v2_S (φ : Nat) (args : List AV) (h : List Blk) (r : (List Nat)) (hr : S_impl_sampled_v2 φ args h = some r) : ∃ (b2 : Bool) (e3 : Nat) (l4 : (List Nat)) (x5 : Nat) (x6 : Nat), args = [(.whole 0), (.fn 41 [] [(.ptr 1 0), (.ptr 2 0)])] ∧ h = [(.vec b2 e3 (.flt .f32) l4), (.cells 27 [(.flt .f32 x5)]), (.cells 27 [(.flt .f32 x6)])] ∧ impl_sampled_v2 φ b2 e3 l4 x5 x6 some = some r := by
  unfold S_impl_sampled_v2 at hr
  split at hr
  · exact ⟨_, _, _, _, _, rfl, rfl, hr⟩
  · cases hr

theorem impl_sampled_v2_ok (hT : TOk P T) (φ : Nat) (hF : FOk P (F_27 φ)) (hm : P.follows .mixedOrders = true) : SumOk P 23 (.mk (S_impl_sampled_v2 φ) impl_sampled_v2_val) := by
  refine mk_ok (fn := Try.f23) (c := bodyOf Try.f23) hT hF (evDraw_ok hT hF hm) (by kernel_rfl) (by kernel_rfl) (by kernel_rfl) ?_
  intro args h r hr
  obtain ⟨b2, e3, l4, x5, x6, rfl, rfl, hq⟩ := impl_sampled_v2_S φ args h r hr
  have e := impl_sampled_v2_nat φ b2 e3 l4 x5 x6 some (fun r => (some ((impl_sampled_v2_val r).1, [(.vec b2 e3 (.flt .f32) l4), (.cells 27 [(.flt .f32 x5)]), (.cells 27 [(.flt .f32 x6)])] ++ (impl_sampled_v2_val r).2) : Option Out))
  rw [hq] at e
  exact ⟨impl_sampled_v2_L φ, (LoopsOk.loop (show apartKeys 3 (loopsOf (bodyOf Try.f23)) = true from by kernel_rfl) (show Nat.blt 3 500000 = true from by kernel_rfl) (show findKey 3 (loopsOf (bodyOf Try.f23)) = some (loopOf Try.f23 3) from by kernel_rfl) (impl_sampled_v2_3_ok hT φ hF hm) (LoopsOk.none 3 (bodyOf Try.f23))), (impl_sampled_v2_ev φ b2 e3 l4 x5 x6).trans e.symm⟩

/-! ### impl_bent -/
theorem impl_bent_ev (φ : Nat) (x2 : Nat) (x3 : Nat) (b4 : Bool) (e5 : Nat) (l6 : (List Nat)) : evFn T (F_28 φ) (evDraw T (F_28 φ)) (impl_bent_L φ) Try.f22 [(.whole 0), (.flt .f32 x2), (.flt .f32 x3)] [(.vec b4 e5 (.flt .f32) l6)] = impl_bent φ x2 x3 b4 e5 l6 (fun r => some ((impl_bent_val r).1, [(.vec b4 e5 (.flt .f32) l6)] ++ (impl_bent_val r).2)) := by kernel_rfl

theorem impl_bent_nat (φ : Nat) (x2 : Nat) (x3 : Nat) (b4 : Bool) (e5 : Nat) (l6 : (List Nat)) {ρ σ : Type} (k : (List Nat) → Option ρ) (f : ρ → Option σ) : (impl_bent φ x2 x3 b4 e5 l6 k).bind f = impl_bent φ x2 x3 b4 e5 l6 (fun r => (k r).bind f) := by
  simp only [impl_bent, cond_bind, Option.bind_assoc, Option.bind_none]

theorem impl_bent_S (φ : Nat) (args : List AV) (h : List Blk) (r : (List Nat)) (hr : S_impl_bent φ args h = some r) : ∃ (x2 : Nat) (x3 : Nat) (b4 : Bool) (e5 : Nat) (l6 : (List Nat)), args = [(.whole 0), (.flt .f32 x2), (.flt .f32 x3)] ∧ h = [(.vec b4 e5 (.flt .f32) l6)] ∧ impl_bent φ x2 x3 b4 e5 l6 some = some r := by
  unfold S_impl_bent at hr
  split at hr
  · exact ⟨_, _, _, _, _, rfl, rfl, hr⟩
  · cases hr

theorem impl_bent_ok (hT : TOk P T) (φ : Nat) (hF : FOk P (F_28 φ)) (hm : P.follows .mixedOrders = true) : SumOk P 22 (.mk (S_impl_bent φ) impl_bent_val) := by
  refine mk_ok (fn := Try.f22) (c := bodyOf Try.f22) hT hF (evDraw_ok hT hF hm) (by kernel_rfl) (by kernel_rfl) (by kernel_rfl) ?_
  intro args h r hr
  obtain ⟨x2, x3, b4, e5, l6, rfl, rfl, hq⟩ := impl_bent_S φ args h r hr
  have e := impl_bent_nat φ x2 x3 b4 e5 l6 some (fun r => (some ((impl_bent_val r).1, [(.vec b4 e5 (.flt .f32) l6)] ++ (impl_bent_val r).2) : Option Out))
  rw [hq] at e
  exact ⟨impl_bent_L φ, (LoopsOk.none 1 (bodyOf Try.f22)), (impl_bent_ev φ x2 x3 b4 e5 l6).trans e.symm⟩

/-! ### impl_BendTrace -/
theorem impl_BendTrace_ev (φ : Nat) (x2 : Nat) (x3 : Nat) (b4 : Bool) (e5 : Nat) (l6 : (List Nat)) : evFn T (F_29 φ) (evDraw T (F_29 φ)) (impl_BendTrace_L φ) Try.f9 [(.whole 0), (.flt .f32 x2), (.flt .f32 x3)] [(.vec b4 e5 (.flt .f32) l6)] = impl_BendTrace φ x2 x3 b4 e5 l6 (fun r => some ((impl_BendTrace_val r).1, [(.vec b4 e5 (.flt .f32) l6)] ++ (impl_BendTrace_val r).2)) := by kernel_rfl

theorem impl_BendTrace_nat (φ : Nat) (x2 : Nat) (x3 : Nat) (b4 : Bool) (e5 : Nat) (l6 : (List Nat)) {ρ σ : Type} (k : (Bool × (List Nat)) → Option ρ) (f : ρ → Option σ) : (impl_BendTrace φ x2 x3 b4 e5 l6 k).bind f = impl_BendTrace φ x2 x3 b4 e5 l6 (fun r => (k r).bind f) := by
  simp only [impl_BendTrace, cond_bind, Option.bind_assoc, Option.bind_none]

theorem impl_BendTrace_S (φ : Nat) (args : List AV) (h : List Blk) (r : (Bool × (List Nat))) (hr : S_impl_BendTrace φ args h = some r) : ∃ (x2 : Nat) (x3 : Nat) (b4 : Bool) (e5 : Nat) (l6 : (List Nat)), args = [(.whole 0), (.flt .f32 x2), (.flt .f32 x3)] ∧ h = [(.vec b4 e5 (.flt .f32) l6)] ∧ impl_BendTrace φ x2 x3 b4 e5 l6 some = some r := by
  unfold S_impl_BendTrace at hr
  split at hr
  · exact ⟨_, _, _, _, _, rfl, rfl, hr⟩
  · cases hr

theorem impl_BendTrace_ok (hT : TOk P T) (φ : Nat) (hF : FOk P (F_29 φ)) (hm : P.follows .mixedOrders = true) : SumOk P 9 (.mk (S_impl_BendTrace φ) impl_BendTrace_val) := by
  refine mk_ok (fn := Try.f9) (c := bodyOf Try.f9) hT hF (evDraw_ok hT hF hm) (by kernel_rfl) (by kernel_rfl) (by kernel_rfl) ?_
  intro args h r hr
  obtain ⟨x2, x3, b4, e5, l6, rfl, rfl, hq⟩ := impl_BendTrace_S φ args h r hr
  have e := impl_BendTrace_nat φ x2 x3 b4 e5 l6 some (fun r => (some ((impl_BendTrace_val r).1, [(.vec b4 e5 (.flt .f32) l6)] ++ (impl_BendTrace_val r).2) : Option Out))
  rw [hq] at e
  exact ⟨impl_BendTrace_L φ, (LoopsOk.none 1 (bodyOf Try.f9)), (impl_BendTrace_ev φ x2 x3 b4 e5 l6).trans e.symm⟩

/-! ### impl_MoveTrace_1 -/
theorem impl_MoveTrace_1_ev (φ : Nat) (x0 : Nat) (x1 : Nat) : evFn T (F_30 φ) (evDraw T (F_30 φ)) (impl_MoveTrace_1_L φ) Try.f24 [(.flt .f32 x0), (.ptr 0 0)] [(.cells 27 [(.flt .f32 x1)])] = impl_MoveTrace_1 φ x0 x1 (fun r => some (impl_MoveTrace_1_val r, [(.cells 27 [(.flt .f32 x1)])])) := by kernel_rfl

theorem impl_MoveTrace_1_nat (φ : Nat) (x0 : Nat) (x1 : Nat) {ρ σ : Type} (k : Nat → Option ρ) (f : ρ → Option σ) : (impl_MoveTrace_1 φ x0 x1 k).bind f = impl_MoveTrace_1 φ x0 x1 (fun r => (k r).bind f) := by
  simp only [impl_MoveTrace_1, cond_bind, Option.bind_assoc, Option.bind_none]

theorem impl_MoveTrace_1_S (φ : Nat) (args : List AV) (h : List Blk) (r : Nat) (hr : S_impl_MoveTrace_1 φ args h = some r) : ∃ (x0 : Nat) (x1 : Nat), args = [(.flt .f32 x0), (.ptr 0 0)] ∧ h = [(.cells 27 [(.flt .f32 x1)])] ∧ impl_MoveTrace_1 φ x0 x1 some = some r := by
  unfold S_impl_MoveTrace_1 at hr
  split at hr
  · exact ⟨_, _, rfl, rfl, hr⟩
  · cases hr

theorem impl_MoveTrace_1_ok (hT : TOk P T) (φ : Nat) (hF : FOk P (F_30 φ)) (hm : P.follows .mixedOrders = true) : SumOk P 24 (.rd (S_impl_MoveTrace_1 φ) impl_MoveTrace_1_val) := by
  refine rd_ok (fn := Try.f24) (c := bodyOf Try.f24) hT hF (evDraw_ok hT hF hm) (by kernel_rfl) (by kernel_rfl) (by kernel_rfl) ?_
  intro args h r hr
  obtain ⟨x0, x1, rfl, rfl, hq⟩ := impl_MoveTrace_1_S φ args h r hr
  have e := impl_MoveTrace_1_nat φ x0 x1 some (fun r => (some (impl_MoveTrace_1_val r, [(.cells 27 [(.flt .f32 x1)])]) : Option Out))
  rw [hq] at e
  exact ⟨impl_MoveTrace_1_L φ, (LoopsOk.none 1 (bodyOf Try.f24)), (impl_MoveTrace_1_ev φ x0 x1).trans e.symm⟩

/-! ### impl_sampled_v3 -/
theorem impl_sampled_v3_3_step (φ : Nat) (n0 : Int) (n1 : Int) (b2 : Bool) (e3 : Nat) (l4 : (List Nat)) (x5 : Nat) (l6 : (List Nat)) (G : St → Option Out) (K : Kont) : evCode T (F_31 φ) (evDraw T (F_31 φ)) (Lin_impl_sampled_v3_3 φ) (loopOf Try.f23 3) (impl_sampled_v3_3_st n0 n1 b2 e3 l4 x5 l6) (round 2 (hasN [0, 1, 5, 8, 9]) G K) =
    bif (decide (n1 < n0)) then
      Option.bind (impl_MoveTrace_1 φ (itof .f32 n1) x5 some) fun r7 =>
      Option.bind (impl_sample φ r7 b2 e3 l4 some) fun r8 =>
      Option.bind (room ((Nat.add (List.length l6) 0) + 1) 4) fun r9 =>
      (G (impl_sampled_v3_3_st n0 (IntKind.wrap .i64 (n1 + (1 : Int))) b2 e3 l4 x5 (l6 ++ [r8])))
    else
      (K (.exit 0) (St.mk (spread 0 23 [0, 1, 5, 8, 9] [(.whole 0), (.fn 24 [] [(.ptr 1 0)]), (.whole 2), (.int .i64 n0), (.int .i64 n1)]) [(.vec b2 e3 (.flt .f32) l4), (.cells 27 [(.flt .f32 x5)]), (.vec Bool.true 27 (.flt .f32) l6)])) := by kernel_rfl

theorem impl_sampled_v3_3_ev (φ : Nat) (K : Kont) : ∀ (n : Nat) (n0 : Int) (n1 : Int) (b2 : Bool) (e3 : Nat) (l4 : (List Nat)) (x5 : Nat) (l6 : (List Nat)), evLoop T (F_31 φ) (evDraw T (F_31 φ)) (Lin_impl_sampled_v3_3 φ) 2 (hasN [0, 1, 5, 8, 9]) (loopOf Try.f23 3) n (impl_sampled_v3_3_st n0 n1 b2 e3 l4 x5 l6) K = impl_sampled_v3_3 φ n0 b2 e3 l4 x5 n n1 l6 (fun n11 l16 => K (.exit 0) (St.mk (spread 0 23 [0, 1, 5, 8, 9] [(.whole 0), (.fn 24 [] [(.ptr 1 0)]), (.whole 2), (.int .i64 n0), (.int .i64 n11)]) [(.vec b2 e3 (.flt .f32) l4), (.cells 27 [(.flt .f32 x5)]), (.vec Bool.true 27 (.flt .f32) l16)])) := by
  intro n
  induction n with
  | zero => intros; rfl
  | succ n ih =>
    intros
    rw [evLoop_succ, impl_sampled_v3_3_step]
    simp only [ih]
    rfl

theorem impl_sampled_v3_3_nat (φ : Nat) {ρ σ : Type} (f : ρ → Option σ) : ∀ (n : Nat) (n0 : Int) (n1 : Int) (b2 : Bool) (e3 : Nat) (l4 : (List Nat)) (x5 : Nat) (l6 : (List Nat)) (k0 : Int → (List Nat) → Option ρ), (impl_sampled_v3_3 φ n0 b2 e3 l4 x5 n n1 l6 k0).bind f = impl_sampled_v3_3 φ n0 b2 e3 l4 x5 n n1 l6 (fun n11 l16 => (k0 n11 l16).bind f) := by
  intro n
  induction n with
  | zero => intros; rfl
  | succ n ih =>
    intros
    simp only [impl_sampled_v3_3, cond_bind, Option.bind_assoc, Option.bind_none, ih]

theorem impl_sampled_v3_3_ok (hT : TOk P T) (φ : Nat) (hF : FOk P (F_31 φ)) (hm : P.follows .mixedOrders = true) : LoopOk P 2 (impl_sampled_v3_3_s φ) (loopOf Try.f23 3) := by
  refine LoopOk.of_rounds (D := (evDraw T (F_31 φ))) (L := Lin_impl_sampled_v3_3 φ) (keep := (hasN [0, 1, 5, 8, 9])) hT hF (evDraw_ok hT hF hm) (LoopsOk.none 2 (loopOf Try.f23 3)) ?_
  intro st K out h
  unfold impl_sampled_v3_3_s at h
  split at h
  · rename_i hq1 hq2
    obtain ⟨h1, h2⟩ := cond_inv h
    rw [Bool.and_eq_true] at h1
    refine ⟨h1.1, φ, ?_⟩
    rw [norm_spread rfl st hq1 hq2 (Nat.eq_of_beq_eq_true h1.2)]
    exact (impl_sampled_v3_3_ev φ K φ _ _ _ _ _ _ _).trans h2
  cases h

theorem impl_sampled_v3_ev (φ : Nat) (b2 : Bool) (e3 : Nat) (l4 : (List Nat)) (x5 : Nat) : evFn T (F_31 φ) (evDraw T (F_31 φ)) (impl_sampled_v3_L φ) Try.f23 [(.whole 0), (.fn 24 [] [(.ptr 1 0)])] [(.vec b2 e3 (.flt .f32) l4), (.cells 27 [(.flt .f32 x5)])] = impl_sampled_v3 φ b2 e3 l4 x5 (fun r => some ((impl_sampled_v3_val r).1, [(.vec b2 e3 (.flt .f32) l4), (.cells 27 [(.flt .f32 x5)])] ++ (impl_sampled_v3_val r).2)) := by kernel_rfl

theorem impl_sampled_v3_nat (φ : Nat) (b2 : Bool) (e3 : Nat) (l4 : (List Nat)) (x5 : Nat) {ρ σ : Type} (k : (List Nat) → Option ρ) (f : ρ → Option σ) : (impl_sampled_v3 φ b2 e3 l4 x5 k).bind f = impl_sampled_v3 φ b2 e3 l4 x5 (fun r => (k r).bind f) := by
  simp only [impl_sampled_v3, cond_bind, Option.bind_assoc, Option.bind_none, impl_sampled_v3_3_nat]

theorem impl_sampled_v3_S (φ : Nat) (args : List AV) (h : List Blk) (r : (List Nat)) (hr : S_impl_sampled_v3 φ args h = some r) : ∃ (b2 : Bool) (e3 : Nat) (l4 : (List Nat)) (x5 : Nat), args = [(.whole 0), (.fn 24 [] [(.ptr 1 0)])] ∧ h = [(.vec b2 e3 (.flt .f32) l4), (.cells 27 [(.flt .f32 x5)])] ∧ impl_sampled_v3 φ b2 e3 l4 x5 some = some r := by
  unfold S_impl_sampled_v3 at hr
  split at hr
  · exact ⟨_, _, _, _, rfl, rfl, hr⟩
  · cases hr

theorem impl_sampled_v3_ok (hT : TOk P T) (φ : Nat) (hF : FOk P (F_31 φ)) (hm : P.follows .mixedOrders = true) : SumOk P 23 (.mk (S_impl_sampled_v3 φ) impl_sampled_v3_val) := by
  refine mk_ok (fn := Try.f23) (c := bodyOf Try.f23) hT hF (evDraw_ok hT hF hm) (by kernel_rfl) (by kernel_rfl) (by kernel_rfl) ?_
  intro args h r hr
  obtain ⟨b2, e3, l4, x5, rfl, rfl, hq⟩ := impl_sampled_v3_S φ args h r hr
  have e := impl_sampled_v3_nat φ b2 e3 l4 x5 some (fun r => (some ((impl_sampled_v3_val r).1, [(.vec b2 e3 (.flt .f32) l4), (.cells 27 [(.flt .f32 x5)])] ++ (impl_sampled_v3_val r).2) : Option Out))
  rw [hq] at e
  exact ⟨impl_sampled_v3_L φ, (LoopsOk.loop (show apartKeys 3 (loopsOf (bodyOf Try.f23)) = true from by kernel_rfl) (show Nat.blt 3 500000 = true from by kernel_rfl) (show findKey 3 (loopsOf (bodyOf Try.f23)) = some (loopOf Try.f23 3) from by kernel_rfl) (impl_sampled_v3_3_ok hT φ hF hm) (LoopsOk.none 2 (bodyOf Try.f23))), (impl_sampled_v3_ev φ b2 e3 l4 x5).trans e.symm⟩

/-! ### impl_MoveTrace -/
theorem impl_MoveTrace_ev (φ : Nat) (x2 : Nat) (b3 : Bool) (e4 : Nat) (l5 : (List Nat)) : evFn T (F_32 φ) (evDraw T (F_32 φ)) (impl_MoveTrace_L φ) Try.f10 [(.whole 0), (.flt .f32 x2)] [(.vec b3 e4 (.flt .f32) l5)] = impl_MoveTrace φ x2 b3 e4 l5 (fun r => some ((impl_MoveTrace_val r).1, [(.vec b3 e4 (.flt .f32) l5)] ++ (impl_MoveTrace_val r).2)) := by kernel_rfl

theorem impl_MoveTrace_nat (φ : Nat) (x2 : Nat) (b3 : Bool) (e4 : Nat) (l5 : (List Nat)) {ρ σ : Type} (k : (Bool × (List Nat)) → Option ρ) (f : ρ → Option σ) : (impl_MoveTrace φ x2 b3 e4 l5 k).bind f = impl_MoveTrace φ x2 b3 e4 l5 (fun r => (k r).bind f) := by
  simp only [impl_MoveTrace, cond_bind, Option.bind_assoc, Option.bind_none]

theorem impl_MoveTrace_S (φ : Nat) (args : List AV) (h : List Blk) (r : (Bool × (List Nat))) (hr : S_impl_MoveTrace φ args h = some r) : ∃ (x2 : Nat) (b3 : Bool) (e4 : Nat) (l5 : (List Nat)), args = [(.whole 0), (.flt .f32 x2)] ∧ h = [(.vec b3 e4 (.flt .f32) l5)] ∧ impl_MoveTrace φ x2 b3 e4 l5 some = some r := by
  unfold S_impl_MoveTrace at hr
  split at hr
  · exact ⟨_, _, _, _, rfl, rfl, hr⟩
  · cases hr

theorem impl_MoveTrace_ok (hT : TOk P T) (φ : Nat) (hF : FOk P (F_32 φ)) (hm : P.follows .mixedOrders = true) : SumOk P 10 (.mk (S_impl_MoveTrace φ) impl_MoveTrace_val) := by
  refine mk_ok (fn := Try.f10) (c := bodyOf Try.f10) hT hF (evDraw_ok hT hF hm) (by kernel_rfl) (by kernel_rfl) (by kernel_rfl) ?_
  intro args h r hr
  obtain ⟨x2, b3, e4, l5, rfl, rfl, hq⟩ := impl_MoveTrace_S φ args h r hr
  have e := impl_MoveTrace_nat φ x2 b3 e4 l5 some (fun r => (some ((impl_MoveTrace_val r).1, [(.vec b3 e4 (.flt .f32) l5)] ++ (impl_MoveTrace_val r).2) : Option Out))
  rw [hq] at e
  exact ⟨impl_MoveTrace_L φ, (LoopsOk.none 1 (bodyOf Try.f10)), (impl_MoveTrace_ev φ x2 b3 e4 l5).trans e.symm⟩

/-! ### laws_r8Equal -/
theorem laws_r8Equal_4_step (φ : Nat) (b0 : Bool) (n1 : Int) (b2 : Bool) (e3 : Nat) (l4 : (List Nat)) (b5 : Bool) (e6 : Nat) (l7 : (List Nat)) (G : St → Option Out) (K : Kont) : evCode T (F_33 φ) (evDraw T (F_33 φ)) (Lin_laws_r8Equal_4 φ) (loopOf Try.f11 4) (laws_r8Equal_4_st b0 n1 b2 e3 l4 b5 e6 l7) (round 2 (hasN [0, 1, 4, 5]) G K) =
    bif (decide (n1 < (((List.length l4) : Nat) : Int))) then
      Option.bind (idx n1 (List.length l4)) fun r8 =>
      Option.bind (l4[r8]?) fun r9 =>
      Option.bind (idx n1 (List.length l7)) fun r10 =>
      Option.bind (l7[r10]?) fun r11 =>
      bif (fne .f32 r9 r11) then
        (K .ret (St.mk (spread 0 26 [0, 1, 4, 5] [(.whole 0), (.whole 1), (.bool Bool.false), (.int .i64 n1)]) [(.vec b2 e3 (.flt .f32) l4), (.vec b5 e6 (.flt .f32) l7)]))
      else
        (G (laws_r8Equal_4_st b0 (IntKind.wrap .i64 (n1 + (1 : Int))) b2 e3 l4 b5 e6 l7))
    else
      (K (.exit 0) (St.mk (spread 0 26 [0, 1, 4, 5] [(.whole 0), (.whole 1), (.bool b0), (.int .i64 n1)]) [(.vec b2 e3 (.flt .f32) l4), (.vec b5 e6 (.flt .f32) l7)])) := by kernel_rfl

theorem laws_r8Equal_4_ev (φ : Nat) (K : Kont) : ∀ (n : Nat) (b0 : Bool) (n1 : Int) (b2 : Bool) (e3 : Nat) (l4 : (List Nat)) (b5 : Bool) (e6 : Nat) (l7 : (List Nat)), evLoop T (F_33 φ) (evDraw T (F_33 φ)) (Lin_laws_r8Equal_4 φ) 2 (hasN [0, 1, 4, 5]) (loopOf Try.f11 4) n (laws_r8Equal_4_st b0 n1 b2 e3 l4 b5 e6 l7) K = laws_r8Equal_4 φ b0 b2 e3 l4 b5 e6 l7 n n1 (fun n13 => K .ret (St.mk (spread 0 26 [0, 1, 4, 5] [(.whole 0), (.whole 1), (.bool Bool.false), (.int .i64 n13)]) [(.vec b2 e3 (.flt .f32) l4), (.vec b5 e6 (.flt .f32) l7)])) (fun n21 => K (.exit 0) (St.mk (spread 0 26 [0, 1, 4, 5] [(.whole 0), (.whole 1), (.bool b0), (.int .i64 n21)]) [(.vec b2 e3 (.flt .f32) l4), (.vec b5 e6 (.flt .f32) l7)])) := by
  intro n
  induction n with
  | zero => intros; rfl
  | succ n ih =>
    intros
    rw [evLoop_succ, laws_r8Equal_4_step]
    simp only [ih]
    rfl

theorem laws_r8Equal_4_nat (φ : Nat) {ρ σ : Type} (f : ρ → Option σ) : ∀ (n : Nat) (b0 : Bool) (n1 : Int) (b2 : Bool) (e3 : Nat) (l4 : (List Nat)) (b5 : Bool) (e6 : Nat) (l7 : (List Nat)) (k0 : Int → Option ρ) (k1 : Int → Option ρ), (laws_r8Equal_4 φ b0 b2 e3 l4 b5 e6 l7 n n1 k0 k1).bind f = laws_r8Equal_4 φ b0 b2 e3 l4 b5 e6 l7 n n1 (fun n13 => (k0 n13).bind f) (fun n21 => (k1 n21).bind f) := by
  intro n
  induction n with
  | zero => intros; rfl
  | succ n ih =>
    intros
    simp only [laws_r8Equal_4, cond_bind, Option.bind_assoc, Option.bind_none, ih]

theorem laws_r8Equal_4_ok (hT : TOk P T) (φ : Nat) (hF : FOk P (F_33 φ)) (hm : P.follows .mixedOrders = true) : LoopOk P 2 (laws_r8Equal_4_s φ) (loopOf Try.f11 4) := by
  refine LoopOk.of_rounds (D := (evDraw T (F_33 φ))) (L := Lin_laws_r8Equal_4 φ) (keep := (hasN [0, 1, 4, 5])) hT hF (evDraw_ok hT hF hm) (LoopsOk.none 2 (loopOf Try.f11 4)) ?_
  intro st K out h
  unfold laws_r8Equal_4_s at h
  split at h
  · rename_i hq1 hq2
    obtain ⟨h1, h2⟩ := cond_inv h
    rw [Bool.and_eq_true] at h1
    refine ⟨h1.1, φ, ?_⟩
    rw [norm_spread rfl st hq1 hq2 (Nat.eq_of_beq_eq_true h1.2)]
    exact (laws_r8Equal_4_ev φ K φ _ _ _ _ _ _ _ _).trans h2
  cases h

theorem laws_r8Equal_ev (φ : Nat) (b4 : Bool) (e5 : Nat) (l6 : (List Nat)) (b7 : Bool) (e8 : Nat) (l9 : (List Nat)) : evFn T (F_33 φ) (evDraw T (F_33 φ)) (laws_r8Equal_L φ) Try.f11 [(.whole 0), (.whole 1)] [(.vec b4 e5 (.flt .f32) l6), (.vec b7 e8 (.flt .f32) l9)] = laws_r8Equal φ b4 e5 l6 b7 e8 l9 (fun r => some (laws_r8Equal_val r, [(.vec b4 e5 (.flt .f32) l6), (.vec b7 e8 (.flt .f32) l9)])) := by kernel_rfl

theorem laws_r8Equal_nat (φ : Nat) (b4 : Bool) (e5 : Nat) (l6 : (List Nat)) (b7 : Bool) (e8 : Nat) (l9 : (List Nat)) {ρ σ : Type} (k : Bool → Option ρ) (f : ρ → Option σ) : (laws_r8Equal φ b4 e5 l6 b7 e8 l9 k).bind f = laws_r8Equal φ b4 e5 l6 b7 e8 l9 (fun r => (k r).bind f) := by
  simp only [laws_r8Equal, cond_bind, Option.bind_assoc, Option.bind_none, laws_r8Equal_4_nat]

theorem laws_r8Equal_S (φ : Nat) (args : List AV) (h : List Blk) (r : Bool) (hr : S_laws_r8Equal φ args h = some r) : ∃ (b4 : Bool) (e5 : Nat) (l6 : (List Nat)) (b7 : Bool) (e8 : Nat) (l9 : (List Nat)), args = [(.whole 0), (.whole 1)] ∧ h = [(.vec b4 e5 (.flt .f32) l6), (.vec b7 e8 (.flt .f32) l9)] ∧ laws_r8Equal φ b4 e5 l6 b7 e8 l9 some = some r := by
  unfold S_laws_r8Equal at hr
  split at hr
  · exact ⟨_, _, _, _, _, _, rfl, rfl, hr⟩
  · cases hr

theorem laws_r8Equal_ok (hT : TOk P T) (φ : Nat) (hF : FOk P (F_33 φ)) (hm : P.follows .mixedOrders = true) : SumOk P 11 (.rd (S_laws_r8Equal φ) laws_r8Equal_val) := by
  refine rd_ok (fn := Try.f11) (c := bodyOf Try.f11) hT hF (evDraw_ok hT hF hm) (by kernel_rfl) (by kernel_rfl) (by kernel_rfl) ?_
  intro args h r hr
  obtain ⟨b4, e5, l6, b7, e8, l9, rfl, rfl, hq⟩ := laws_r8Equal_S φ args h r hr
  have e := laws_r8Equal_nat φ b4 e5 l6 b7 e8 l9 some (fun r => (some (laws_r8Equal_val r, [(.vec b4 e5 (.flt .f32) l6), (.vec b7 e8 (.flt .f32) l9)]) : Option Out))
  rw [hq] at e
  exact ⟨laws_r8Equal_L φ, (LoopsOk.loop (show apartKeys 4 (loopsOf (bodyOf Try.f11)) = true from by kernel_rfl) (show Nat.blt 4 500000 = true from by kernel_rfl) (show findKey 4 (loopsOf (bodyOf Try.f11)) = some (loopOf Try.f11 4) from by kernel_rfl) (laws_r8Equal_4_ok hT φ hF hm) (LoopsOk.none 2 (bodyOf Try.f11))), (laws_r8Equal_ev φ b4 e5 l6 b7 e8 l9).trans e.symm⟩

/-! ### slices_Clone_float32_float32 -/
theorem slices_Clone_float32_float32_ev (φ : Nat) (b2 : Bool) (e3 : Nat) (l4 : (List Nat)) : evFn T (F_34 φ) (evDraw T (F_34 φ)) (slices_Clone_float32_float32_L φ) Try.f28 [(.whole 0)] [(.vec b2 e3 (.flt .f32) l4)] = slices_Clone_float32_float32 φ b2 e3 l4 (fun r => some ((slices_Clone_float32_float32_val r).1, [(.vec b2 e3 (.flt .f32) l4)] ++ (slices_Clone_float32_float32_val r).2)) := by kernel_rfl

theorem slices_Clone_float32_float32_nat (φ : Nat) (b2 : Bool) (e3 : Nat) (l4 : (List Nat)) {ρ σ : Type} (k : (List Nat) → Option ρ) (f : ρ → Option σ) : (slices_Clone_float32_float32 φ b2 e3 l4 k).bind f = slices_Clone_float32_float32 φ b2 e3 l4 (fun r => (k r).bind f) := by
  simp only [slices_Clone_float32_float32, cond_bind, Option.bind_assoc, Option.bind_none]

theorem slices_Clone_float32_float32_S (φ : Nat) (args : List AV) (h : List Blk) (r : (List Nat)) (hr : S_slices_Clone_float32_float32 φ args h = some r) : ∃ (b2 : Bool) (e3 : Nat) (l4 : (List Nat)), args = [(.whole 0)] ∧ h = [(.vec b2 e3 (.flt .f32) l4)] ∧ slices_Clone_float32_float32 φ b2 e3 l4 some = some r := by
  unfold S_slices_Clone_float32_float32 at hr
  split at hr
  · exact ⟨_, _, _, rfl, rfl, hr⟩
  · cases hr

theorem slices_Clone_float32_float32_ok (hT : TOk P T) (φ : Nat) (hF : FOk P (F_34 φ)) (hm : P.follows .mixedOrders = true) : SumOk P 28 (.mk (S_slices_Clone_float32_float32 φ) slices_Clone_float32_float32_val) := by
  refine mk_ok (fn := Try.f28) (c := bodyOf Try.f28) hT hF (evDraw_ok hT hF hm) (by kernel_rfl) (by kernel_rfl) (by kernel_rfl) ?_
  intro args h r hr
  obtain ⟨b2, e3, l4, rfl, rfl, hq⟩ := slices_Clone_float32_float32_S φ args h r hr
  have e := slices_Clone_float32_float32_nat φ b2 e3 l4 some (fun r => (some ((slices_Clone_float32_float32_val r).1, [(.vec b2 e3 (.flt .f32) l4)] ++ (slices_Clone_float32_float32_val r).2) : Option Out))
  rw [hq] at e
  exact ⟨slices_Clone_float32_float32_L φ, (LoopsOk.none 1 (bodyOf Try.f28)), (slices_Clone_float32_float32_ev φ b2 e3 l4).trans e.symm⟩

/-! ### impl_FlatGather -/
theorem impl_FlatGather_5_step (φ : Nat) (n28 : Int) (n29 : Int) (n30 : Int) (b31 : Bool) (e32 : Nat) (l33 : (List Nat)) (l34 : (List Nat)) (l35 : (List (List Nat))) (n36 : Int) (l37 : (List Nat)) (n38 : Int) (l39 : (List (List Nat))) (G : St → Option Out) (K : Kont) : evCode T (F_35 φ) (evDraw T (F_35 φ)) (Lin_impl_FlatGather_5 φ) (loopOf Try.f12 5) (impl_FlatGather_5_st n28 n29 n30 b31 e32 l33 l34 l35 n36 l37 n38 l39) (round 1 (hasN [0, 4, 6, 27, 28]) G K) =
    bif (decide (n30 < n29)) then
      Option.bind (making n28 4) fun r40 =>
      Option.bind (upto n28 r40) fun r41 =>
      Option.bind (room ((Nat.add (List.length l39) 0) + 1) 24) fun r42 =>
      (G (impl_FlatGather_5_st n28 n29 (IntKind.wrap .i64 (n30 + (1 : Int))) b31 e32 l33 l34 l35 n36 l37 n38 (l39 ++ [(List.replicate r41 0)])))
    else
      (K (.exit 0) (St.mk (spread 0 39 [0, 4, 6, 27, 28] [(.int .i64 n28), (.ptr 3 0), (.ptr 5 0), (.int .i64 n29), (.int .i64 n30)]) [(.vec b31 e32 (.flt .f32) l33), (.vec Bool.true 27 (.flt .f32) l34), (.vec Bool.true 25 (.slice (.flt .f32)) l35), (.cells 36 [(.int .i64 n36), (.whole 1), (.whole 2)]), (.vec Bool.true 27 (.flt .f32) l37), (.cells 36 [(.int .i64 n38), (.whole 4), (.whole 6)]), (.vec Bool.true 25 (.slice (.flt .f32)) l39)])) := by kernel_rfl

theorem impl_FlatGather_5_ev (φ : Nat) (K : Kont) : ∀ (n : Nat) (n28 : Int) (n29 : Int) (n30 : Int) (b31 : Bool) (e32 : Nat) (l33 : (List Nat)) (l34 : (List Nat)) (l35 : (List (List Nat))) (n36 : Int) (l37 : (List Nat)) (n38 : Int) (l39 : (List (List Nat))), evLoop T (F_35 φ) (evDraw T (F_35 φ)) (Lin_impl_FlatGather_5 φ) 1 (hasN [0, 4, 6, 27, 28]) (loopOf Try.f12 5) n (impl_FlatGather_5_st n28 n29 n30 b31 e32 l33 l34 l35 n36 l37 n38 l39) K = impl_FlatGather_5 φ n28 n29 b31 e32 l33 l34 l35 n36 l37 n38 n n30 l39 (fun n45 l54 => K (.exit 0) (St.mk (spread 0 39 [0, 4, 6, 27, 28] [(.int .i64 n28), (.ptr 3 0), (.ptr 5 0), (.int .i64 n29), (.int .i64 n45)]) [(.vec b31 e32 (.flt .f32) l33), (.vec Bool.true 27 (.flt .f32) l34), (.vec Bool.true 25 (.slice (.flt .f32)) l35), (.cells 36 [(.int .i64 n36), (.whole 1), (.whole 2)]), (.vec Bool.true 27 (.flt .f32) l37), (.cells 36 [(.int .i64 n38), (.whole 4), (.whole 6)]), (.vec Bool.true 25 (.slice (.flt .f32)) l54)])) := by
  intro n
  induction n with
  | zero => intros; rfl
  | succ n ih =>
    intros
    rw [evLoop_succ, impl_FlatGather_5_step]
    simp only [ih]
    rfl

theorem impl_FlatGather_5_nat (φ : Nat) {ρ σ : Type} (f : ρ → Option σ) : ∀ (n : Nat) (n28 : Int) (n29 : Int) (n30 : Int) (b31 : Bool) (e32 : Nat) (l33 : (List Nat)) (l34 : (List Nat)) (l35 : (List (List Nat))) (n36 : Int) (l37 : (List Nat)) (n38 : Int) (l39 : (List (List Nat))) (k0 : Int → (List (List Nat)) → Option ρ), (impl_FlatGather_5 φ n28 n29 b31 e32 l33 l34 l35 n36 l37 n38 n n30 l39 k0).bind f = impl_FlatGather_5 φ n28 n29 b31 e32 l33 l34 l35 n36 l37 n38 n n30 l39 (fun n45 l54 => (k0 n45 l54).bind f) := by
  intro n
  induction n with
  | zero => intros; rfl
  | succ n ih =>
    intros
    simp only [impl_FlatGather_5, cond_bind, Option.bind_assoc, Option.bind_none, ih]

theorem impl_FlatGather_5_1_step (φ : Nat) (n13 : Int) (n14 : Int) (n15 : Int) (b16 : Bool) (e17 : Nat) (l18 : (List Nat)) (l19 : (List Nat)) (l20 : (List (List Nat))) (n21 : Int) (l22 : (List Nat)) (l23 : (List (List Nat))) (n24 : Int) (G : St → Option Out) (K : Kont) : evCode T (F_35 φ) (evDraw T (F_35 φ)) (Lin_impl_FlatGather_5 φ) (loopOf Try.f12 5) (impl_FlatGather_5_1_st n13 n14 n15 b16 e17 l18 l19 l20 n21 l22 l23 n24) (round 1 (hasN [0, 4, 6, 27, 28]) G K) =
    bif (decide (n15 < n14)) then
      Option.bind (making n13 4) fun r25 =>
      Option.bind (upto n13 r25) fun r26 =>
      Option.bind (room ((Nat.add (List.length l23) 0) + 1) 24) fun r27 =>
      (G (impl_FlatGather_5_st n13 n14 (IntKind.wrap .i64 (n15 + (1 : Int))) b16 e17 l18 l19 l20 n21 l22 n24 (l23 ++ [(List.replicate r26 0)])))
    else
      (K (.exit 0) (St.mk (spread 0 39 [0, 4, 6, 27, 28] [(.int .i64 n13), (.ptr 3 0), (.ptr 6 0), (.int .i64 n14), (.int .i64 n15)]) [(.vec b16 e17 (.flt .f32) l18), (.vec Bool.true 27 (.flt .f32) l19), (.vec Bool.true 25 (.slice (.flt .f32)) l20), (.cells 36 [(.int .i64 n21), (.whole 1), (.whole 2)]), (.vec Bool.true 27 (.flt .f32) l22), (.vec Bool.true 25 (.slice (.flt .f32)) l23), (.cells 36 [(.int .i64 n24), (.whole 4), (.whole 5)])])) := by kernel_rfl

theorem impl_FlatGather_5_1_ev (φ : Nat) (K : Kont) : ∀ (n : Nat) (n13 : Int) (n14 : Int) (n15 : Int) (b16 : Bool) (e17 : Nat) (l18 : (List Nat)) (l19 : (List Nat)) (l20 : (List (List Nat))) (n21 : Int) (l22 : (List Nat)) (l23 : (List (List Nat))) (n24 : Int), evLoop T (F_35 φ) (evDraw T (F_35 φ)) (Lin_impl_FlatGather_5 φ) 1 (hasN [0, 4, 6, 27, 28]) (loopOf Try.f12 5) n (impl_FlatGather_5_1_st n13 n14 n15 b16 e17 l18 l19 l20 n21 l22 l23 n24) K = impl_FlatGather_5_1 φ n13 n14 n15 b16 e17 l18 l19 l20 n21 l22 l23 n24 n  (fun n59 l68 => K (.exit 0) (St.mk (spread 0 39 [0, 4, 6, 27, 28] [(.int .i64 n13), (.ptr 3 0), (.ptr 5 0), (.int .i64 n14), (.int .i64 n59)]) [(.vec b16 e17 (.flt .f32) l18), (.vec Bool.true 27 (.flt .f32) l19), (.vec Bool.true 25 (.slice (.flt .f32)) l20), (.cells 36 [(.int .i64 n21), (.whole 1), (.whole 2)]), (.vec Bool.true 27 (.flt .f32) l22), (.cells 36 [(.int .i64 n24), (.whole 4), (.whole 6)]), (.vec Bool.true 25 (.slice (.flt .f32)) l68)])) (K (.exit 0) (St.mk (spread 0 39 [0, 4, 6, 27, 28] [(.int .i64 n13), (.ptr 3 0), (.ptr 6 0), (.int .i64 n14), (.int .i64 n15)]) [(.vec b16 e17 (.flt .f32) l18), (.vec Bool.true 27 (.flt .f32) l19), (.vec Bool.true 25 (.slice (.flt .f32)) l20), (.cells 36 [(.int .i64 n21), (.whole 1), (.whole 2)]), (.vec Bool.true 27 (.flt .f32) l22), (.vec Bool.true 25 (.slice (.flt .f32)) l23), (.cells 36 [(.int .i64 n24), (.whole 4), (.whole 5)])])) := by
  intro n
  induction n with
  | zero => intros; rfl
  | succ n ih =>
    intros
    rw [evLoop_succ, impl_FlatGather_5_1_step]
    simp only [ih, impl_FlatGather_5_ev φ K]
    rfl

theorem impl_FlatGather_5_1_nat (φ : Nat) {ρ σ : Type} (f : ρ → Option σ) : ∀ (n : Nat) (n13 : Int) (n14 : Int) (n15 : Int) (b16 : Bool) (e17 : Nat) (l18 : (List Nat)) (l19 : (List Nat)) (l20 : (List (List Nat))) (n21 : Int) (l22 : (List Nat)) (l23 : (List (List Nat))) (n24 : Int) (k0 : Int → (List (List Nat)) → Option ρ) (k1 : Option ρ), (impl_FlatGather_5_1 φ n13 n14 n15 b16 e17 l18 l19 l20 n21 l22 l23 n24 n  k0 k1).bind f = impl_FlatGather_5_1 φ n13 n14 n15 b16 e17 l18 l19 l20 n21 l22 l23 n24 n  (fun n59 l68 => (k0 n59 l68).bind f) (k1.bind f) := by
  intro n
  induction n with
  | zero => intros; rfl
  | succ n ih =>
    intros
    simp only [impl_FlatGather_5_1, cond_bind, Option.bind_assoc, Option.bind_none, ih, impl_FlatGather_5_nat φ f]

theorem impl_FlatGather_5_ok (hT : TOk P T) (φ : Nat) (hF : FOk P (F_35 φ)) (hm : P.follows .mixedOrders = true) : LoopOk P 1 (impl_FlatGather_5_s φ) (loopOf Try.f12 5) := by
  refine LoopOk.of_rounds (D := (evDraw T (F_35 φ))) (L := Lin_impl_FlatGather_5 φ) (keep := (hasN [0, 4, 6, 27, 28])) hT hF (evDraw_ok hT hF hm) (LoopsOk.none 1 (loopOf Try.f12 5)) ?_
  intro st K out h
  unfold impl_FlatGather_5_s at h
  split at h
  · rename_i hq1 hq2
    obtain ⟨h1, h2⟩ := cond_inv h
    rw [Bool.and_eq_true] at h1
    refine ⟨h1.1, φ, ?_⟩
    rw [norm_spread rfl st hq1 hq2 (Nat.eq_of_beq_eq_true h1.2)]
    exact (impl_FlatGather_5_ev φ K φ _ _ _ _ _ _ _ _ _ _ _ _).trans h2
  split at h
  · rename_i hq1 hq2
    obtain ⟨h1, h2⟩ := cond_inv h
    rw [Bool.and_eq_true] at h1
    refine ⟨h1.1, φ, ?_⟩
    rw [norm_spread rfl st hq1 hq2 (Nat.eq_of_beq_eq_true h1.2)]
    exact (impl_FlatGather_5_1_ev φ K φ _ _ _ _ _ _ _ _ _ _ _ _).trans h2
  cases h

theorem impl_FlatGather_c3_ev (φ : Nat) (K : Kont) (n4 : Int) (b5 : Bool) (b6 : Bool) (e7 : Nat) (l8 : (List Nat)) (l9 : (List Nat)) (l10 : (List (List Nat))) (n11 : Int) : evCode T (F_35 φ) (evDraw T (F_35 φ)) (Lin_impl_FlatGather_c3 φ) (tailOf Try.f12 3) (impl_FlatGather_c3_st n4 b5 b6 e7 l8 l9 l10 n11) (once 1 (hasN [0, 1, 4, 5]) K) = impl_FlatGather_c3 φ n4 b5 b6 e7 l8 l9 l10 n11 (fun l89 l90 => K .ret (St.mk (spread 0 39 [0, 4, 5] [(.int .i64 n4), (.ptr 1 0), (.bool Bool.true)]) [(.vec b6 e7 (.flt .f32) l8), (.cells 36 [(.int .i64 n4), (.whole 2), (.whole 3)]), (.vec Bool.true 27 (.flt .f32) l89), (.vec Bool.true 25 (.slice (.flt .f32)) l90)])) := by kernel_rfl

theorem impl_FlatGather_c3_nat (φ : Nat) {ρ σ : Type} (f : ρ → Option σ) (n4 : Int) (b5 : Bool) (b6 : Bool) (e7 : Nat) (l8 : (List Nat)) (l9 : (List Nat)) (l10 : (List (List Nat))) (n11 : Int) (k0 : (List Nat) → (List (List Nat)) → Option ρ) : (impl_FlatGather_c3 φ n4 b5 b6 e7 l8 l9 l10 n11 k0).bind f = impl_FlatGather_c3 φ n4 b5 b6 e7 l8 l9 l10 n11 (fun l89 l90 => (k0 l89 l90).bind f) := by
  simp only [impl_FlatGather_c3, cond_bind, Option.bind_assoc, Option.bind_none, impl_FlatGather_5_1_nat]

theorem impl_FlatGather_c3_ok (hT : TOk P T) (φ : Nat) (hF : FOk P (F_35 φ)) (hm : P.follows .mixedOrders = true) : CodeOk P 1 (impl_FlatGather_c3_s φ) (tailOf Try.f12 3) := by
  refine CodeOk.of_once (D := (evDraw T (F_35 φ))) (L := Lin_impl_FlatGather_c3 φ) (keep := (hasN [0, 1, 4, 5])) hT hF (evDraw_ok hT hF hm) (LoopsOk.loop (show apartKeys 5 (loopsOf (tailOf Try.f12 3)) = true from by kernel_rfl) (show Nat.blt 5 500000 = true from by kernel_rfl) (show findKey 5 (loopsOf (tailOf Try.f12 3)) = some (loopOf Try.f12 5) from by kernel_rfl) (impl_FlatGather_5_ok hT φ hF hm) (LoopsOk.none 1 (tailOf Try.f12 3))) ?_
  intro st K out h
  unfold impl_FlatGather_c3_s at h
  split at h
  · rename_i hq1 hq2
    obtain ⟨h1, h2⟩ := cond_inv h
    rw [Bool.and_eq_true] at h1
    refine ⟨h1.1, ?_⟩
    rw [norm_spread rfl st hq1 hq2 (Nat.eq_of_beq_eq_true h1.2)]
    exact (impl_FlatGather_c3_ev φ K _ _ _ _ _ _ _ _).trans h2
  cases h

theorem impl_FlatGather_ev (φ : Nat) (n2 : Int) (b3 : Bool) (e4 : Nat) (l5 : (List Nat)) : evFn T (F_35 φ) (evDraw T (F_35 φ)) (impl_FlatGather_L φ) Try.f12 [(.int .i64 n2), (.whole 0)] [(.vec b3 e4 (.flt .f32) l5)] = impl_FlatGather φ n2 b3 e4 l5 (fun r => some ((impl_FlatGather_val r).1, [(.vec b3 e4 (.flt .f32) l5)] ++ (impl_FlatGather_val r).2)) := by kernel_rfl

theorem impl_FlatGather_nat (φ : Nat) (n2 : Int) (b3 : Bool) (e4 : Nat) (l5 : (List Nat)) {ρ σ : Type} (k : (Int × Bool × (List Nat) × (List (List Nat))) → Option ρ) (f : ρ → Option σ) : (impl_FlatGather φ n2 b3 e4 l5 k).bind f = impl_FlatGather φ n2 b3 e4 l5 (fun r => (k r).bind f) := by
  simp only [impl_FlatGather, cond_bind, Option.bind_assoc, Option.bind_none, impl_FlatGather_5_nat, impl_FlatGather_5_1_nat, impl_FlatGather_c3_nat]

theorem impl_FlatGather_S (φ : Nat) (args : List AV) (h : List Blk) (r : (Int × Bool × (List Nat) × (List (List Nat)))) (hr : S_impl_FlatGather φ args h = some r) : ∃ (n2 : Int) (b3 : Bool) (e4 : Nat) (l5 : (List Nat)), args = [(.int .i64 n2), (.whole 0)] ∧ h = [(.vec b3 e4 (.flt .f32) l5)] ∧ impl_FlatGather φ n2 b3 e4 l5 some = some r := by
  unfold S_impl_FlatGather at hr
  split at hr
  · exact ⟨_, _, _, _, rfl, rfl, hr⟩
  · cases hr

theorem impl_FlatGather_ok (hT : TOk P T) (φ : Nat) (hF : FOk P (F_35 φ)) (hm : P.follows .mixedOrders = true) : SumOk P 12 (.mk (S_impl_FlatGather φ) impl_FlatGather_val) := by
  have uk : (loopsOf (bodyOf Try.f12)).all (fun x => Nat.blt (key x) 500000) = true := by kernel_rfl
  refine mk_ok (fn := Try.f12) (c := bodyOf Try.f12) hT hF (evDraw_ok hT hF hm) (by kernel_rfl) (by kernel_rfl) (by kernel_rfl) ?_
  intro args h r hr
  obtain ⟨n2, b3, e4, l5, rfl, rfl, hq⟩ := impl_FlatGather_S φ args h r hr
  have e := impl_FlatGather_nat φ n2 b3 e4 l5 some (fun r => (some ((impl_FlatGather_val r).1, [(.vec b3 e4 (.flt .f32) l5)] ++ (impl_FlatGather_val r).2) : Option Out))
  rw [hq] at e
  exact ⟨impl_FlatGather_L φ, (LoopsOk.cut (show apartKeys 3 (tailsOf (bodyOf Try.f12)) = true from by kernel_rfl) uk (show findKey 3 (tailsOf (bodyOf Try.f12)) = some (tailOf Try.f12 3) from by kernel_rfl) (impl_FlatGather_c3_ok hT φ hF hm) (LoopsOk.none 1 (bodyOf Try.f12))), (impl_FlatGather_ev φ n2 b3 e4 l5).trans e.symm⟩

/-! ### impl_ValidGather_1 -/
theorem impl_ValidGather_1_ev (φ : Nat) (b6 : Bool) (e7 : Nat) (l8 : (List Nat)) (n9 : Int) (b10 : Bool) (e11 : Nat) (l12 : (List Nat)) (b13 : Bool) (e14 : Nat) (l15 : (List (List Nat))) : evFn T (F_36 φ) (evDraw T (F_36 φ)) (impl_ValidGather_1_L φ) Try.f35 [(.whole 0), (.ptr 1 0)] [(.vec b6 e7 (.flt .f32) l8), (.cells 36 [(.int .i64 n9), (.whole 2), (.whole 3)]), (.vec b10 e11 (.flt .f32) l12), (.vec b13 e14 (.slice (.flt .f32)) l15)] = impl_ValidGather_1 φ b6 e7 l8 n9 b10 e11 l12 b13 e14 l15 (fun r => some (impl_ValidGather_1_val [(.whole 0), (.ptr 1 0)] [(.vec b6 e7 (.flt .f32) l8), (.cells 36 [(.int .i64 n9), (.whole 2), (.whole 3)]), (.vec b10 e11 (.flt .f32) l12), (.vec b13 e14 (.slice (.flt .f32)) l15)] r)) := by kernel_rfl

theorem impl_ValidGather_1_nat (φ : Nat) (b6 : Bool) (e7 : Nat) (l8 : (List Nat)) (n9 : Int) (b10 : Bool) (e11 : Nat) (l12 : (List Nat)) (b13 : Bool) (e14 : Nat) (l15 : (List (List Nat))) {ρ σ : Type} (k : Bool → Option ρ) (f : ρ → Option σ) : (impl_ValidGather_1 φ b6 e7 l8 n9 b10 e11 l12 b13 e14 l15 k).bind f = impl_ValidGather_1 φ b6 e7 l8 n9 b10 e11 l12 b13 e14 l15 (fun r => (k r).bind f) := by
  simp only [impl_ValidGather_1, cond_bind, Option.bind_assoc, Option.bind_none]

theorem impl_ValidGather_1_S (φ : Nat) (args : List AV) (h : List Blk) (r : Bool) (hr : S_impl_ValidGather_1 φ args h = some r) : ∃ (b6 : Bool) (e7 : Nat) (l8 : (List Nat)) (n9 : Int) (b10 : Bool) (e11 : Nat) (l12 : (List Nat)) (b13 : Bool) (e14 : Nat) (l15 : (List (List Nat))), args = [(.whole 0), (.ptr 1 0)] ∧ h = [(.vec b6 e7 (.flt .f32) l8), (.cells 36 [(.int .i64 n9), (.whole 2), (.whole 3)]), (.vec b10 e11 (.flt .f32) l12), (.vec b13 e14 (.slice (.flt .f32)) l15)] ∧ impl_ValidGather_1 φ b6 e7 l8 n9 b10 e11 l12 b13 e14 l15 some = some r := by
  unfold S_impl_ValidGather_1 at hr
  split at hr
  · exact ⟨_, _, _, _, _, _, _, _, _, _, rfl, rfl, hr⟩
  · cases hr

theorem impl_ValidGather_1_ok (hT : TOk P T) (φ : Nat) (hF : FOk P (F_36 φ)) (hm : P.follows .mixedOrders = true) : SumOk P 35 (.wr (S_impl_ValidGather_1 φ) impl_ValidGather_1_val) := by
  refine wr_ok (fn := Try.f35) (c := bodyOf Try.f35) hT hF (evDraw_ok hT hF hm) (by kernel_rfl) (by kernel_rfl) (by kernel_rfl) ?_
  intro args h r hr
  obtain ⟨b6, e7, l8, n9, b10, e11, l12, b13, e14, l15, rfl, rfl, hq⟩ := impl_ValidGather_1_S φ args h r hr
  have e := impl_ValidGather_1_nat φ b6 e7 l8 n9 b10 e11 l12 b13 e14 l15 some (fun r => (some (impl_ValidGather_1_val [(.whole 0), (.ptr 1 0)] [(.vec b6 e7 (.flt .f32) l8), (.cells 36 [(.int .i64 n9), (.whole 2), (.whole 3)]), (.vec b10 e11 (.flt .f32) l12), (.vec b13 e14 (.slice (.flt .f32)) l15)] r) : Option Out))
  rw [hq] at e
  refine ⟨Nat.le_of_ble_eq_true rfl, ?_⟩
  exact ⟨impl_ValidGather_1_L φ, (LoopsOk.none 4 (bodyOf Try.f35)), (impl_ValidGather_1_ev φ b6 e7 l8 n9 b10 e11 l12 b13 e14 l15).trans e.symm⟩

/-! ### slices_IndexFunc_float32_float32_v2 -/
theorem slices_IndexFunc_float32_float32_v2_2_step (φ : Nat) (n0 : Int) (n1 : Int) (n2 : Int) (b3 : Bool) (e4 : Nat) (l5 : (List (List Nat))) (n6 : Int) (b7 : Bool) (e8 : Nat) (l9 : (List Nat)) (G : St → Option Out) (K : Kont) : evCode T (F_37 φ) (evDraw T (F_37 φ)) (Lin_slices_IndexFunc_float32_float32_v2_2 φ) (loopOf Try.f45 2) (slices_IndexFunc_float32_float32_v2_2_st n0 n1 n2 b3 e4 l5 n6 b7 e8 l9) (round 3 (hasN [0, 1, 4, 7, 8]) G K) =
    bif (decide (n2 < n1)) then
      Option.bind (idx n2 (List.length l5)) fun r10 =>
      Option.bind (l5[r10]?) fun r11 =>
      Option.bind (impl_ValidGather_1 φ Bool.false 0 r11 n6 b7 e8 l9 b3 e4 l5 some) fun r12 =>
      bif r12 then
        (K .ret (St.mk (spread 0 19 [0, 1, 4, 7, 8] [(.whole 0), (.fn 35 [] [(.ptr 1 0)]), (.int .i64 n2), (.int .i64 n1), (.int .i64 n2)]) [(.vec b3 e4 (.slice (.flt .f32)) l5), (.cells 36 [(.int .i64 n6), (.whole 2), (.whole 0)]), (.vec b7 e8 (.flt .f32) l9)]))
      else
        (G (slices_IndexFunc_float32_float32_v2_2_st n0 n1 (IntKind.wrap .i64 (n2 + (1 : Int))) b3 e4 l5 n6 b7 e8 l9))
    else
      (K (.exit 0) (St.mk (spread 0 19 [0, 1, 4, 7, 8] [(.whole 0), (.fn 35 [] [(.ptr 1 0)]), (.int .i64 n0), (.int .i64 n1), (.int .i64 n2)]) [(.vec b3 e4 (.slice (.flt .f32)) l5), (.cells 36 [(.int .i64 n6), (.whole 2), (.whole 0)]), (.vec b7 e8 (.flt .f32) l9)])) := by kernel_rfl

theorem slices_IndexFunc_float32_float32_v2_2_ev (φ : Nat) (K : Kont) : ∀ (n : Nat) (n0 : Int) (n1 : Int) (n2 : Int) (b3 : Bool) (e4 : Nat) (l5 : (List (List Nat))) (n6 : Int) (b7 : Bool) (e8 : Nat) (l9 : (List Nat)), evLoop T (F_37 φ) (evDraw T (F_37 φ)) (Lin_slices_IndexFunc_float32_float32_v2_2 φ) 3 (hasN [0, 1, 4, 7, 8]) (loopOf Try.f45 2) n (slices_IndexFunc_float32_float32_v2_2_st n0 n1 n2 b3 e4 l5 n6 b7 e8 l9) K = slices_IndexFunc_float32_float32_v2_2 φ n0 n1 b3 e4 l5 n6 b7 e8 l9 n n2 (fun n13 n15 => K .ret (St.mk (spread 0 19 [0, 1, 4, 7, 8] [(.whole 0), (.fn 35 [] [(.ptr 1 0)]), (.int .i64 n13), (.int .i64 n1), (.int .i64 n15)]) [(.vec b3 e4 (.slice (.flt .f32)) l5), (.cells 36 [(.int .i64 n6), (.whole 2), (.whole 0)]), (.vec b7 e8 (.flt .f32) l9)])) (fun n25 => K (.exit 0) (St.mk (spread 0 19 [0, 1, 4, 7, 8] [(.whole 0), (.fn 35 [] [(.ptr 1 0)]), (.int .i64 n0), (.int .i64 n1), (.int .i64 n25)]) [(.vec b3 e4 (.slice (.flt .f32)) l5), (.cells 36 [(.int .i64 n6), (.whole 2), (.whole 0)]), (.vec b7 e8 (.flt .f32) l9)])) := by
  intro n
  induction n with
  | zero => intros; rfl
  | succ n ih =>
    intros
    rw [evLoop_succ, slices_IndexFunc_float32_float32_v2_2_step]
    simp only [ih]
    rfl

theorem slices_IndexFunc_float32_float32_v2_2_nat (φ : Nat) {ρ σ : Type} (f : ρ → Option σ) : ∀ (n : Nat) (n0 : Int) (n1 : Int) (n2 : Int) (b3 : Bool) (e4 : Nat) (l5 : (List (List Nat))) (n6 : Int) (b7 : Bool) (e8 : Nat) (l9 : (List Nat)) (k0 : Int → Int → Option ρ) (k1 : Int → Option ρ), (slices_IndexFunc_float32_float32_v2_2 φ n0 n1 b3 e4 l5 n6 b7 e8 l9 n n2 k0 k1).bind f = slices_IndexFunc_float32_float32_v2_2 φ n0 n1 b3 e4 l5 n6 b7 e8 l9 n n2 (fun n13 n15 => (k0 n13 n15).bind f) (fun n25 => (k1 n25).bind f) := by
  intro n
  induction n with
  | zero => intros; rfl
  | succ n ih =>
    intros
    simp only [slices_IndexFunc_float32_float32_v2_2, cond_bind, Option.bind_assoc, Option.bind_none, ih]

theorem slices_IndexFunc_float32_float32_v2_2_ok (hT : TOk P T) (φ : Nat) (hF : FOk P (F_37 φ)) (hm : P.follows .mixedOrders = true) : LoopOk P 3 (slices_IndexFunc_float32_float32_v2_2_s φ) (loopOf Try.f45 2) := by
  refine LoopOk.of_rounds (D := (evDraw T (F_37 φ))) (L := Lin_slices_IndexFunc_float32_float32_v2_2 φ) (keep := (hasN [0, 1, 4, 7, 8])) hT hF (evDraw_ok hT hF hm) (LoopsOk.none 3 (loopOf Try.f45 2)) ?_
  intro st K out h
  unfold slices_IndexFunc_float32_float32_v2_2_s at h
  split at h
  · rename_i hq1 hq2
    obtain ⟨h1, h2⟩ := cond_inv h
    rw [Bool.and_eq_true] at h1
    refine ⟨h1.1, φ, ?_⟩
    rw [norm_spread rfl st hq1 hq2 (Nat.eq_of_beq_eq_true h1.2)]
    exact (slices_IndexFunc_float32_float32_v2_2_ev φ K φ _ _ _ _ _ _ _ _ _ _).trans h2
  cases h

theorem slices_IndexFunc_float32_float32_v2_ev (φ : Nat) (b4 : Bool) (e5 : Nat) (l6 : (List (List Nat))) (n7 : Int) (b8 : Bool) (e9 : Nat) (l10 : (List Nat)) : evFn T (F_37 φ) (evDraw T (F_37 φ)) (slices_IndexFunc_float32_float32_v2_L φ) Try.f45 [(.whole 0), (.fn 35 [] [(.ptr 1 0)])] [(.vec b4 e5 (.slice (.flt .f32)) l6), (.cells 36 [(.int .i64 n7), (.whole 2), (.whole 0)]), (.vec b8 e9 (.flt .f32) l10)] = slices_IndexFunc_float32_float32_v2 φ b4 e5 l6 n7 b8 e9 l10 (fun r => some (slices_IndexFunc_float32_float32_v2_val [(.whole 0), (.fn 35 [] [(.ptr 1 0)])] [(.vec b4 e5 (.slice (.flt .f32)) l6), (.cells 36 [(.int .i64 n7), (.whole 2), (.whole 0)]), (.vec b8 e9 (.flt .f32) l10)] r)) := by kernel_rfl

theorem slices_IndexFunc_float32_float32_v2_nat (φ : Nat) (b4 : Bool) (e5 : Nat) (l6 : (List (List Nat))) (n7 : Int) (b8 : Bool) (e9 : Nat) (l10 : (List Nat)) {ρ σ : Type} (k : Int → Option ρ) (f : ρ → Option σ) : (slices_IndexFunc_float32_float32_v2 φ b4 e5 l6 n7 b8 e9 l10 k).bind f = slices_IndexFunc_float32_float32_v2 φ b4 e5 l6 n7 b8 e9 l10 (fun r => (k r).bind f) := by
  simp only [slices_IndexFunc_float32_float32_v2, cond_bind, Option.bind_assoc, Option.bind_none, slices_IndexFunc_float32_float32_v2_2_nat]

theorem slices_IndexFunc_float32_float32_v2_S (φ : Nat) (args : List AV) (h : List Blk) (r : Int) (hr : S_slices_IndexFunc_float32_float32_v2 φ args h = some r) : ∃ (b4 : Bool) (e5 : Nat) (l6 : (List (List Nat))) (n7 : Int) (b8 : Bool) (e9 : Nat) (l10 : (List Nat)), args = [(.whole 0), (.fn 35 [] [(.ptr 1 0)])] ∧ h = [(.vec b4 e5 (.slice (.flt .f32)) l6), (.cells 36 [(.int .i64 n7), (.whole 2), (.whole 0)]), (.vec b8 e9 (.flt .f32) l10)] ∧ slices_IndexFunc_float32_float32_v2 φ b4 e5 l6 n7 b8 e9 l10 some = some r := by
  unfold S_slices_IndexFunc_float32_float32_v2 at hr
  split at hr
  · exact ⟨_, _, _, _, _, _, _, rfl, rfl, hr⟩
  · cases hr

theorem slices_IndexFunc_float32_float32_v2_ok (hT : TOk P T) (φ : Nat) (hF : FOk P (F_37 φ)) (hm : P.follows .mixedOrders = true) : SumOk P 45 (.wr (S_slices_IndexFunc_float32_float32_v2 φ) slices_IndexFunc_float32_float32_v2_val) := by
  refine wr_ok (fn := Try.f45) (c := bodyOf Try.f45) hT hF (evDraw_ok hT hF hm) (by kernel_rfl) (by kernel_rfl) (by kernel_rfl) ?_
  intro args h r hr
  obtain ⟨b4, e5, l6, n7, b8, e9, l10, rfl, rfl, hq⟩ := slices_IndexFunc_float32_float32_v2_S φ args h r hr
  have e := slices_IndexFunc_float32_float32_v2_nat φ b4 e5 l6 n7 b8 e9 l10 some (fun r => (some (slices_IndexFunc_float32_float32_v2_val [(.whole 0), (.fn 35 [] [(.ptr 1 0)])] [(.vec b4 e5 (.slice (.flt .f32)) l6), (.cells 36 [(.int .i64 n7), (.whole 2), (.whole 0)]), (.vec b8 e9 (.flt .f32) l10)] r) : Option Out))
  rw [hq] at e
  refine ⟨Nat.le_of_ble_eq_true rfl, ?_⟩
  exact ⟨slices_IndexFunc_float32_float32_v2_L φ, (LoopsOk.loop (show apartKeys 2 (loopsOf (bodyOf Try.f45)) = true from by kernel_rfl) (show Nat.blt 2 500000 = true from by kernel_rfl) (show findKey 2 (loopsOf (bodyOf Try.f45)) = some (loopOf Try.f45 2) from by kernel_rfl) (slices_IndexFunc_float32_float32_v2_2_ok hT φ hF hm) (LoopsOk.none 3 (bodyOf Try.f45))), (slices_IndexFunc_float32_float32_v2_ev φ b4 e5 l6 n7 b8 e9 l10).trans e.symm⟩

/-! ### slices_ContainsFunc_float32_float32_v2 -/
theorem slices_ContainsFunc_float32_float32_v2_ev (φ : Nat) (b4 : Bool) (e5 : Nat) (l6 : (List (List Nat))) (n7 : Int) (b8 : Bool) (e9 : Nat) (l10 : (List Nat)) : evFn T (F_38 φ) (evDraw T (F_38 φ)) (slices_ContainsFunc_float32_float32_v2_L φ) Try.f34 [(.whole 0), (.fn 35 [] [(.ptr 1 0)])] [(.vec b4 e5 (.slice (.flt .f32)) l6), (.cells 36 [(.int .i64 n7), (.whole 2), (.whole 0)]), (.vec b8 e9 (.flt .f32) l10)] = slices_ContainsFunc_float32_float32_v2 φ b4 e5 l6 n7 b8 e9 l10 (fun r => some (slices_ContainsFunc_float32_float32_v2_val [(.whole 0), (.fn 35 [] [(.ptr 1 0)])] [(.vec b4 e5 (.slice (.flt .f32)) l6), (.cells 36 [(.int .i64 n7), (.whole 2), (.whole 0)]), (.vec b8 e9 (.flt .f32) l10)] r)) := by kernel_rfl

theorem slices_ContainsFunc_float32_float32_v2_nat (φ : Nat) (b4 : Bool) (e5 : Nat) (l6 : (List (List Nat))) (n7 : Int) (b8 : Bool) (e9 : Nat) (l10 : (List Nat)) {ρ σ : Type} (k : Bool → Option ρ) (f : ρ → Option σ) : (slices_ContainsFunc_float32_float32_v2 φ b4 e5 l6 n7 b8 e9 l10 k).bind f = slices_ContainsFunc_float32_float32_v2 φ b4 e5 l6 n7 b8 e9 l10 (fun r => (k r).bind f) := by
  simp only [slices_ContainsFunc_float32_float32_v2, cond_bind, Option.bind_assoc, Option.bind_none]

theorem slices_ContainsFunc_float32_float32_v2_S (φ : Nat) (args : List AV) (h : List Blk) (r : Bool) (hr : S_slices_ContainsFunc_float32_float32_v2 φ args h = some r) : ∃ (b4 : Bool) (e5 : Nat) (l6 : (List (List Nat))) (n7 : Int) (b8 : Bool) (e9 : Nat) (l10 : (List Nat)), args = [(.whole 0), (.fn 35 [] [(.ptr 1 0)])] ∧ h = [(.vec b4 e5 (.slice (.flt .f32)) l6), (.cells 36 [(.int .i64 n7), (.whole 2), (.whole 0)]), (.vec b8 e9 (.flt .f32) l10)] ∧ slices_ContainsFunc_float32_float32_v2 φ b4 e5 l6 n7 b8 e9 l10 some = some r := by
  unfold S_slices_ContainsFunc_float32_float32_v2 at hr
  split at hr
  · exact ⟨_, _, _, _, _, _, _, rfl, rfl, hr⟩
  · cases hr

theorem slices_ContainsFunc_float32_float32_v2_ok (hT : TOk P T) (φ : Nat) (hF : FOk P (F_38 φ)) (hm : P.follows .mixedOrders = true) : SumOk P 34 (.wr (S_slices_ContainsFunc_float32_float32_v2 φ) slices_ContainsFunc_float32_float32_v2_val) := by
  refine wr_ok (fn := Try.f34) (c := bodyOf Try.f34) hT hF (evDraw_ok hT hF hm) (by kernel_rfl) (by kernel_rfl) (by kernel_rfl) ?_
  intro args h r hr
  obtain ⟨b4, e5, l6, n7, b8, e9, l10, rfl, rfl, hq⟩ := slices_ContainsFunc_float32_float32_v2_S φ args h r hr
  have e := slices_ContainsFunc_float32_float32_v2_nat φ b4 e5 l6 n7 b8 e9 l10 some (fun r => (some (slices_ContainsFunc_float32_float32_v2_val [(.whole 0), (.fn 35 [] [(.ptr 1 0)])] [(.vec b4 e5 (.slice (.flt .f32)) l6), (.cells 36 [(.int .i64 n7), (.whole 2), (.whole 0)]), (.vec b8 e9 (.flt .f32) l10)] r) : Option Out))
  rw [hq] at e
  refine ⟨Nat.le_of_ble_eq_true rfl, ?_⟩
  exact ⟨slices_ContainsFunc_float32_float32_v2_L φ, (LoopsOk.none 3 (bodyOf Try.f34)), (slices_ContainsFunc_float32_float32_v2_ev φ b4 e5 l6 n7 b8 e9 l10).trans e.symm⟩

end
end Go.Proofs.Ytcddghcjllgbiaa

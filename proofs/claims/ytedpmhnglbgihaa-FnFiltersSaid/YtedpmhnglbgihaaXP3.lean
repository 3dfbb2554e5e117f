/-
  That they do so: function by function.
-/
import Derived.Test.YtedpmhnglbgihaaXD1
set_option linter.all false
set_option maxRecDepth 100000
set_option maxHeartbeats 4000000
namespace Go.Proofs.Ytedpmhnglbgihaa
open Go.Ev
noncomputable section

/-! ### impl_NotchTrace -/
theorem impl_NotchTrace_6_step (φ : Nat) (x9 : Nat) (n10 : Int) (n11 : Int) (b12 : Bool) (e13 : Nat) (l14 : (List Nat)) (l15 : (List Nat)) (G : St → Option Out) (K : Kont) : evCode T (F_36 φ) (evDraw T (F_36 φ)) (Lin_impl_NotchTrace_6 φ) (loopOf Try.f15 6) (impl_NotchTrace_6_st x9 n10 n11 b12 e13 l14 l15) (round 1 (hasN [0, 6, 7, 23, 24, 25]) G K) =
    bif (decide (n11 < n10)) then
      Option.bind (idx n11 (List.length l14)) fun r16 =>
      Option.bind (l14[r16]?) fun r17 =>
      Option.bind (impl_at φ (IntKind.wrap .i64 (n11 - (1 : Int))) b12 e13 l14 some) fun r18 =>
      Option.bind (impl_at φ (IntKind.wrap .i64 (n11 - (2 : Int))) b12 e13 l14 some) fun r19 =>
      Option.bind (room ((Nat.add (List.length l15) 0) + 1) 4) fun r20 =>
      (G (impl_NotchTrace_6_st x9 n10 (IntKind.wrap .i64 (n11 + (1 : Int))) b12 e13 l14 (l15 ++ [(fadd .f32 (fsub .f32 r17 (fmul .f32 x9 r18)) r19)])))
    else
      (K (.exit 0) (St.mk (spread 0 49 [0, 6, 7, 23, 24, 25] [(.whole 0), (.flt .f32 x9), (.whole 1), (.whole 0), (.int .i64 n10), (.int .i64 n11)]) [(.vec b12 e13 (.flt .f32) l14), (.vec Bool.true 34 (.flt .f32) l15)])) := by kernel_rfl

theorem impl_NotchTrace_6_ev (φ : Nat) (K : Kont) : ∀ (n : Nat) (x9 : Nat) (n10 : Int) (n11 : Int) (b12 : Bool) (e13 : Nat) (l14 : (List Nat)) (l15 : (List Nat)), evLoop T (F_36 φ) (evDraw T (F_36 φ)) (Lin_impl_NotchTrace_6 φ) 1 (hasN [0, 6, 7, 23, 24, 25]) (loopOf Try.f15 6) n (impl_NotchTrace_6_st x9 n10 n11 b12 e13 l14 l15) K = impl_NotchTrace_6 φ x9 n10 b12 e13 l14 n n11 l15 (fun n23 l27 => K (.exit 0) (St.mk (spread 0 49 [0, 6, 7, 23, 24, 25] [(.whole 0), (.flt .f32 x9), (.whole 1), (.whole 0), (.int .i64 n10), (.int .i64 n23)]) [(.vec b12 e13 (.flt .f32) l14), (.vec Bool.true 34 (.flt .f32) l27)])) := by
  intro n
  induction n with
  | zero => intros; rfl
  | succ n ih =>
    intros
    rw [evLoop_succ, impl_NotchTrace_6_step]
    simp only [ih]
    rfl

theorem impl_NotchTrace_6_nat (φ : Nat) {ρ σ : Type} (f : ρ → Option σ) : ∀ (n : Nat) (x9 : Nat) (n10 : Int) (n11 : Int) (b12 : Bool) (e13 : Nat) (l14 : (List Nat)) (l15 : (List Nat)) (k0 : Int → (List Nat) → Option ρ), (impl_NotchTrace_6 φ x9 n10 b12 e13 l14 n n11 l15 k0).bind f = impl_NotchTrace_6 φ x9 n10 b12 e13 l14 n n11 l15 (fun n23 l27 => (k0 n23 l27).bind f) := by
  intro n
  induction n with
  | zero => intros; rfl
  | succ n ih =>
    intros
    simp only [impl_NotchTrace_6, cond_bind, Option.bind_assoc, Option.bind_none, ih]

theorem impl_NotchTrace_6_ok (hT : TOk P T) (φ : Nat) (hF : FOk P (F_36 φ)) (hm : P.follows .mixedOrders = true) : LoopOk P 1 (impl_NotchTrace_6_s φ) (loopOf Try.f15 6) := by
  refine LoopOk.of_rounds (D := (evDraw T (F_36 φ))) (L := Lin_impl_NotchTrace_6 φ) (keep := (hasN [0, 6, 7, 23, 24, 25])) hT hF (evDraw_ok hT hF hm) (LoopsOk.none 1 (loopOf Try.f15 6)) ?_
  intro st K out h
  unfold impl_NotchTrace_6_s at h
  split at h
  · rename_i hq1 hq2
    obtain ⟨h1, h2⟩ := cond_inv h
    rw [Bool.and_eq_true] at h1
    refine ⟨h1.1, φ, ?_⟩
    rw [norm_spread rfl st hq1 hq2 (Nat.eq_of_beq_eq_true h1.2)]
    exact (impl_NotchTrace_6_ev φ K φ _ _ _ _ _ _ _).trans h2
  · cases h

theorem impl_NotchTrace_c3_ev (φ : Nat) (K : Kont) (x2 : Nat) (b3 : Bool) (b4 : Bool) (e5 : Nat) (l6 : (List Nat)) (l7 : (List Nat)) : evCode T (F_36 φ) (evDraw T (F_36 φ)) (Lin_impl_NotchTrace_c3 φ) (tailOf Try.f15 3) (impl_NotchTrace_c3_st x2 b3 b4 e5 l6 l7) (once 1 (hasN [0, 1, 4, 5]) K) = impl_NotchTrace_c3 φ x2 b3 b4 e5 l6 l7 (fun l34 => K .ret (St.mk (spread 0 49 [0, 4, 5] [(.whole 0), (.whole 1), (.bool Bool.true)]) [(.vec b4 e5 (.flt .f32) l6), (.vec Bool.true 34 (.flt .f32) l34)])) := by kernel_rfl

theorem impl_NotchTrace_c3_nat (φ : Nat) {ρ σ : Type} (f : ρ → Option σ) (x2 : Nat) (b3 : Bool) (b4 : Bool) (e5 : Nat) (l6 : (List Nat)) (l7 : (List Nat)) (k0 : (List Nat) → Option ρ) : (impl_NotchTrace_c3 φ x2 b3 b4 e5 l6 l7 k0).bind f = impl_NotchTrace_c3 φ x2 b3 b4 e5 l6 l7 (fun l34 => (k0 l34).bind f) := by
  simp only [impl_NotchTrace_c3, cond_bind, Option.bind_assoc, Option.bind_none, impl_NotchTrace_6_nat]

theorem impl_NotchTrace_c3_ok (hT : TOk P T) (φ : Nat) (hF : FOk P (F_36 φ)) (hm : P.follows .mixedOrders = true) : CodeOk P 1 (impl_NotchTrace_c3_s φ) (tailOf Try.f15 3) := by
  refine CodeOk.of_once (D := (evDraw T (F_36 φ))) (L := Lin_impl_NotchTrace_c3 φ) (keep := (hasN [0, 1, 4, 5])) hT hF (evDraw_ok hT hF hm) (LoopsOk.loop (show apartKeys 6 (loopsOf (tailOf Try.f15 3)) = true from by kernel_rfl) (show Nat.blt 6 500000 = true from by kernel_rfl) (show findKey 6 (loopsOf (tailOf Try.f15 3)) = some (loopOf Try.f15 6) from by kernel_rfl) (impl_NotchTrace_6_ok hT φ hF hm) (LoopsOk.none 1 (tailOf Try.f15 3))) ?_
  intro st K out h
  unfold impl_NotchTrace_c3_s at h
  split at h
  · rename_i hq1 hq2
    obtain ⟨h1, h2⟩ := cond_inv h
    rw [Bool.and_eq_true] at h1
    refine ⟨h1.1, ?_⟩
    rw [norm_spread rfl st hq1 hq2 (Nat.eq_of_beq_eq_true h1.2)]
    exact (impl_NotchTrace_c3_ev φ K _ _ _ _ _ _).trans h2
  · cases h

theorem impl_NotchTrace_ev (φ : Nat) (x2 : Nat) (b3 : Bool) (e4 : Nat) (l5 : (List Nat)) : evFn T (F_36 φ) (evDraw T (F_36 φ)) (impl_NotchTrace_L φ) Try.f15 [(.whole 0), (.flt .f32 x2)] [(.vec b3 e4 (.flt .f32) l5)] = impl_NotchTrace φ x2 b3 e4 l5 (fun r => some ((impl_NotchTrace_val r).1, [(.vec b3 e4 (.flt .f32) l5)] ++ (impl_NotchTrace_val r).2)) := by kernel_rfl

theorem impl_NotchTrace_nat (φ : Nat) (x2 : Nat) (b3 : Bool) (e4 : Nat) (l5 : (List Nat)) {ρ σ : Type} (k : (Bool × (List Nat)) → Option ρ) (f : ρ → Option σ) : (impl_NotchTrace φ x2 b3 e4 l5 k).bind f = impl_NotchTrace φ x2 b3 e4 l5 (fun r => (k r).bind f) := by
  simp only [impl_NotchTrace, cond_bind, Option.bind_assoc, Option.bind_none, impl_NotchTrace_6_nat, impl_NotchTrace_c3_nat]

theorem impl_NotchTrace_S (φ : Nat) (args : List AV) (h : List Blk) (r : (Bool × (List Nat))) (hr : S_impl_NotchTrace φ args h = some r) : ∃ (x2 : Nat) (b3 : Bool) (e4 : Nat) (l5 : (List Nat)), args = [(.whole 0), (.flt .f32 x2)] ∧ h = [(.vec b3 e4 (.flt .f32) l5)] ∧ impl_NotchTrace φ x2 b3 e4 l5 some = some r := by
  unfold S_impl_NotchTrace at hr
  split at hr
  · exact ⟨_, _, _, _, rfl, rfl, hr⟩
  · cases hr

theorem impl_NotchTrace_ok (hT : TOk P T) (φ : Nat) (hF : FOk P (F_36 φ)) (hm : P.follows .mixedOrders = true) : SumOk P 15 (.mk (S_impl_NotchTrace φ) impl_NotchTrace_val) := by
  have uk : (loopsOf (bodyOf Try.f15)).all (fun x => Nat.blt (key x) 500000) = true := by kernel_rfl
  refine mk_ok (fn := Try.f15) (c := bodyOf Try.f15) hT hF (evDraw_ok hT hF hm) (by kernel_rfl) (by kernel_rfl) (by kernel_rfl) ?_
  intro args h r hr
  obtain ⟨x2, b3, e4, l5, rfl, rfl, hq⟩ := impl_NotchTrace_S φ args h r hr
  have e := impl_NotchTrace_nat φ x2 b3 e4 l5 some (fun r => (some ((impl_NotchTrace_val r).1, [(.vec b3 e4 (.flt .f32) l5)] ++ (impl_NotchTrace_val r).2) : Option Out))
  rw [hq] at e
  exact ⟨impl_NotchTrace_L φ, (LoopsOk.cut (show apartKeys 3 (tailsOf (bodyOf Try.f15)) = true from by kernel_rfl) uk (show findKey 3 (tailsOf (bodyOf Try.f15)) = some (tailOf Try.f15 3) from by kernel_rfl) (impl_NotchTrace_c3_ok hT φ hF hm) (LoopsOk.none 1 (bodyOf Try.f15))), (impl_NotchTrace_ev φ x2 b3 e4 l5).trans e.symm⟩

/-! ### impl_MuteTrace -/
theorem impl_MuteTrace_c3_ev (φ : Nat) (K : Kont) (n4 : Int) (n5 : Int) (b6 : Bool) (b7 : Bool) (e8 : Nat) (l9 : (List Nat)) (l10 : (List Nat)) : evCode T (F_37 φ) (evDraw T (F_37 φ)) (Lin_impl_MuteTrace_c3 φ) (tailOf Try.f17 3) (impl_MuteTrace_c3_st n4 n5 b6 b7 e8 l9 l10) (once 1 (hasN [0, 1, 2, 6, 7]) K) = impl_MuteTrace_c3 φ n4 n5 b6 b7 e8 l9 l10 (fun l20 => K .ret (St.mk (spread 0 32 [0, 1, 2, 6, 7] [(.whole 0), (.int .i64 n4), (.int .i64 n5), (.whole 1), (.bool Bool.true)]) [(.vec b7 e8 (.flt .f32) l9), (.vec Bool.true 34 (.flt .f32) l20)])) := by kernel_rfl

theorem impl_MuteTrace_c3_nat (φ : Nat) {ρ σ : Type} (f : ρ → Option σ) (n4 : Int) (n5 : Int) (b6 : Bool) (b7 : Bool) (e8 : Nat) (l9 : (List Nat)) (l10 : (List Nat)) (k0 : (List Nat) → Option ρ) : (impl_MuteTrace_c3 φ n4 n5 b6 b7 e8 l9 l10 k0).bind f = impl_MuteTrace_c3 φ n4 n5 b6 b7 e8 l9 l10 (fun l20 => (k0 l20).bind f) := by
  simp only [impl_MuteTrace_c3, cond_bind, Option.bind_assoc, Option.bind_none]

theorem impl_MuteTrace_c3_ok (hT : TOk P T) (φ : Nat) (hF : FOk P (F_37 φ)) (hm : P.follows .mixedOrders = true) : CodeOk P 1 (impl_MuteTrace_c3_s φ) (tailOf Try.f17 3) := by
  refine CodeOk.of_once (D := (evDraw T (F_37 φ))) (L := Lin_impl_MuteTrace_c3 φ) (keep := (hasN [0, 1, 2, 6, 7])) hT hF (evDraw_ok hT hF hm) (LoopsOk.none 1 (tailOf Try.f17 3)) ?_
  intro st K out h
  unfold impl_MuteTrace_c3_s at h
  split at h
  · rename_i hq1 hq2
    obtain ⟨h1, h2⟩ := cond_inv h
    rw [Bool.and_eq_true] at h1
    refine ⟨h1.1, ?_⟩
    rw [norm_spread rfl st hq1 hq2 (Nat.eq_of_beq_eq_true h1.2)]
    exact (impl_MuteTrace_c3_ev φ K _ _ _ _ _ _ _).trans h2
  · cases h

theorem impl_MuteTrace_ev (φ : Nat) (n2 : Int) (n3 : Int) (b4 : Bool) (e5 : Nat) (l6 : (List Nat)) : evFn T (F_37 φ) (evDraw T (F_37 φ)) (impl_MuteTrace_L φ) Try.f17 [(.whole 0), (.int .i64 n2), (.int .i64 n3)] [(.vec b4 e5 (.flt .f32) l6)] = impl_MuteTrace φ n2 n3 b4 e5 l6 (fun r => some ((impl_MuteTrace_val r).1, [(.vec b4 e5 (.flt .f32) l6)] ++ (impl_MuteTrace_val r).2)) := by kernel_rfl

theorem impl_MuteTrace_nat (φ : Nat) (n2 : Int) (n3 : Int) (b4 : Bool) (e5 : Nat) (l6 : (List Nat)) {ρ σ : Type} (k : (Bool × (List Nat)) → Option ρ) (f : ρ → Option σ) : (impl_MuteTrace φ n2 n3 b4 e5 l6 k).bind f = impl_MuteTrace φ n2 n3 b4 e5 l6 (fun r => (k r).bind f) := by
  simp only [impl_MuteTrace, cond_bind, Option.bind_assoc, Option.bind_none, impl_MuteTrace_c3_nat]

theorem impl_MuteTrace_S (φ : Nat) (args : List AV) (h : List Blk) (r : (Bool × (List Nat))) (hr : S_impl_MuteTrace φ args h = some r) : ∃ (n2 : Int) (n3 : Int) (b4 : Bool) (e5 : Nat) (l6 : (List Nat)), args = [(.whole 0), (.int .i64 n2), (.int .i64 n3)] ∧ h = [(.vec b4 e5 (.flt .f32) l6)] ∧ impl_MuteTrace φ n2 n3 b4 e5 l6 some = some r := by
  unfold S_impl_MuteTrace at hr
  split at hr
  · exact ⟨_, _, _, _, _, rfl, rfl, hr⟩
  · cases hr

theorem impl_MuteTrace_ok (hT : TOk P T) (φ : Nat) (hF : FOk P (F_37 φ)) (hm : P.follows .mixedOrders = true) : SumOk P 17 (.mk (S_impl_MuteTrace φ) impl_MuteTrace_val) := by
  have uk : (loopsOf (bodyOf Try.f17)).all (fun x => Nat.blt (key x) 500000) = true := by kernel_rfl
  refine mk_ok (fn := Try.f17) (c := bodyOf Try.f17) hT hF (evDraw_ok hT hF hm) (by kernel_rfl) (by kernel_rfl) (by kernel_rfl) ?_
  intro args h r hr
  obtain ⟨n2, n3, b4, e5, l6, rfl, rfl, hq⟩ := impl_MuteTrace_S φ args h r hr
  have e := impl_MuteTrace_nat φ n2 n3 b4 e5 l6 some (fun r => (some ((impl_MuteTrace_val r).1, [(.vec b4 e5 (.flt .f32) l6)] ++ (impl_MuteTrace_val r).2) : Option Out))
  rw [hq] at e
  exact ⟨impl_MuteTrace_L φ, (LoopsOk.cut (show apartKeys 3 (tailsOf (bodyOf Try.f17)) = true from by kernel_rfl) uk (show findKey 3 (tailsOf (bodyOf Try.f17)) = some (tailOf Try.f17 3) from by kernel_rfl) (impl_MuteTrace_c3_ok hT φ hF hm) (LoopsOk.none 1 (bodyOf Try.f17))), (impl_MuteTrace_ev φ n2 n3 b4 e5 l6).trans e.symm⟩

/-! ### impl_TaperTrace -/
theorem impl_TaperTrace_8_step (φ : Nat) (n19 : Int) (n20 : Int) (n21 : Int) (n22 : Int) (n23 : Int) (n24 : Int) (b25 : Bool) (e26 : Nat) (l27 : (List Nat)) (l28 : (List Nat)) (l29 : (List Int)) (G : St → Option Out) (K : Kont) : evCode T (F_38 φ) (evDraw T (F_38 φ)) (Lin_impl_TaperTrace_8 φ) (loopOf Try.f18 8) (impl_TaperTrace_8_st n19 n20 n21 n22 n23 n24 b25 e26 l27 l28 l29) (round 1 (hasN [0, 1, 6, 7, 23, 24, 33, 34, 35]) G K) =
    bif (decide (n24 < n23)) then
      Option.bind (idx n24 (List.length l29)) fun r30 =>
      Option.bind (l29[r30]?) fun r31 =>
      Option.bind (idx r31 (List.length l28)) fun r32 =>
      Option.bind (l28[r32]?) fun r33 =>
      Option.bind (idx r31 (List.length l28)) fun r34 =>
      Option.bind (l28[r34]?) fun r35 =>
      (G (impl_TaperTrace_8_st n19 n20 n21 n22 n23 (IntKind.wrap .i64 (n24 + (1 : Int))) b25 e26 l27 (List.set l28 r34 (fdiv .f32 (fmul .f32 r33 (itof .f32 (IntKind.wrap .i64 (n20 + (1 : Int))))) (itof .f32 (IntKind.wrap .i64 (n19 + (1 : Int)))))) l29))
    else
      (K (.exit 2) (St.mk (spread 0 57 [0, 1, 6, 7, 23, 24, 33, 34, 35] [(.whole 0), (.int .i64 n19), (.whole 1), (.int .i64 n20), (.int .i64 n21), (.int .i64 n22), (.whole 2), (.int .i64 n23), (.int .i64 n24)]) [(.vec b25 e26 (.flt .f32) l27), (.vec Bool.true 34 (.flt .f32) l28), (.vec Bool.true 2 (.int .i64) l29)])) := by kernel_rfl

theorem impl_TaperTrace_8_ev (φ : Nat) (K : Kont) : ∀ (n : Nat) (n19 : Int) (n20 : Int) (n21 : Int) (n22 : Int) (n23 : Int) (n24 : Int) (b25 : Bool) (e26 : Nat) (l27 : (List Nat)) (l28 : (List Nat)) (l29 : (List Int)), evLoop T (F_38 φ) (evDraw T (F_38 φ)) (Lin_impl_TaperTrace_8 φ) 1 (hasN [0, 1, 6, 7, 23, 24, 33, 34, 35]) (loopOf Try.f18 8) n (impl_TaperTrace_8_st n19 n20 n21 n22 n23 n24 b25 e26 l27 l28 l29) K = impl_TaperTrace_8 φ n19 n20 n21 n22 n23 b25 e26 l27 l29 n n24 l28 (fun n41 l45 => K (.exit 2) (St.mk (spread 0 57 [0, 1, 6, 7, 23, 24, 33, 34, 35] [(.whole 0), (.int .i64 n19), (.whole 1), (.int .i64 n20), (.int .i64 n21), (.int .i64 n22), (.whole 2), (.int .i64 n23), (.int .i64 n41)]) [(.vec b25 e26 (.flt .f32) l27), (.vec Bool.true 34 (.flt .f32) l45), (.vec Bool.true 2 (.int .i64) l29)])) := by
  intro n
  induction n with
  | zero => intros; rfl
  | succ n ih =>
    intros
    rw [evLoop_succ, impl_TaperTrace_8_step]
    simp only [ih]
    rfl

theorem impl_TaperTrace_8_nat (φ : Nat) {ρ σ : Type} (f : ρ → Option σ) : ∀ (n : Nat) (n19 : Int) (n20 : Int) (n21 : Int) (n22 : Int) (n23 : Int) (n24 : Int) (b25 : Bool) (e26 : Nat) (l27 : (List Nat)) (l28 : (List Nat)) (l29 : (List Int)) (k0 : Int → (List Nat) → Option ρ), (impl_TaperTrace_8 φ n19 n20 n21 n22 n23 b25 e26 l27 l29 n n24 l28 k0).bind f = impl_TaperTrace_8 φ n19 n20 n21 n22 n23 b25 e26 l27 l29 n n24 l28 (fun n41 l45 => (k0 n41 l45).bind f) := by
  intro n
  induction n with
  | zero => intros; rfl
  | succ n ih =>
    intros
    simp only [impl_TaperTrace_8, cond_bind, Option.bind_assoc, Option.bind_none, ih]

theorem impl_TaperTrace_8_ok (hT : TOk P T) (φ : Nat) (hF : FOk P (F_38 φ)) (hm : P.follows .mixedOrders = true) : LoopOk P 1 (impl_TaperTrace_8_s φ) (loopOf Try.f18 8) := by
  refine LoopOk.of_rounds (D := (evDraw T (F_38 φ))) (L := Lin_impl_TaperTrace_8 φ) (keep := (hasN [0, 1, 6, 7, 23, 24, 33, 34, 35])) hT hF (evDraw_ok hT hF hm) (LoopsOk.none 1 (loopOf Try.f18 8)) ?_
  intro st K out h
  unfold impl_TaperTrace_8_s at h
  split at h
  · rename_i hq1 hq2
    obtain ⟨h1, h2⟩ := cond_inv h
    rw [Bool.and_eq_true] at h1
    refine ⟨h1.1, φ, ?_⟩
    rw [norm_spread rfl st hq1 hq2 (Nat.eq_of_beq_eq_true h1.2)]
    exact (impl_TaperTrace_8_ev φ K φ _ _ _ _ _ _ _ _ _ _ _).trans h2
  · cases h

theorem impl_TaperTrace_5_step (φ : Nat) (n11 : Int) (n12 : Int) (n13 : Int) (b14 : Bool) (e15 : Nat) (l16 : (List Nat)) (l17 : (List Nat)) (G : St → Option Out) (K : Kont) : evCode T (F_38 φ) (evDraw T (F_38 φ)) (Lin_impl_TaperTrace_5 φ) (loopOf Try.f18 5) (impl_TaperTrace_5_st n11 n12 n13 b14 e15 l16 l17) (round 1 (hasN [0, 1, 6, 23, 24]) G K) =
    bif (decide (n13 < n12)) then
      Option.bind (impl_length_float32 φ b14 e15 l16 some) fun r18 =>
      impl_TaperTrace_8 φ n11 n13 n12 n13 ((2 : Nat) : Int) b14 e15 l16 [n13, (IntKind.wrap .i64 ((IntKind.wrap .i64 (r18 - (1 : Int))) - n13))] φ (0 : Int) l17
        (fun e47 e48 =>
        (G (impl_TaperTrace_5_st n11 n12 (IntKind.wrap .i64 (n13 + (1 : Int))) b14 e15 l16 e48)))
    else
      (K (.exit 0) (St.mk (spread 0 57 [0, 1, 6, 23, 24] [(.whole 0), (.int .i64 n11), (.whole 1), (.int .i64 n12), (.int .i64 n13)]) [(.vec b14 e15 (.flt .f32) l16), (.vec Bool.true 34 (.flt .f32) l17)])) := by kernel_rfl

theorem impl_TaperTrace_5_ev (φ : Nat) (K : Kont) : ∀ (n : Nat) (n11 : Int) (n12 : Int) (n13 : Int) (b14 : Bool) (e15 : Nat) (l16 : (List Nat)) (l17 : (List Nat)), evLoop T (F_38 φ) (evDraw T (F_38 φ)) (Lin_impl_TaperTrace_5 φ) 1 (hasN [0, 1, 6, 23, 24]) (loopOf Try.f18 5) n (impl_TaperTrace_5_st n11 n12 n13 b14 e15 l16 l17) K = impl_TaperTrace_5 φ n11 n12 b14 e15 l16 n n13 l17 (fun n51 l55 => K (.exit 0) (St.mk (spread 0 57 [0, 1, 6, 23, 24] [(.whole 0), (.int .i64 n11), (.whole 1), (.int .i64 n12), (.int .i64 n51)]) [(.vec b14 e15 (.flt .f32) l16), (.vec Bool.true 34 (.flt .f32) l55)])) := by
  intro n
  induction n with
  | zero => intros; rfl
  | succ n ih =>
    intros
    rw [evLoop_succ, impl_TaperTrace_5_step]
    simp only [ih]
    rfl

theorem impl_TaperTrace_5_nat (φ : Nat) {ρ σ : Type} (f : ρ → Option σ) : ∀ (n : Nat) (n11 : Int) (n12 : Int) (n13 : Int) (b14 : Bool) (e15 : Nat) (l16 : (List Nat)) (l17 : (List Nat)) (k0 : Int → (List Nat) → Option ρ), (impl_TaperTrace_5 φ n11 n12 b14 e15 l16 n n13 l17 k0).bind f = impl_TaperTrace_5 φ n11 n12 b14 e15 l16 n n13 l17 (fun n51 l55 => (k0 n51 l55).bind f) := by
  intro n
  induction n with
  | zero => intros; rfl
  | succ n ih =>
    intros
    simp only [impl_TaperTrace_5, cond_bind, Option.bind_assoc, Option.bind_none, ih, impl_TaperTrace_8_nat]

theorem impl_TaperTrace_5_ok (hT : TOk P T) (φ : Nat) (hF : FOk P (F_38 φ)) (hm : P.follows .mixedOrders = true) : LoopOk P 1 (impl_TaperTrace_5_s φ) (loopOf Try.f18 5) := by
  refine LoopOk.of_rounds (D := (evDraw T (F_38 φ))) (L := Lin_impl_TaperTrace_5 φ) (keep := (hasN [0, 1, 6, 23, 24])) hT hF (evDraw_ok hT hF hm) (LoopsOk.loop (show apartKeys 8 (loopsOf (loopOf Try.f18 5)) = true from by kernel_rfl) (show Nat.blt 8 500000 = true from by kernel_rfl) (show findKey 8 (loopsOf (loopOf Try.f18 5)) = some (loopOf Try.f18 8) from by kernel_rfl) (impl_TaperTrace_8_ok hT φ hF hm) (LoopsOk.none 1 (loopOf Try.f18 5))) ?_
  intro st K out h
  unfold impl_TaperTrace_5_s at h
  split at h
  · rename_i hq1 hq2
    obtain ⟨h1, h2⟩ := cond_inv h
    rw [Bool.and_eq_true] at h1
    refine ⟨h1.1, φ, ?_⟩
    rw [norm_spread rfl st hq1 hq2 (Nat.eq_of_beq_eq_true h1.2)]
    exact (impl_TaperTrace_5_ev φ K φ _ _ _ _ _ _ _).trans h2
  · cases h

theorem impl_TaperTrace_c3_ev (φ : Nat) (K : Kont) (n4 : Int) (b5 : Bool) (b6 : Bool) (e7 : Nat) (l8 : (List Nat)) (l9 : (List Nat)) : evCode T (F_38 φ) (evDraw T (F_38 φ)) (Lin_impl_TaperTrace_c3 φ) (tailOf Try.f18 3) (impl_TaperTrace_c3_st n4 b5 b6 e7 l8 l9) (once 1 (hasN [0, 1, 4, 5]) K) = impl_TaperTrace_c3 φ n4 b5 b6 e7 l8 l9 (fun l63 => K .ret (St.mk (spread 0 57 [0, 1, 4, 5] [(.whole 0), (.int .i64 n4), (.whole 1), (.bool Bool.true)]) [(.vec b6 e7 (.flt .f32) l8), (.vec Bool.true 34 (.flt .f32) l63)])) := by kernel_rfl

theorem impl_TaperTrace_c3_nat (φ : Nat) {ρ σ : Type} (f : ρ → Option σ) (n4 : Int) (b5 : Bool) (b6 : Bool) (e7 : Nat) (l8 : (List Nat)) (l9 : (List Nat)) (k0 : (List Nat) → Option ρ) : (impl_TaperTrace_c3 φ n4 b5 b6 e7 l8 l9 k0).bind f = impl_TaperTrace_c3 φ n4 b5 b6 e7 l8 l9 (fun l63 => (k0 l63).bind f) := by
  simp only [impl_TaperTrace_c3, cond_bind, Option.bind_assoc, Option.bind_none, impl_TaperTrace_5_nat]

theorem impl_TaperTrace_c3_ok (hT : TOk P T) (φ : Nat) (hF : FOk P (F_38 φ)) (hm : P.follows .mixedOrders = true) : CodeOk P 1 (impl_TaperTrace_c3_s φ) (tailOf Try.f18 3) := by
  refine CodeOk.of_once (D := (evDraw T (F_38 φ))) (L := Lin_impl_TaperTrace_c3 φ) (keep := (hasN [0, 1, 4, 5])) hT hF (evDraw_ok hT hF hm) (LoopsOk.loop (show apartKeys 5 (loopsOf (tailOf Try.f18 3)) = true from by kernel_rfl) (show Nat.blt 5 500000 = true from by kernel_rfl) (show findKey 5 (loopsOf (tailOf Try.f18 3)) = some (loopOf Try.f18 5) from by kernel_rfl) (impl_TaperTrace_5_ok hT φ hF hm) (LoopsOk.none 1 (tailOf Try.f18 3))) ?_
  intro st K out h
  unfold impl_TaperTrace_c3_s at h
  split at h
  · rename_i hq1 hq2
    obtain ⟨h1, h2⟩ := cond_inv h
    rw [Bool.and_eq_true] at h1
    refine ⟨h1.1, ?_⟩
    rw [norm_spread rfl st hq1 hq2 (Nat.eq_of_beq_eq_true h1.2)]
    exact (impl_TaperTrace_c3_ev φ K _ _ _ _ _ _).trans h2
  · cases h

theorem impl_TaperTrace_ev (φ : Nat) (n2 : Int) (b3 : Bool) (e4 : Nat) (l5 : (List Nat)) : evFn T (F_38 φ) (evDraw T (F_38 φ)) (impl_TaperTrace_L φ) Try.f18 [(.whole 0), (.int .i64 n2)] [(.vec b3 e4 (.flt .f32) l5)] = impl_TaperTrace φ n2 b3 e4 l5 (fun r => some ((impl_TaperTrace_val r).1, [(.vec b3 e4 (.flt .f32) l5)] ++ (impl_TaperTrace_val r).2)) := by kernel_rfl

theorem impl_TaperTrace_nat (φ : Nat) (n2 : Int) (b3 : Bool) (e4 : Nat) (l5 : (List Nat)) {ρ σ : Type} (k : (Bool × (List Nat)) → Option ρ) (f : ρ → Option σ) : (impl_TaperTrace φ n2 b3 e4 l5 k).bind f = impl_TaperTrace φ n2 b3 e4 l5 (fun r => (k r).bind f) := by
  simp only [impl_TaperTrace, cond_bind, Option.bind_assoc, Option.bind_none, impl_TaperTrace_8_nat, impl_TaperTrace_5_nat, impl_TaperTrace_c3_nat]

theorem impl_TaperTrace_S (φ : Nat) (args : List AV) (h : List Blk) (r : (Bool × (List Nat))) (hr : S_impl_TaperTrace φ args h = some r) : ∃ (n2 : Int) (b3 : Bool) (e4 : Nat) (l5 : (List Nat)), args = [(.whole 0), (.int .i64 n2)] ∧ h = [(.vec b3 e4 (.flt .f32) l5)] ∧ impl_TaperTrace φ n2 b3 e4 l5 some = some r := by
  unfold S_impl_TaperTrace at hr
  split at hr
  · exact ⟨_, _, _, _, rfl, rfl, hr⟩
  · cases hr

theorem impl_TaperTrace_ok (hT : TOk P T) (φ : Nat) (hF : FOk P (F_38 φ)) (hm : P.follows .mixedOrders = true) : SumOk P 18 (.mk (S_impl_TaperTrace φ) impl_TaperTrace_val) := by
  have uk : (loopsOf (bodyOf Try.f18)).all (fun x => Nat.blt (key x) 500000) = true := by kernel_rfl
  refine mk_ok (fn := Try.f18) (c := bodyOf Try.f18) hT hF (evDraw_ok hT hF hm) (by kernel_rfl) (by kernel_rfl) (by kernel_rfl) ?_
  intro args h r hr
  obtain ⟨n2, b3, e4, l5, rfl, rfl, hq⟩ := impl_TaperTrace_S φ args h r hr
  have e := impl_TaperTrace_nat φ n2 b3 e4 l5 some (fun r => (some ((impl_TaperTrace_val r).1, [(.vec b3 e4 (.flt .f32) l5)] ++ (impl_TaperTrace_val r).2) : Option Out))
  rw [hq] at e
  exact ⟨impl_TaperTrace_L φ, (LoopsOk.cut (show apartKeys 3 (tailsOf (bodyOf Try.f18)) = true from by kernel_rfl) uk (show findKey 3 (tailsOf (bodyOf Try.f18)) = some (tailOf Try.f18 3) from by kernel_rfl) (impl_TaperTrace_c3_ok hT φ hF hm) (LoopsOk.none 1 (bodyOf Try.f18))), (impl_TaperTrace_ev φ n2 b3 e4 l5).trans e.symm⟩

/-! ### impl_energy -/
theorem impl_energy_3_step (φ : Nat) (x0 : Nat) (lo1 : Nat) (len2 : Nat) (n3 : Int) (n4 : Int) (b5 : Bool) (e6 : Nat) (l7 : (List Nat)) (G : St → Option Out) (K : Kont) : evCode T (F_39 φ) (evDraw T (F_39 φ)) (Lin_impl_energy_3 φ) (loopOf Try.f35 3) (impl_energy_3_st x0 lo1 len2 n3 n4 b5 e6 l7) (round 1 (hasN [3, 6, 7, 8]) G K) =
    bif (decide (n4 < n3)) then
      Option.bind (idx n4 len2) fun r8 =>
      Option.bind (l7[(lo1 + r8)]?) fun r9 =>
      (G (impl_energy_3_st (fadd .f32 x0 (fmul .f32 r9 r9)) lo1 len2 n3 (IntKind.wrap .i64 (n4 + (1 : Int))) b5 e6 l7))
    else
      (K (.exit 0) (St.mk (spread 0 19 [3, 6, 7, 8] [(.flt .f32 x0), (.sub 0 lo1 len2 1), (.int .i64 n3), (.int .i64 n4)]) [(.vec b5 e6 (.flt .f32) l7)])) := by kernel_rfl

theorem impl_energy_3_ev (φ : Nat) (K : Kont) : ∀ (n : Nat) (x0 : Nat) (lo1 : Nat) (len2 : Nat) (n3 : Int) (n4 : Int) (b5 : Bool) (e6 : Nat) (l7 : (List Nat)), evLoop T (F_39 φ) (evDraw T (F_39 φ)) (Lin_impl_energy_3 φ) 1 (hasN [3, 6, 7, 8]) (loopOf Try.f35 3) n (impl_energy_3_st x0 lo1 len2 n3 n4 b5 e6 l7) K = impl_energy_3 φ lo1 len2 n3 b5 e6 l7 n x0 n4 (fun x10 n14 => K (.exit 0) (St.mk (spread 0 19 [3, 6, 7, 8] [(.flt .f32 x10), (.sub 0 lo1 len2 1), (.int .i64 n3), (.int .i64 n14)]) [(.vec b5 e6 (.flt .f32) l7)])) := by
  intro n
  induction n with
  | zero => intros; rfl
  | succ n ih =>
    intros
    rw [evLoop_succ, impl_energy_3_step]
    simp only [ih]
    rfl

theorem impl_energy_3_nat (φ : Nat) {ρ σ : Type} (f : ρ → Option σ) : ∀ (n : Nat) (x0 : Nat) (lo1 : Nat) (len2 : Nat) (n3 : Int) (n4 : Int) (b5 : Bool) (e6 : Nat) (l7 : (List Nat)) (k0 : Nat → Int → Option ρ), (impl_energy_3 φ lo1 len2 n3 b5 e6 l7 n x0 n4 k0).bind f = impl_energy_3 φ lo1 len2 n3 b5 e6 l7 n x0 n4 (fun x10 n14 => (k0 x10 n14).bind f) := by
  intro n
  induction n with
  | zero => intros; rfl
  | succ n ih =>
    intros
    simp only [impl_energy_3, cond_bind, Option.bind_assoc, Option.bind_none, ih]

theorem impl_energy_3_ok (hT : TOk P T) (φ : Nat) (hF : FOk P (F_39 φ)) (hm : P.follows .mixedOrders = true) : LoopOk P 1 (impl_energy_3_s φ) (loopOf Try.f35 3) := by
  refine LoopOk.of_rounds (D := (evDraw T (F_39 φ))) (L := Lin_impl_energy_3 φ) (keep := (hasN [3, 6, 7, 8])) hT hF (evDraw_ok hT hF hm) (LoopsOk.none 1 (loopOf Try.f35 3)) ?_
  intro st K out h
  unfold impl_energy_3_s at h
  split at h
  · rename_i hq1 hq2
    obtain ⟨h1, h2⟩ := cond_inv h
    rw [Bool.and_eq_true] at h1
    refine ⟨h1.1, φ, ?_⟩
    rw [norm_spread rfl st hq1 hq2 (Nat.eq_of_beq_eq_true h1.2)]
    exact (impl_energy_3_ev φ K φ _ _ _ _ _ _ _ _).trans h2
  · cases h

theorem impl_energy_ev (φ : Nat) (lo2 : Nat) (len3 : Nat) (b4 : Bool) (e5 : Nat) (l6 : (List Nat)) : evFn T (F_39 φ) (evDraw T (F_39 φ)) (impl_energy_L φ) Try.f35 [(.sub 0 lo2 len3 1)] [(.vec b4 e5 (.flt .f32) l6)] = impl_energy φ lo2 len3 b4 e5 l6 (fun r => some (impl_energy_val r, [(.vec b4 e5 (.flt .f32) l6)])) := by kernel_rfl

theorem impl_energy_nat (φ : Nat) (lo2 : Nat) (len3 : Nat) (b4 : Bool) (e5 : Nat) (l6 : (List Nat)) {ρ σ : Type} (k : Nat → Option ρ) (f : ρ → Option σ) : (impl_energy φ lo2 len3 b4 e5 l6 k).bind f = impl_energy φ lo2 len3 b4 e5 l6 (fun r => (k r).bind f) := by
  simp only [impl_energy, cond_bind, Option.bind_assoc, Option.bind_none, impl_energy_3_nat]

theorem impl_energy_S (φ : Nat) (args : List AV) (h : List Blk) (r : Nat) (hr : S_impl_energy φ args h = some r) : ∃ (lo2 : Nat) (len3 : Nat) (b4 : Bool) (e5 : Nat) (l6 : (List Nat)), args = [(.sub 0 lo2 len3 1)] ∧ h = [(.vec b4 e5 (.flt .f32) l6)] ∧ impl_energy φ lo2 len3 b4 e5 l6 some = some r := by
  unfold S_impl_energy at hr
  split at hr
  · exact ⟨_, _, _, _, _, rfl, rfl, hr⟩
  · cases hr

theorem impl_energy_ok (hT : TOk P T) (φ : Nat) (hF : FOk P (F_39 φ)) (hm : P.follows .mixedOrders = true) : SumOk P 35 (.rd (S_impl_energy φ) impl_energy_val) := by
  refine rd_ok (fn := Try.f35) (c := bodyOf Try.f35) hT hF (evDraw_ok hT hF hm) (by kernel_rfl) (by kernel_rfl) (by kernel_rfl) ?_
  intro args h r hr
  obtain ⟨lo2, len3, b4, e5, l6, rfl, rfl, hq⟩ := impl_energy_S φ args h r hr
  have e := impl_energy_nat φ lo2 len3 b4 e5 l6 some (fun r => (some (impl_energy_val r, [(.vec b4 e5 (.flt .f32) l6)]) : Option Out))
  rw [hq] at e
  exact ⟨impl_energy_L φ, (LoopsOk.loop (show apartKeys 3 (loopsOf (bodyOf Try.f35)) = true from by kernel_rfl) (show Nat.blt 3 500000 = true from by kernel_rfl) (show findKey 3 (loopsOf (bodyOf Try.f35)) = some (loopOf Try.f35 3) from by kernel_rfl) (impl_energy_3_ok hT φ hF hm) (LoopsOk.none 1 (bodyOf Try.f35))), (impl_energy_ev φ lo2 len3 b4 e5 l6).trans e.symm⟩

/-! ### math_Sqrt -/
theorem math_Sqrt_ev (φ : Nat) (x0 : Nat) : evFn T (F_40 φ) (evDraw T (F_40 φ)) (math_Sqrt_L φ) Try.f44 [(.flt .f64 x0)] [] = math_Sqrt φ x0 (fun r => some (math_Sqrt_val r, [])) := by kernel_rfl

theorem math_Sqrt_nat (φ : Nat) (x0 : Nat) {ρ σ : Type} (k : Nat → Option ρ) (f : ρ → Option σ) : (math_Sqrt φ x0 k).bind f = math_Sqrt φ x0 (fun r => (k r).bind f) := by
  simp only [math_Sqrt, cond_bind, Option.bind_assoc, Option.bind_none]

theorem math_Sqrt_S (φ : Nat) (args : List AV) (h : List Blk) (r : Nat) (hr : S_math_Sqrt φ args h = some r) : ∃ (x0 : Nat), args = [(.flt .f64 x0)] ∧ h = [] ∧ math_Sqrt φ x0 some = some r := by
  unfold S_math_Sqrt at hr
  split at hr
  · exact ⟨_, rfl, rfl, hr⟩
  · cases hr

theorem math_Sqrt_ok (hT : TOk P T) (φ : Nat) (hF : FOk P (F_40 φ)) (hm : P.follows .mixedOrders = true) : SumOk P 44 (.rd (S_math_Sqrt φ) math_Sqrt_val) := by
  refine rd_ok (fn := Try.f44) (c := bodyOf Try.f44) hT hF (evDraw_ok hT hF hm) (by kernel_rfl) (by kernel_rfl) (by kernel_rfl) ?_
  intro args h r hr
  obtain ⟨x0, rfl, rfl, hq⟩ := math_Sqrt_S φ args h r hr
  have e := math_Sqrt_nat φ x0 some (fun r => (some (math_Sqrt_val r, []) : Option Out))
  rw [hq] at e
  exact ⟨math_Sqrt_L φ, (LoopsOk.none 0 (bodyOf Try.f44)), (math_Sqrt_ev φ x0).trans e.symm⟩

/-! ### impl_RootNumber -/
theorem impl_RootNumber_ev (φ : Nat) (x0 : Nat) : evFn T (F_41 φ) (evDraw T (F_41 φ)) (impl_RootNumber_L φ) Try.f34 [(.flt .f32 x0)] [] = impl_RootNumber φ x0 (fun r => some (impl_RootNumber_val r, [])) := by kernel_rfl

theorem impl_RootNumber_nat (φ : Nat) (x0 : Nat) {ρ σ : Type} (k : Nat → Option ρ) (f : ρ → Option σ) : (impl_RootNumber φ x0 k).bind f = impl_RootNumber φ x0 (fun r => (k r).bind f) := by
  simp only [impl_RootNumber, cond_bind, Option.bind_assoc, Option.bind_none]

theorem impl_RootNumber_S (φ : Nat) (args : List AV) (h : List Blk) (r : Nat) (hr : S_impl_RootNumber φ args h = some r) : ∃ (x0 : Nat), args = [(.flt .f32 x0)] ∧ h = [] ∧ impl_RootNumber φ x0 some = some r := by
  unfold S_impl_RootNumber at hr
  split at hr
  · exact ⟨_, rfl, rfl, hr⟩
  · cases hr

theorem impl_RootNumber_ok (hT : TOk P T) (φ : Nat) (hF : FOk P (F_41 φ)) (hm : P.follows .mixedOrders = true) : SumOk P 34 (.rd (S_impl_RootNumber φ) impl_RootNumber_val) := by
  refine rd_ok (fn := Try.f34) (c := bodyOf Try.f34) hT hF (evDraw_ok hT hF hm) (by kernel_rfl) (by kernel_rfl) (by kernel_rfl) ?_
  intro args h r hr
  obtain ⟨x0, rfl, rfl, hq⟩ := impl_RootNumber_S φ args h r hr
  have e := impl_RootNumber_nat φ x0 some (fun r => (some (impl_RootNumber_val r, []) : Option Out))
  rw [hq] at e
  exact ⟨impl_RootNumber_L φ, (LoopsOk.none 0 (bodyOf Try.f34)), (impl_RootNumber_ev φ x0).trans e.symm⟩

/-! ### impl_GainTrace -/
theorem impl_GainTrace_5_step (φ : Nat) (n10 : Int) (n11 : Int) (n12 : Int) (b13 : Bool) (e14 : Nat) (l15 : (List Nat)) (l16 : (List Nat)) (G : St → Option Out) (K : Kont) : evCode T (F_42 φ) (evDraw T (F_42 φ)) (Lin_impl_GainTrace_5 φ) (loopOf Try.f19 5) (impl_GainTrace_5_st n10 n11 n12 b13 e14 l15 l16) (round 1 (hasN [0, 1, 6, 23, 24, 25]) G K) =
    bif (decide (n12 < n11)) then
      Option.bind (idx n12 (List.length l15)) fun r17 =>
      Option.bind (l15[r17]?) fun r18 =>
      Option.bind (impl_length_float32 φ b13 e14 l15 some) fun r19 =>
      Option.bind (upto (bif Bool.false then (ite ((IntKind.wrap .i64 ((IntKind.wrap .i64 (n12 + n10)) + (1 : Int))) > r19) (IntKind.wrap .i64 ((IntKind.wrap .i64 (n12 + n10)) + (1 : Int))) r19) else (ite ((IntKind.wrap .i64 ((IntKind.wrap .i64 (n12 + n10)) + (1 : Int))) < r19) (IntKind.wrap .i64 ((IntKind.wrap .i64 (n12 + n10)) + (1 : Int))) r19)) (List.length l15)) fun r20 =>
      Option.bind (upto (bif Bool.true then (ite ((IntKind.wrap .i64 (n12 - n10)) > (0 : Int)) (IntKind.wrap .i64 (n12 - n10)) (0 : Int)) else (ite ((IntKind.wrap .i64 (n12 - n10)) < (0 : Int)) (IntKind.wrap .i64 (n12 - n10)) (0 : Int))) r20) fun r21 =>
      Option.bind (impl_energy φ r21 (r20 - r21) b13 e14 l15 some) fun r22 =>
      Option.bind (impl_RootNumber φ (fdiv .f32 r22 (itof .f32 (IntKind.wrap .i64 ((bif Bool.false then (ite ((IntKind.wrap .i64 ((IntKind.wrap .i64 (n12 + n10)) + (1 : Int))) > r19) (IntKind.wrap .i64 ((IntKind.wrap .i64 (n12 + n10)) + (1 : Int))) r19) else (ite ((IntKind.wrap .i64 ((IntKind.wrap .i64 (n12 + n10)) + (1 : Int))) < r19) (IntKind.wrap .i64 ((IntKind.wrap .i64 (n12 + n10)) + (1 : Int))) r19)) - (bif Bool.true then (ite ((IntKind.wrap .i64 (n12 - n10)) > (0 : Int)) (IntKind.wrap .i64 (n12 - n10)) (0 : Int)) else (ite ((IntKind.wrap .i64 (n12 - n10)) < (0 : Int)) (IntKind.wrap .i64 (n12 - n10)) (0 : Int))))))) some) fun r23 =>
      bif (fne .f32 r23 (can .f32 0)) then
        Option.bind (idx n12 (List.length l16)) fun r24 =>
        Option.bind (l16[r24]?) fun r25 =>
        (G (impl_GainTrace_5_st n10 n11 (IntKind.wrap .i64 (n12 + (1 : Int))) b13 e14 l15 (List.set l16 r24 (fdiv .f32 r18 r23))))
      else
        (G (impl_GainTrace_5_st n10 n11 (IntKind.wrap .i64 (n12 + (1 : Int))) b13 e14 l15 l16))
    else
      (K (.exit 0) (St.mk (spread 0 62 [0, 1, 6, 23, 24, 25] [(.whole 0), (.int .i64 n10), (.whole 1), (.whole 0), (.int .i64 n11), (.int .i64 n12)]) [(.vec b13 e14 (.flt .f32) l15), (.vec Bool.true 34 (.flt .f32) l16)])) := by kernel_rfl

theorem impl_GainTrace_5_ev (φ : Nat) (K : Kont) : ∀ (n : Nat) (n10 : Int) (n11 : Int) (n12 : Int) (b13 : Bool) (e14 : Nat) (l15 : (List Nat)) (l16 : (List Nat)), evLoop T (F_42 φ) (evDraw T (F_42 φ)) (Lin_impl_GainTrace_5 φ) 1 (hasN [0, 1, 6, 23, 24, 25]) (loopOf Try.f19 5) n (impl_GainTrace_5_st n10 n11 n12 b13 e14 l15 l16) K = impl_GainTrace_5 φ n10 n11 b13 e14 l15 n n12 l16 (fun n28 l32 => K (.exit 0) (St.mk (spread 0 62 [0, 1, 6, 23, 24, 25] [(.whole 0), (.int .i64 n10), (.whole 1), (.whole 0), (.int .i64 n11), (.int .i64 n28)]) [(.vec b13 e14 (.flt .f32) l15), (.vec Bool.true 34 (.flt .f32) l32)])) := by
  intro n
  induction n with
  | zero => intros; rfl
  | succ n ih =>
    intros
    rw [evLoop_succ, impl_GainTrace_5_step]
    simp only [ih]
    rfl

theorem impl_GainTrace_5_nat (φ : Nat) {ρ σ : Type} (f : ρ → Option σ) : ∀ (n : Nat) (n10 : Int) (n11 : Int) (n12 : Int) (b13 : Bool) (e14 : Nat) (l15 : (List Nat)) (l16 : (List Nat)) (k0 : Int → (List Nat) → Option ρ), (impl_GainTrace_5 φ n10 n11 b13 e14 l15 n n12 l16 k0).bind f = impl_GainTrace_5 φ n10 n11 b13 e14 l15 n n12 l16 (fun n28 l32 => (k0 n28 l32).bind f) := by
  intro n
  induction n with
  | zero => intros; rfl
  | succ n ih =>
    intros
    simp only [impl_GainTrace_5, cond_bind, Option.bind_assoc, Option.bind_none, ih]

theorem impl_GainTrace_5_ok (hT : TOk P T) (φ : Nat) (hF : FOk P (F_42 φ)) (hm : P.follows .mixedOrders = true) : LoopOk P 1 (impl_GainTrace_5_s φ) (loopOf Try.f19 5) := by
  refine LoopOk.of_rounds (D := (evDraw T (F_42 φ))) (L := Lin_impl_GainTrace_5 φ) (keep := (hasN [0, 1, 6, 23, 24, 25])) hT hF (evDraw_ok hT hF hm) (LoopsOk.none 1 (loopOf Try.f19 5)) ?_
  intro st K out h
  unfold impl_GainTrace_5_s at h
  split at h
  · rename_i hq1 hq2
    obtain ⟨h1, h2⟩ := cond_inv h
    rw [Bool.and_eq_true] at h1
    refine ⟨h1.1, φ, ?_⟩
    rw [norm_spread rfl st hq1 hq2 (Nat.eq_of_beq_eq_true h1.2)]
    exact (impl_GainTrace_5_ev φ K φ _ _ _ _ _ _ _).trans h2
  · cases h

theorem impl_GainTrace_c3_ev (φ : Nat) (K : Kont) (n2 : Int) (b3 : Bool) (b4 : Bool) (e5 : Nat) (l6 : (List Nat)) (l7 : (List Nat)) : evCode T (F_42 φ) (evDraw T (F_42 φ)) (Lin_impl_GainTrace_c3 φ) (tailOf Try.f19 3) (impl_GainTrace_c3_st n2 b3 b4 e5 l6 l7) (once 1 (hasN [0, 1, 4, 5]) K) = impl_GainTrace_c3 φ n2 b3 b4 e5 l6 l7 (fun l40 => K .ret (St.mk (spread 0 62 [0, 1, 4, 5] [(.whole 0), (.int .i64 n2), (.whole 1), (.bool Bool.true)]) [(.vec b4 e5 (.flt .f32) l6), (.vec Bool.true 34 (.flt .f32) l40)])) := by kernel_rfl

theorem impl_GainTrace_c3_nat (φ : Nat) {ρ σ : Type} (f : ρ → Option σ) (n2 : Int) (b3 : Bool) (b4 : Bool) (e5 : Nat) (l6 : (List Nat)) (l7 : (List Nat)) (k0 : (List Nat) → Option ρ) : (impl_GainTrace_c3 φ n2 b3 b4 e5 l6 l7 k0).bind f = impl_GainTrace_c3 φ n2 b3 b4 e5 l6 l7 (fun l40 => (k0 l40).bind f) := by
  simp only [impl_GainTrace_c3, cond_bind, Option.bind_assoc, Option.bind_none, impl_GainTrace_5_nat]

theorem impl_GainTrace_c3_ok (hT : TOk P T) (φ : Nat) (hF : FOk P (F_42 φ)) (hm : P.follows .mixedOrders = true) : CodeOk P 1 (impl_GainTrace_c3_s φ) (tailOf Try.f19 3) := by
  refine CodeOk.of_once (D := (evDraw T (F_42 φ))) (L := Lin_impl_GainTrace_c3 φ) (keep := (hasN [0, 1, 4, 5])) hT hF (evDraw_ok hT hF hm) (LoopsOk.loop (show apartKeys 5 (loopsOf (tailOf Try.f19 3)) = true from by kernel_rfl) (show Nat.blt 5 500000 = true from by kernel_rfl) (show findKey 5 (loopsOf (tailOf Try.f19 3)) = some (loopOf Try.f19 5) from by kernel_rfl) (impl_GainTrace_5_ok hT φ hF hm) (LoopsOk.none 1 (tailOf Try.f19 3))) ?_
  intro st K out h
  unfold impl_GainTrace_c3_s at h
  split at h
  · rename_i hq1 hq2
    obtain ⟨h1, h2⟩ := cond_inv h
    rw [Bool.and_eq_true] at h1
    refine ⟨h1.1, ?_⟩
    rw [norm_spread rfl st hq1 hq2 (Nat.eq_of_beq_eq_true h1.2)]
    exact (impl_GainTrace_c3_ev φ K _ _ _ _ _ _).trans h2
  · cases h

theorem impl_GainTrace_ev (φ : Nat) (n2 : Int) (b3 : Bool) (e4 : Nat) (l5 : (List Nat)) : evFn T (F_42 φ) (evDraw T (F_42 φ)) (impl_GainTrace_L φ) Try.f19 [(.whole 0), (.int .i64 n2)] [(.vec b3 e4 (.flt .f32) l5)] = impl_GainTrace φ n2 b3 e4 l5 (fun r => some ((impl_GainTrace_val r).1, [(.vec b3 e4 (.flt .f32) l5)] ++ (impl_GainTrace_val r).2)) := by kernel_rfl

theorem impl_GainTrace_nat (φ : Nat) (n2 : Int) (b3 : Bool) (e4 : Nat) (l5 : (List Nat)) {ρ σ : Type} (k : (Bool × (List Nat)) → Option ρ) (f : ρ → Option σ) : (impl_GainTrace φ n2 b3 e4 l5 k).bind f = impl_GainTrace φ n2 b3 e4 l5 (fun r => (k r).bind f) := by
  simp only [impl_GainTrace, cond_bind, Option.bind_assoc, Option.bind_none, impl_GainTrace_5_nat, impl_GainTrace_c3_nat]

theorem impl_GainTrace_S (φ : Nat) (args : List AV) (h : List Blk) (r : (Bool × (List Nat))) (hr : S_impl_GainTrace φ args h = some r) : ∃ (n2 : Int) (b3 : Bool) (e4 : Nat) (l5 : (List Nat)), args = [(.whole 0), (.int .i64 n2)] ∧ h = [(.vec b3 e4 (.flt .f32) l5)] ∧ impl_GainTrace φ n2 b3 e4 l5 some = some r := by
  unfold S_impl_GainTrace at hr
  split at hr
  · exact ⟨_, _, _, _, rfl, rfl, hr⟩
  · cases hr

theorem impl_GainTrace_ok (hT : TOk P T) (φ : Nat) (hF : FOk P (F_42 φ)) (hm : P.follows .mixedOrders = true) : SumOk P 19 (.mk (S_impl_GainTrace φ) impl_GainTrace_val) := by
  have uk : (loopsOf (bodyOf Try.f19)).all (fun x => Nat.blt (key x) 500000) = true := by kernel_rfl
  refine mk_ok (fn := Try.f19) (c := bodyOf Try.f19) hT hF (evDraw_ok hT hF hm) (by kernel_rfl) (by kernel_rfl) (by kernel_rfl) ?_
  intro args h r hr
  obtain ⟨n2, b3, e4, l5, rfl, rfl, hq⟩ := impl_GainTrace_S φ args h r hr
  have e := impl_GainTrace_nat φ n2 b3 e4 l5 some (fun r => (some ((impl_GainTrace_val r).1, [(.vec b3 e4 (.flt .f32) l5)] ++ (impl_GainTrace_val r).2) : Option Out))
  rw [hq] at e
  exact ⟨impl_GainTrace_L φ, (LoopsOk.cut (show apartKeys 3 (tailsOf (bodyOf Try.f19)) = true from by kernel_rfl) uk (show findKey 3 (tailsOf (bodyOf Try.f19)) = some (tailOf Try.f19 3) from by kernel_rfl) (impl_GainTrace_c3_ok hT φ hF hm) (LoopsOk.none 1 (bodyOf Try.f19))), (impl_GainTrace_ev φ n2 b3 e4 l5).trans e.symm⟩

/-! ### laws_b10Most_v2 -/
theorem laws_b10Most_v2_3_step (φ : Nat) (lo0 : Nat) (len1 : Nat) (x2 : Nat) (n3 : Int) (n4 : Int) (b5 : Bool) (e6 : Nat) (l7 : (List Nat)) (G : St → Option Out) (K : Kont) : evCode T (F_43 φ) (evDraw T (F_43 φ)) (Lin_laws_b10Most_v2_3 φ) (loopOf Try.f13 3) (laws_b10Most_v2_3_st lo0 len1 x2 n3 n4 b5 e6 l7) (round 1 (hasN [0, 3, 6, 7]) G K) =
    bif (decide (n4 < n3)) then
      Option.bind (idx n4 len1) fun r8 =>
      Option.bind (l7[(lo0 + r8)]?) fun r9 =>
      Option.bind (fconv .f32 r9 .f64) fun r10 =>
      Option.bind (idx n4 len1) fun r11 =>
      Option.bind (l7[(lo0 + r11)]?) fun r12 =>
      Option.bind (fconv .f32 r12 .f64) fun r13 =>
      (G (laws_b10Most_v2_3_st lo0 len1 (bif Bool.true then (fmax .f64 (bif Bool.true then (fmax .f64 x2 r10) else (fmin .f64 x2 r10)) (fneg .f64 r13)) else (fmin .f64 (bif Bool.true then (fmax .f64 x2 r10) else (fmin .f64 x2 r10)) (fneg .f64 r13))) n3 (IntKind.wrap .i64 (n4 + (1 : Int))) b5 e6 l7))
    else
      (K (.exit 0) (St.mk (spread 0 25 [0, 3, 6, 7] [(.sub 0 lo0 len1 1), (.flt .f64 x2), (.int .i64 n3), (.int .i64 n4)]) [(.vec b5 e6 (.flt .f32) l7)])) := by kernel_rfl

theorem laws_b10Most_v2_3_ev (φ : Nat) (K : Kont) : ∀ (n : Nat) (lo0 : Nat) (len1 : Nat) (x2 : Nat) (n3 : Int) (n4 : Int) (b5 : Bool) (e6 : Nat) (l7 : (List Nat)), evLoop T (F_43 φ) (evDraw T (F_43 φ)) (Lin_laws_b10Most_v2_3 φ) 1 (hasN [0, 3, 6, 7]) (loopOf Try.f13 3) n (laws_b10Most_v2_3_st lo0 len1 x2 n3 n4 b5 e6 l7) K = laws_b10Most_v2_3 φ lo0 len1 n3 b5 e6 l7 n x2 n4 (fun x16 n18 => K (.exit 0) (St.mk (spread 0 25 [0, 3, 6, 7] [(.sub 0 lo0 len1 1), (.flt .f64 x16), (.int .i64 n3), (.int .i64 n18)]) [(.vec b5 e6 (.flt .f32) l7)])) := by
  intro n
  induction n with
  | zero => intros; rfl
  | succ n ih =>
    intros
    rw [evLoop_succ, laws_b10Most_v2_3_step]
    simp only [ih]
    rfl

theorem laws_b10Most_v2_3_nat (φ : Nat) {ρ σ : Type} (f : ρ → Option σ) : ∀ (n : Nat) (lo0 : Nat) (len1 : Nat) (x2 : Nat) (n3 : Int) (n4 : Int) (b5 : Bool) (e6 : Nat) (l7 : (List Nat)) (k0 : Nat → Int → Option ρ), (laws_b10Most_v2_3 φ lo0 len1 n3 b5 e6 l7 n x2 n4 k0).bind f = laws_b10Most_v2_3 φ lo0 len1 n3 b5 e6 l7 n x2 n4 (fun x16 n18 => (k0 x16 n18).bind f) := by
  intro n
  induction n with
  | zero => intros; rfl
  | succ n ih =>
    intros
    simp only [laws_b10Most_v2_3, cond_bind, Option.bind_assoc, Option.bind_none, ih]

theorem laws_b10Most_v2_3_ok (hT : TOk P T) (φ : Nat) (hF : FOk P (F_43 φ)) (hm : P.follows .mixedOrders = true) : LoopOk P 1 (laws_b10Most_v2_3_s φ) (loopOf Try.f13 3) := by
  refine LoopOk.of_rounds (D := (evDraw T (F_43 φ))) (L := Lin_laws_b10Most_v2_3 φ) (keep := (hasN [0, 3, 6, 7])) hT hF (evDraw_ok hT hF hm) (LoopsOk.none 1 (loopOf Try.f13 3)) ?_
  intro st K out h
  unfold laws_b10Most_v2_3_s at h
  split at h
  · rename_i hq1 hq2
    obtain ⟨h1, h2⟩ := cond_inv h
    rw [Bool.and_eq_true] at h1
    refine ⟨h1.1, φ, ?_⟩
    rw [norm_spread rfl st hq1 hq2 (Nat.eq_of_beq_eq_true h1.2)]
    exact (laws_b10Most_v2_3_ev φ K φ _ _ _ _ _ _ _ _).trans h2
  · cases h

theorem laws_b10Most_v2_ev (φ : Nat) (lo2 : Nat) (len3 : Nat) (b4 : Bool) (e5 : Nat) (l6 : (List Nat)) : evFn T (F_43 φ) (evDraw T (F_43 φ)) (laws_b10Most_v2_L φ) Try.f13 [(.sub 0 lo2 len3 1)] [(.vec b4 e5 (.flt .f32) l6)] = laws_b10Most_v2 φ lo2 len3 b4 e5 l6 (fun r => some (laws_b10Most_v2_val r, [(.vec b4 e5 (.flt .f32) l6)])) := by kernel_rfl

theorem laws_b10Most_v2_nat (φ : Nat) (lo2 : Nat) (len3 : Nat) (b4 : Bool) (e5 : Nat) (l6 : (List Nat)) {ρ σ : Type} (k : Nat → Option ρ) (f : ρ → Option σ) : (laws_b10Most_v2 φ lo2 len3 b4 e5 l6 k).bind f = laws_b10Most_v2 φ lo2 len3 b4 e5 l6 (fun r => (k r).bind f) := by
  simp only [laws_b10Most_v2, cond_bind, Option.bind_assoc, Option.bind_none, laws_b10Most_v2_3_nat]

theorem laws_b10Most_v2_S (φ : Nat) (args : List AV) (h : List Blk) (r : Nat) (hr : S_laws_b10Most_v2 φ args h = some r) : ∃ (lo2 : Nat) (len3 : Nat) (b4 : Bool) (e5 : Nat) (l6 : (List Nat)), args = [(.sub 0 lo2 len3 1)] ∧ h = [(.vec b4 e5 (.flt .f32) l6)] ∧ laws_b10Most_v2 φ lo2 len3 b4 e5 l6 some = some r := by
  unfold S_laws_b10Most_v2 at hr
  split at hr
  · exact ⟨_, _, _, _, _, rfl, rfl, hr⟩
  · cases hr

theorem laws_b10Most_v2_ok (hT : TOk P T) (φ : Nat) (hF : FOk P (F_43 φ)) (hm : P.follows .mixedOrders = true) : SumOk P 13 (.rd (S_laws_b10Most_v2 φ) laws_b10Most_v2_val) := by
  refine rd_ok (fn := Try.f13) (c := bodyOf Try.f13) hT hF (evDraw_ok hT hF hm) (by kernel_rfl) (by kernel_rfl) (by kernel_rfl) ?_
  intro args h r hr
  obtain ⟨lo2, len3, b4, e5, l6, rfl, rfl, hq⟩ := laws_b10Most_v2_S φ args h r hr
  have e := laws_b10Most_v2_nat φ lo2 len3 b4 e5 l6 some (fun r => (some (laws_b10Most_v2_val r, [(.vec b4 e5 (.flt .f32) l6)]) : Option Out))
  rw [hq] at e
  exact ⟨laws_b10Most_v2_L φ, (LoopsOk.loop (show apartKeys 3 (loopsOf (bodyOf Try.f13)) = true from by kernel_rfl) (show Nat.blt 3 500000 = true from by kernel_rfl) (show findKey 3 (loopsOf (bodyOf Try.f13)) = some (loopOf Try.f13 3) from by kernel_rfl) (laws_b10Most_v2_3_ok hT φ hF hm) (LoopsOk.none 1 (bodyOf Try.f13))), (laws_b10Most_v2_ev φ lo2 len3 b4 e5 l6).trans e.symm⟩

end
end Go.Proofs.Ytedpmhnglbgihaa

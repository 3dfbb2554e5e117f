/-
  That they do so: function by function.
-/
import Derived.Test.YtedpmhnglbgihaaXD1
set_option linter.all false
set_option maxRecDepth 100000
set_option maxHeartbeats 4000000
namespace Go.Proofs.Ytedpmhnglbgihaa
open Go.Ev
noncomputable section

/-! ### impl_DifferTrace -/
theorem impl_DifferTrace_5_step (φ : Nat) (n2 : Int) (b3 : Bool) (e4 : Nat) (l5 : (List Nat)) (l6 : (List Nat)) (G : St → Option Out) (K : Kont) : evCode T (F_19 φ) (evDraw T (F_19 φ)) (Lin_impl_DifferTrace_5 φ) (loopOf Try.f10 5) (impl_DifferTrace_5_st n2 b3 e4 l5 l6) (round 1 (hasN [0, 4, 5]) G K) =
    bif (decide (n2 < (((List.length l5) : Nat) : Int))) then
      Option.bind (idx n2 (List.length l5)) fun r7 =>
      Option.bind (l5[r7]?) fun r8 =>
      Option.bind (idx (IntKind.wrap .i64 (n2 - (1 : Int))) (List.length l5)) fun r9 =>
      Option.bind (l5[r9]?) fun r10 =>
      Option.bind (idx n2 (List.length l6)) fun r11 =>
      Option.bind (l6[r11]?) fun r12 =>
      (G (impl_DifferTrace_5_st (IntKind.wrap .i64 (n2 + (1 : Int))) b3 e4 l5 (List.set l6 r11 (fsub .f32 r8 r10))))
    else
      (K (.exit 0) (St.mk (spread 0 31 [0, 4, 5] [(.whole 0), (.whole 1), (.int .i64 n2)]) [(.vec b3 e4 (.flt .f32) l5), (.vec Bool.true 34 (.flt .f32) l6)])) := by kernel_rfl

theorem impl_DifferTrace_5_ev (φ : Nat) (K : Kont) : ∀ (n : Nat) (n2 : Int) (b3 : Bool) (e4 : Nat) (l5 : (List Nat)) (l6 : (List Nat)), evLoop T (F_19 φ) (evDraw T (F_19 φ)) (Lin_impl_DifferTrace_5 φ) 1 (hasN [0, 4, 5]) (loopOf Try.f10 5) n (impl_DifferTrace_5_st n2 b3 e4 l5 l6) K = impl_DifferTrace_5 φ b3 e4 l5 n n2 l6 (fun n13 l17 => K (.exit 0) (St.mk (spread 0 31 [0, 4, 5] [(.whole 0), (.whole 1), (.int .i64 n13)]) [(.vec b3 e4 (.flt .f32) l5), (.vec Bool.true 34 (.flt .f32) l17)])) := by
  intro n
  induction n with
  | zero => intros; rfl
  | succ n ih =>
    intros
    rw [evLoop_succ, impl_DifferTrace_5_step]
    simp only [ih]
    rfl

theorem impl_DifferTrace_5_nat (φ : Nat) {ρ σ : Type} (f : ρ → Option σ) : ∀ (n : Nat) (n2 : Int) (b3 : Bool) (e4 : Nat) (l5 : (List Nat)) (l6 : (List Nat)) (k0 : Int → (List Nat) → Option ρ), (impl_DifferTrace_5 φ b3 e4 l5 n n2 l6 k0).bind f = impl_DifferTrace_5 φ b3 e4 l5 n n2 l6 (fun n13 l17 => (k0 n13 l17).bind f) := by
  intro n
  induction n with
  | zero => intros; rfl
  | succ n ih =>
    intros
    simp only [impl_DifferTrace_5, cond_bind, Option.bind_assoc, Option.bind_none, ih]

theorem impl_DifferTrace_5_ok (hT : TOk P T) (φ : Nat) (hF : FOk P (F_19 φ)) (hm : P.follows .mixedOrders = true) : LoopOk P 1 (impl_DifferTrace_5_s φ) (loopOf Try.f10 5) := by
  refine LoopOk.of_rounds (D := (evDraw T (F_19 φ))) (L := Lin_impl_DifferTrace_5 φ) (keep := (hasN [0, 4, 5])) hT hF (evDraw_ok hT hF hm) (LoopsOk.none 1 (loopOf Try.f10 5)) ?_
  intro st K out h
  unfold impl_DifferTrace_5_s at h
  split at h
  · rename_i hq1 hq2
    obtain ⟨h1, h2⟩ := cond_inv h
    rw [Bool.and_eq_true] at h1
    refine ⟨h1.1, φ, ?_⟩
    rw [norm_spread rfl st hq1 hq2 (Nat.eq_of_beq_eq_true h1.2)]
    exact (impl_DifferTrace_5_ev φ K φ _ _ _ _ _).trans h2
  · cases h

theorem impl_DifferTrace_ev (φ : Nat) (b2 : Bool) (e3 : Nat) (l4 : (List Nat)) : evFn T (F_19 φ) (evDraw T (F_19 φ)) (impl_DifferTrace_L φ) Try.f10 [(.whole 0)] [(.vec b2 e3 (.flt .f32) l4)] = impl_DifferTrace φ b2 e3 l4 (fun r => some ((impl_DifferTrace_val r).1, [(.vec b2 e3 (.flt .f32) l4)] ++ (impl_DifferTrace_val r).2)) := by kernel_rfl

theorem impl_DifferTrace_nat (φ : Nat) (b2 : Bool) (e3 : Nat) (l4 : (List Nat)) {ρ σ : Type} (k : (Bool × (List Nat)) → Option ρ) (f : ρ → Option σ) : (impl_DifferTrace φ b2 e3 l4 k).bind f = impl_DifferTrace φ b2 e3 l4 (fun r => (k r).bind f) := by
  simp only [impl_DifferTrace, cond_bind, Option.bind_assoc, Option.bind_none, impl_DifferTrace_5_nat]

theorem impl_DifferTrace_S (φ : Nat) (args : List AV) (h : List Blk) (r : (Bool × (List Nat))) (hr : S_impl_DifferTrace φ args h = some r) : ∃ (b2 : Bool) (e3 : Nat) (l4 : (List Nat)), args = [(.whole 0)] ∧ h = [(.vec b2 e3 (.flt .f32) l4)] ∧ impl_DifferTrace φ b2 e3 l4 some = some r := by
  unfold S_impl_DifferTrace at hr
  split at hr
  · exact ⟨_, _, _, rfl, rfl, hr⟩
  · cases hr

theorem impl_DifferTrace_ok (hT : TOk P T) (φ : Nat) (hF : FOk P (F_19 φ)) (hm : P.follows .mixedOrders = true) : SumOk P 10 (.mk (S_impl_DifferTrace φ) impl_DifferTrace_val) := by
  refine mk_ok (fn := Try.f10) (c := bodyOf Try.f10) hT hF (evDraw_ok hT hF hm) (by kernel_rfl) (by kernel_rfl) (by kernel_rfl) ?_
  intro args h r hr
  obtain ⟨b2, e3, l4, rfl, rfl, hq⟩ := impl_DifferTrace_S φ args h r hr
  have e := impl_DifferTrace_nat φ b2 e3 l4 some (fun r => (some ((impl_DifferTrace_val r).1, [(.vec b2 e3 (.flt .f32) l4)] ++ (impl_DifferTrace_val r).2) : Option Out))
  rw [hq] at e
  exact ⟨impl_DifferTrace_L φ, (LoopsOk.loop (show apartKeys 5 (loopsOf (bodyOf Try.f10)) = true from by kernel_rfl) (show Nat.blt 5 500000 = true from by kernel_rfl) (show findKey 5 (loopsOf (bodyOf Try.f10)) = some (loopOf Try.f10 5) from by kernel_rfl) (impl_DifferTrace_5_ok hT φ hF hm) (LoopsOk.none 1 (bodyOf Try.f10))), (impl_DifferTrace_ev φ b2 e3 l4).trans e.symm⟩

/-! ### impl_IntegrateTrace -/
theorem impl_IntegrateTrace_6_step (φ : Nat) (x1 : Nat) (n2 : Int) (n3 : Int) (b4 : Bool) (e5 : Nat) (l6 : (List Nat)) (l7 : (List Nat)) (G : St → Option Out) (K : Kont) : evCode T (F_20 φ) (evDraw T (F_20 φ)) (Lin_impl_IntegrateTrace_6 φ) (loopOf Try.f11 6) (impl_IntegrateTrace_6_st x1 n2 n3 b4 e5 l6 l7) (round 1 (hasN [4, 5, 11, 12, 13]) G K) =
    bif (decide (n3 < n2)) then
      Option.bind (idx n3 (List.length l6)) fun r8 =>
      Option.bind (l6[r8]?) fun r9 =>
      Option.bind (room ((Nat.add (List.length l7) 0) + 1) 4) fun r10 =>
      (G (impl_IntegrateTrace_6_st (fadd .f32 x1 r9) n2 (IntKind.wrap .i64 (n3 + (1 : Int))) b4 e5 l6 (l7 ++ [(fadd .f32 x1 r9)])))
    else
      (K (.exit 0) (St.mk (spread 0 26 [4, 5, 11, 12, 13] [(.whole 1), (.flt .f32 x1), (.whole 0), (.int .i64 n2), (.int .i64 n3)]) [(.vec b4 e5 (.flt .f32) l6), (.vec Bool.true 34 (.flt .f32) l7)])) := by kernel_rfl

theorem impl_IntegrateTrace_6_ev (φ : Nat) (K : Kont) : ∀ (n : Nat) (x1 : Nat) (n2 : Int) (n3 : Int) (b4 : Bool) (e5 : Nat) (l6 : (List Nat)) (l7 : (List Nat)), evLoop T (F_20 φ) (evDraw T (F_20 φ)) (Lin_impl_IntegrateTrace_6 φ) 1 (hasN [4, 5, 11, 12, 13]) (loopOf Try.f11 6) n (impl_IntegrateTrace_6_st x1 n2 n3 b4 e5 l6 l7) K = impl_IntegrateTrace_6 φ n2 b4 e5 l6 n x1 n3 l7 (fun x11 n13 l17 => K (.exit 0) (St.mk (spread 0 26 [4, 5, 11, 12, 13] [(.whole 1), (.flt .f32 x11), (.whole 0), (.int .i64 n2), (.int .i64 n13)]) [(.vec b4 e5 (.flt .f32) l6), (.vec Bool.true 34 (.flt .f32) l17)])) := by
  intro n
  induction n with
  | zero => intros; rfl
  | succ n ih =>
    intros
    rw [evLoop_succ, impl_IntegrateTrace_6_step]
    simp only [ih]
    rfl

theorem impl_IntegrateTrace_6_nat (φ : Nat) {ρ σ : Type} (f : ρ → Option σ) : ∀ (n : Nat) (x1 : Nat) (n2 : Int) (n3 : Int) (b4 : Bool) (e5 : Nat) (l6 : (List Nat)) (l7 : (List Nat)) (k0 : Nat → Int → (List Nat) → Option ρ), (impl_IntegrateTrace_6 φ n2 b4 e5 l6 n x1 n3 l7 k0).bind f = impl_IntegrateTrace_6 φ n2 b4 e5 l6 n x1 n3 l7 (fun x11 n13 l17 => (k0 x11 n13 l17).bind f) := by
  intro n
  induction n with
  | zero => intros; rfl
  | succ n ih =>
    intros
    simp only [impl_IntegrateTrace_6, cond_bind, Option.bind_assoc, Option.bind_none, ih]

theorem impl_IntegrateTrace_6_ok (hT : TOk P T) (φ : Nat) (hF : FOk P (F_20 φ)) (hm : P.follows .mixedOrders = true) : LoopOk P 1 (impl_IntegrateTrace_6_s φ) (loopOf Try.f11 6) := by
  refine LoopOk.of_rounds (D := (evDraw T (F_20 φ))) (L := Lin_impl_IntegrateTrace_6 φ) (keep := (hasN [4, 5, 11, 12, 13])) hT hF (evDraw_ok hT hF hm) (LoopsOk.none 1 (loopOf Try.f11 6)) ?_
  intro st K out h
  unfold impl_IntegrateTrace_6_s at h
  split at h
  · rename_i hq1 hq2
    obtain ⟨h1, h2⟩ := cond_inv h
    rw [Bool.and_eq_true] at h1
    refine ⟨h1.1, φ, ?_⟩
    rw [norm_spread rfl st hq1 hq2 (Nat.eq_of_beq_eq_true h1.2)]
    exact (impl_IntegrateTrace_6_ev φ K φ _ _ _ _ _ _ _).trans h2
  · cases h

theorem impl_IntegrateTrace_ev (φ : Nat) (b2 : Bool) (e3 : Nat) (l4 : (List Nat)) : evFn T (F_20 φ) (evDraw T (F_20 φ)) (impl_IntegrateTrace_L φ) Try.f11 [(.whole 0)] [(.vec b2 e3 (.flt .f32) l4)] = impl_IntegrateTrace φ b2 e3 l4 (fun r => some ((impl_IntegrateTrace_val r).1, [(.vec b2 e3 (.flt .f32) l4)] ++ (impl_IntegrateTrace_val r).2)) := by kernel_rfl

theorem impl_IntegrateTrace_nat (φ : Nat) (b2 : Bool) (e3 : Nat) (l4 : (List Nat)) {ρ σ : Type} (k : (Bool × (List Nat)) → Option ρ) (f : ρ → Option σ) : (impl_IntegrateTrace φ b2 e3 l4 k).bind f = impl_IntegrateTrace φ b2 e3 l4 (fun r => (k r).bind f) := by
  simp only [impl_IntegrateTrace, cond_bind, Option.bind_assoc, Option.bind_none, impl_IntegrateTrace_6_nat]

theorem impl_IntegrateTrace_S (φ : Nat) (args : List AV) (h : List Blk) (r : (Bool × (List Nat))) (hr : S_impl_IntegrateTrace φ args h = some r) : ∃ (b2 : Bool) (e3 : Nat) (l4 : (List Nat)), args = [(.whole 0)] ∧ h = [(.vec b2 e3 (.flt .f32) l4)] ∧ impl_IntegrateTrace φ b2 e3 l4 some = some r := by
  unfold S_impl_IntegrateTrace at hr
  split at hr
  · exact ⟨_, _, _, rfl, rfl, hr⟩
  · cases hr

theorem impl_IntegrateTrace_ok (hT : TOk P T) (φ : Nat) (hF : FOk P (F_20 φ)) (hm : P.follows .mixedOrders = true) : SumOk P 11 (.mk (S_impl_IntegrateTrace φ) impl_IntegrateTrace_val) := by
  refine mk_ok (fn := Try.f11) (c := bodyOf Try.f11) hT hF (evDraw_ok hT hF hm) (by kernel_rfl) (by kernel_rfl) (by kernel_rfl) ?_
  intro args h r hr
  obtain ⟨b2, e3, l4, rfl, rfl, hq⟩ := impl_IntegrateTrace_S φ args h r hr
  have e := impl_IntegrateTrace_nat φ b2 e3 l4 some (fun r => (some ((impl_IntegrateTrace_val r).1, [(.vec b2 e3 (.flt .f32) l4)] ++ (impl_IntegrateTrace_val r).2) : Option Out))
  rw [hq] at e
  exact ⟨impl_IntegrateTrace_L φ, (LoopsOk.loop (show apartKeys 6 (loopsOf (bodyOf Try.f11)) = true from by kernel_rfl) (show Nat.blt 6 500000 = true from by kernel_rfl) (show findKey 6 (loopsOf (bodyOf Try.f11)) = some (loopOf Try.f11 6) from by kernel_rfl) (impl_IntegrateTrace_6_ok hT φ hF hm) (LoopsOk.none 1 (bodyOf Try.f11))), (impl_IntegrateTrace_ev φ b2 e3 l4).trans e.symm⟩

/-! ### laws_b10Gap -/
theorem laws_b10Gap_ev (φ : Nat) (x0 : Nat) (x1 : Nat) : evFn T (F_21 φ) (evDraw T (F_21 φ)) (laws_b10Gap_L φ) Try.f16 [(.flt .f64 x0), (.flt .f64 x1)] [] = laws_b10Gap φ x0 x1 (fun r => some (laws_b10Gap_val r, [])) := by kernel_rfl

theorem laws_b10Gap_nat (φ : Nat) (x0 : Nat) (x1 : Nat) {ρ σ : Type} (k : Nat → Option ρ) (f : ρ → Option σ) : (laws_b10Gap φ x0 x1 k).bind f = laws_b10Gap φ x0 x1 (fun r => (k r).bind f) := by
  simp only [laws_b10Gap, cond_bind, Option.bind_assoc, Option.bind_none]

theorem laws_b10Gap_S (φ : Nat) (args : List AV) (h : List Blk) (r : Nat) (hr : S_laws_b10Gap φ args h = some r) : ∃ (x0 : Nat) (x1 : Nat), args = [(.flt .f64 x0), (.flt .f64 x1)] ∧ h = [] ∧ laws_b10Gap φ x0 x1 some = some r := by
  unfold S_laws_b10Gap at hr
  split at hr
  · exact ⟨_, _, rfl, rfl, hr⟩
  · cases hr

theorem laws_b10Gap_ok (hT : TOk P T) (φ : Nat) (hF : FOk P (F_21 φ)) (hm : P.follows .mixedOrders = true) : SumOk P 16 (.rd (S_laws_b10Gap φ) laws_b10Gap_val) := by
  refine rd_ok (fn := Try.f16) (c := bodyOf Try.f16) hT hF (evDraw_ok hT hF hm) (by kernel_rfl) (by kernel_rfl) (by kernel_rfl) ?_
  intro args h r hr
  obtain ⟨x0, x1, rfl, rfl, hq⟩ := laws_b10Gap_S φ args h r hr
  have e := laws_b10Gap_nat φ x0 x1 some (fun r => (some (laws_b10Gap_val r, []) : Option Out))
  rw [hq] at e
  exact ⟨laws_b10Gap_L φ, (LoopsOk.none 0 (bodyOf Try.f16)), (laws_b10Gap_ev φ x0 x1).trans e.symm⟩

/-! ### laws_b10Alike -/
theorem laws_b10Alike_4_step (φ : Nat) (x0 : Nat) (b1 : Bool) (n2 : Int) (n3 : Int) (b4 : Bool) (e5 : Nat) (l6 : (List Nat)) (b7 : Bool) (e8 : Nat) (l9 : (List Nat)) (G : St → Option Out) (K : Kont) : evCode T (F_22 φ) (evDraw T (F_22 φ)) (Lin_laws_b10Alike_4 φ) (loopOf Try.f12 4) (laws_b10Alike_4_st x0 b1 n2 n3 b4 e5 l6 b7 e8 l9) (round 2 (hasN [0, 1, 2, 6, 14, 15]) G K) =
    bif (decide (n3 < n2)) then
      Option.bind (idx n3 (List.length l6)) fun r10 =>
      Option.bind (l6[r10]?) fun r11 =>
      Option.bind (fconv .f32 r11 .f64) fun r12 =>
      Option.bind (idx n3 (List.length l9)) fun r13 =>
      Option.bind (l9[r13]?) fun r14 =>
      Option.bind (fconv .f32 r14 .f64) fun r15 =>
      Option.bind (laws_b10Gap φ r12 r15 some) fun r16 =>
      bif (!(fle .f64 r16 x0)) then
        (K .ret (St.mk (spread 0 33 [0, 1, 2, 6, 14, 15] [(.whole 0), (.whole 1), (.flt .f64 x0), (.bool Bool.false), (.int .i64 n2), (.int .i64 n3)]) [(.vec b4 e5 (.flt .f32) l6), (.vec b7 e8 (.flt .f32) l9)]))
      else
        (G (laws_b10Alike_4_st x0 b1 n2 (IntKind.wrap .i64 (n3 + (1 : Int))) b4 e5 l6 b7 e8 l9))
    else
      (K (.exit 0) (St.mk (spread 0 33 [0, 1, 2, 6, 14, 15] [(.whole 0), (.whole 1), (.flt .f64 x0), (.bool b1), (.int .i64 n2), (.int .i64 n3)]) [(.vec b4 e5 (.flt .f32) l6), (.vec b7 e8 (.flt .f32) l9)])) := by kernel_rfl

theorem laws_b10Alike_4_ev (φ : Nat) (K : Kont) : ∀ (n : Nat) (x0 : Nat) (b1 : Bool) (n2 : Int) (n3 : Int) (b4 : Bool) (e5 : Nat) (l6 : (List Nat)) (b7 : Bool) (e8 : Nat) (l9 : (List Nat)), evLoop T (F_22 φ) (evDraw T (F_22 φ)) (Lin_laws_b10Alike_4 φ) 2 (hasN [0, 1, 2, 6, 14, 15]) (loopOf Try.f12 4) n (laws_b10Alike_4_st x0 b1 n2 n3 b4 e5 l6 b7 e8 l9) K = laws_b10Alike_4 φ x0 b1 n2 b4 e5 l6 b7 e8 l9 n n3 (fun n20 => K .ret (St.mk (spread 0 33 [0, 1, 2, 6, 14, 15] [(.whole 0), (.whole 1), (.flt .f64 x0), (.bool Bool.false), (.int .i64 n2), (.int .i64 n20)]) [(.vec b4 e5 (.flt .f32) l6), (.vec b7 e8 (.flt .f32) l9)])) (fun n30 => K (.exit 0) (St.mk (spread 0 33 [0, 1, 2, 6, 14, 15] [(.whole 0), (.whole 1), (.flt .f64 x0), (.bool b1), (.int .i64 n2), (.int .i64 n30)]) [(.vec b4 e5 (.flt .f32) l6), (.vec b7 e8 (.flt .f32) l9)])) := by
  intro n
  induction n with
  | zero => intros; rfl
  | succ n ih =>
    intros
    rw [evLoop_succ, laws_b10Alike_4_step]
    simp only [ih]
    rfl

theorem laws_b10Alike_4_nat (φ : Nat) {ρ σ : Type} (f : ρ → Option σ) : ∀ (n : Nat) (x0 : Nat) (b1 : Bool) (n2 : Int) (n3 : Int) (b4 : Bool) (e5 : Nat) (l6 : (List Nat)) (b7 : Bool) (e8 : Nat) (l9 : (List Nat)) (k0 : Int → Option ρ) (k1 : Int → Option ρ), (laws_b10Alike_4 φ x0 b1 n2 b4 e5 l6 b7 e8 l9 n n3 k0 k1).bind f = laws_b10Alike_4 φ x0 b1 n2 b4 e5 l6 b7 e8 l9 n n3 (fun n20 => (k0 n20).bind f) (fun n30 => (k1 n30).bind f) := by
  intro n
  induction n with
  | zero => intros; rfl
  | succ n ih =>
    intros
    simp only [laws_b10Alike_4, cond_bind, Option.bind_assoc, Option.bind_none, ih]

theorem laws_b10Alike_4_ok (hT : TOk P T) (φ : Nat) (hF : FOk P (F_22 φ)) (hm : P.follows .mixedOrders = true) : LoopOk P 2 (laws_b10Alike_4_s φ) (loopOf Try.f12 4) := by
  refine LoopOk.of_rounds (D := (evDraw T (F_22 φ))) (L := Lin_laws_b10Alike_4 φ) (keep := (hasN [0, 1, 2, 6, 14, 15])) hT hF (evDraw_ok hT hF hm) (LoopsOk.none 2 (loopOf Try.f12 4)) ?_
  intro st K out h
  unfold laws_b10Alike_4_s at h
  split at h
  · rename_i hq1 hq2
    obtain ⟨h1, h2⟩ := cond_inv h
    rw [Bool.and_eq_true] at h1
    refine ⟨h1.1, φ, ?_⟩
    rw [norm_spread rfl st hq1 hq2 (Nat.eq_of_beq_eq_true h1.2)]
    exact (laws_b10Alike_4_ev φ K φ _ _ _ _ _ _ _ _ _ _).trans h2
  · cases h

theorem laws_b10Alike_ev (φ : Nat) (x4 : Nat) (b5 : Bool) (e6 : Nat) (l7 : (List Nat)) (b8 : Bool) (e9 : Nat) (l10 : (List Nat)) : evFn T (F_22 φ) (evDraw T (F_22 φ)) (laws_b10Alike_L φ) Try.f12 [(.whole 0), (.whole 1), (.flt .f64 x4)] [(.vec b5 e6 (.flt .f32) l7), (.vec b8 e9 (.flt .f32) l10)] = laws_b10Alike φ x4 b5 e6 l7 b8 e9 l10 (fun r => some (laws_b10Alike_val r, [(.vec b5 e6 (.flt .f32) l7), (.vec b8 e9 (.flt .f32) l10)])) := by kernel_rfl

theorem laws_b10Alike_nat (φ : Nat) (x4 : Nat) (b5 : Bool) (e6 : Nat) (l7 : (List Nat)) (b8 : Bool) (e9 : Nat) (l10 : (List Nat)) {ρ σ : Type} (k : Bool → Option ρ) (f : ρ → Option σ) : (laws_b10Alike φ x4 b5 e6 l7 b8 e9 l10 k).bind f = laws_b10Alike φ x4 b5 e6 l7 b8 e9 l10 (fun r => (k r).bind f) := by
  simp only [laws_b10Alike, cond_bind, Option.bind_assoc, Option.bind_none, laws_b10Alike_4_nat]

theorem laws_b10Alike_S (φ : Nat) (args : List AV) (h : List Blk) (r : Bool) (hr : S_laws_b10Alike φ args h = some r) : ∃ (x4 : Nat) (b5 : Bool) (e6 : Nat) (l7 : (List Nat)) (b8 : Bool) (e9 : Nat) (l10 : (List Nat)), args = [(.whole 0), (.whole 1), (.flt .f64 x4)] ∧ h = [(.vec b5 e6 (.flt .f32) l7), (.vec b8 e9 (.flt .f32) l10)] ∧ laws_b10Alike φ x4 b5 e6 l7 b8 e9 l10 some = some r := by
  unfold S_laws_b10Alike at hr
  split at hr
  · exact ⟨_, _, _, _, _, _, _, rfl, rfl, hr⟩
  · cases hr

theorem laws_b10Alike_ok (hT : TOk P T) (φ : Nat) (hF : FOk P (F_22 φ)) (hm : P.follows .mixedOrders = true) : SumOk P 12 (.rd (S_laws_b10Alike φ) laws_b10Alike_val) := by
  refine rd_ok (fn := Try.f12) (c := bodyOf Try.f12) hT hF (evDraw_ok hT hF hm) (by kernel_rfl) (by kernel_rfl) (by kernel_rfl) ?_
  intro args h r hr
  obtain ⟨x4, b5, e6, l7, b8, e9, l10, rfl, rfl, hq⟩ := laws_b10Alike_S φ args h r hr
  have e := laws_b10Alike_nat φ x4 b5 e6 l7 b8 e9 l10 some (fun r => (some (laws_b10Alike_val r, [(.vec b5 e6 (.flt .f32) l7), (.vec b8 e9 (.flt .f32) l10)]) : Option Out))
  rw [hq] at e
  exact ⟨laws_b10Alike_L φ, (LoopsOk.loop (show apartKeys 4 (loopsOf (bodyOf Try.f12)) = true from by kernel_rfl) (show Nat.blt 4 500000 = true from by kernel_rfl) (show findKey 4 (loopsOf (bodyOf Try.f12)) = some (loopOf Try.f12 4) from by kernel_rfl) (laws_b10Alike_4_ok hT φ hF hm) (LoopsOk.none 2 (bodyOf Try.f12))), (laws_b10Alike_ev φ x4 b5 e6 l7 b8 e9 l10).trans e.symm⟩

/-! ### laws_b10Most -/
theorem laws_b10Most_3_step (φ : Nat) (x0 : Nat) (n1 : Int) (n2 : Int) (b3 : Bool) (e4 : Nat) (l5 : (List Nat)) (G : St → Option Out) (K : Kont) : evCode T (F_23 φ) (evDraw T (F_23 φ)) (Lin_laws_b10Most_3 φ) (loopOf Try.f13 3) (laws_b10Most_3_st x0 n1 n2 b3 e4 l5) (round 1 (hasN [0, 3, 6, 7]) G K) =
    bif (decide (n2 < n1)) then
      Option.bind (idx n2 (List.length l5)) fun r6 =>
      Option.bind (l5[r6]?) fun r7 =>
      Option.bind (fconv .f32 r7 .f64) fun r8 =>
      Option.bind (idx n2 (List.length l5)) fun r9 =>
      Option.bind (l5[r9]?) fun r10 =>
      Option.bind (fconv .f32 r10 .f64) fun r11 =>
      (G (laws_b10Most_3_st (bif Bool.true then (fmax .f64 (bif Bool.true then (fmax .f64 x0 r8) else (fmin .f64 x0 r8)) (fneg .f64 r11)) else (fmin .f64 (bif Bool.true then (fmax .f64 x0 r8) else (fmin .f64 x0 r8)) (fneg .f64 r11))) n1 (IntKind.wrap .i64 (n2 + (1 : Int))) b3 e4 l5))
    else
      (K (.exit 0) (St.mk (spread 0 25 [0, 3, 6, 7] [(.whole 0), (.flt .f64 x0), (.int .i64 n1), (.int .i64 n2)]) [(.vec b3 e4 (.flt .f32) l5)])) := by kernel_rfl

theorem laws_b10Most_3_ev (φ : Nat) (K : Kont) : ∀ (n : Nat) (x0 : Nat) (n1 : Int) (n2 : Int) (b3 : Bool) (e4 : Nat) (l5 : (List Nat)), evLoop T (F_23 φ) (evDraw T (F_23 φ)) (Lin_laws_b10Most_3 φ) 1 (hasN [0, 3, 6, 7]) (loopOf Try.f13 3) n (laws_b10Most_3_st x0 n1 n2 b3 e4 l5) K = laws_b10Most_3 φ n1 b3 e4 l5 n x0 n2 (fun x12 n14 => K (.exit 0) (St.mk (spread 0 25 [0, 3, 6, 7] [(.whole 0), (.flt .f64 x12), (.int .i64 n1), (.int .i64 n14)]) [(.vec b3 e4 (.flt .f32) l5)])) := by
  intro n
  induction n with
  | zero => intros; rfl
  | succ n ih =>
    intros
    rw [evLoop_succ, laws_b10Most_3_step]
    simp only [ih]
    rfl

theorem laws_b10Most_3_nat (φ : Nat) {ρ σ : Type} (f : ρ → Option σ) : ∀ (n : Nat) (x0 : Nat) (n1 : Int) (n2 : Int) (b3 : Bool) (e4 : Nat) (l5 : (List Nat)) (k0 : Nat → Int → Option ρ), (laws_b10Most_3 φ n1 b3 e4 l5 n x0 n2 k0).bind f = laws_b10Most_3 φ n1 b3 e4 l5 n x0 n2 (fun x12 n14 => (k0 x12 n14).bind f) := by
  intro n
  induction n with
  | zero => intros; rfl
  | succ n ih =>
    intros
    simp only [laws_b10Most_3, cond_bind, Option.bind_assoc, Option.bind_none, ih]

theorem laws_b10Most_3_ok (hT : TOk P T) (φ : Nat) (hF : FOk P (F_23 φ)) (hm : P.follows .mixedOrders = true) : LoopOk P 1 (laws_b10Most_3_s φ) (loopOf Try.f13 3) := by
  refine LoopOk.of_rounds (D := (evDraw T (F_23 φ))) (L := Lin_laws_b10Most_3 φ) (keep := (hasN [0, 3, 6, 7])) hT hF (evDraw_ok hT hF hm) (LoopsOk.none 1 (loopOf Try.f13 3)) ?_
  intro st K out h
  unfold laws_b10Most_3_s at h
  split at h
  · rename_i hq1 hq2
    obtain ⟨h1, h2⟩ := cond_inv h
    rw [Bool.and_eq_true] at h1
    refine ⟨h1.1, φ, ?_⟩
    rw [norm_spread rfl st hq1 hq2 (Nat.eq_of_beq_eq_true h1.2)]
    exact (laws_b10Most_3_ev φ K φ _ _ _ _ _ _).trans h2
  · cases h

theorem laws_b10Most_ev (φ : Nat) (b2 : Bool) (e3 : Nat) (l4 : (List Nat)) : evFn T (F_23 φ) (evDraw T (F_23 φ)) (laws_b10Most_L φ) Try.f13 [(.whole 0)] [(.vec b2 e3 (.flt .f32) l4)] = laws_b10Most φ b2 e3 l4 (fun r => some (laws_b10Most_val r, [(.vec b2 e3 (.flt .f32) l4)])) := by kernel_rfl

theorem laws_b10Most_nat (φ : Nat) (b2 : Bool) (e3 : Nat) (l4 : (List Nat)) {ρ σ : Type} (k : Nat → Option ρ) (f : ρ → Option σ) : (laws_b10Most φ b2 e3 l4 k).bind f = laws_b10Most φ b2 e3 l4 (fun r => (k r).bind f) := by
  simp only [laws_b10Most, cond_bind, Option.bind_assoc, Option.bind_none, laws_b10Most_3_nat]

theorem laws_b10Most_S (φ : Nat) (args : List AV) (h : List Blk) (r : Nat) (hr : S_laws_b10Most φ args h = some r) : ∃ (b2 : Bool) (e3 : Nat) (l4 : (List Nat)), args = [(.whole 0)] ∧ h = [(.vec b2 e3 (.flt .f32) l4)] ∧ laws_b10Most φ b2 e3 l4 some = some r := by
  unfold S_laws_b10Most at hr
  split at hr
  · exact ⟨_, _, _, rfl, rfl, hr⟩
  · cases hr

theorem laws_b10Most_ok (hT : TOk P T) (φ : Nat) (hF : FOk P (F_23 φ)) (hm : P.follows .mixedOrders = true) : SumOk P 13 (.rd (S_laws_b10Most φ) laws_b10Most_val) := by
  refine rd_ok (fn := Try.f13) (c := bodyOf Try.f13) hT hF (evDraw_ok hT hF hm) (by kernel_rfl) (by kernel_rfl) (by kernel_rfl) ?_
  intro args h r hr
  obtain ⟨b2, e3, l4, rfl, rfl, hq⟩ := laws_b10Most_S φ args h r hr
  have e := laws_b10Most_nat φ b2 e3 l4 some (fun r => (some (laws_b10Most_val r, [(.vec b2 e3 (.flt .f32) l4)]) : Option Out))
  rw [hq] at e
  exact ⟨laws_b10Most_L φ, (LoopsOk.loop (show apartKeys 3 (loopsOf (bodyOf Try.f13)) = true from by kernel_rfl) (show Nat.blt 3 500000 = true from by kernel_rfl) (show findKey 3 (loopsOf (bodyOf Try.f13)) = some (loopOf Try.f13 3) from by kernel_rfl) (laws_b10Most_3_ok hT φ hF hm) (LoopsOk.none 1 (bodyOf Try.f13))), (laws_b10Most_ev φ b2 e3 l4).trans e.symm⟩

/-! ### math_NaN -/
theorem math_NaN_ev (φ : Nat) : evFn T (F_24 φ) (evDraw T (F_24 φ)) (math_NaN_L φ) Try.f41 [] [] = math_NaN φ  (fun r => some (math_NaN_val r, [])) := by kernel_rfl

theorem math_NaN_nat (φ : Nat) {ρ σ : Type} (k : Nat → Option ρ) (f : ρ → Option σ) : (math_NaN φ  k).bind f = math_NaN φ  (fun r => (k r).bind f) := by
  simp only [math_NaN, cond_bind, Option.bind_assoc, Option.bind_none]

theorem math_NaN_S (φ : Nat) (args : List AV) (h : List Blk) (r : Nat) (hr : S_math_NaN φ args h = some r) : args = [] ∧ h = [] ∧ math_NaN φ  some = some r := by
  unfold S_math_NaN at hr
  split at hr
  · exact ⟨rfl, rfl, hr⟩
  · cases hr

theorem math_NaN_ok (hT : TOk P T) (φ : Nat) (hF : FOk P (F_24 φ)) (hm : P.follows .mixedOrders = true) : SumOk P 41 (.rd (S_math_NaN φ) math_NaN_val) := by
  refine rd_ok (fn := Try.f41) (c := bodyOf Try.f41) hT hF (evDraw_ok hT hF hm) (by kernel_rfl) (by kernel_rfl) (by kernel_rfl) ?_
  intro args h r hr
  obtain ⟨rfl, rfl, hq⟩ := math_NaN_S φ args h r hr
  have e := math_NaN_nat φ  some (fun r => (some (math_NaN_val r, []) : Option Out))
  rw [hq] at e
  exact ⟨math_NaN_L φ, (LoopsOk.none 0 (bodyOf Try.f41)), (math_NaN_ev φ ).trans e.symm⟩

/-! ### spec_l01SineWide -/
theorem spec_l01SineWide_17_step (φ : Nat) (b12 : Bool) (x13 : Nat) (x14 : Nat) (x15 : Nat) (n16 : Int) (G : St → Option Out) (K : Kont) : evCode T (F_25 φ) (evDraw T (F_25 φ)) (Lin_spec_l01SineWide_17 φ) (loopOf Try.f39 17) (spec_l01SineWide_17_st b12 x13 x14 x15 n16) (round 0 (hasN [4, 5, 6, 7, 8]) G K) =
    bif (decide (n16 ≥ (1 : Int))) then
      (G (spec_l01SineWide_17_st b12 x13 x14 (fsub .f64 (can .f64 4607182418800017408) (fdiv .f64 (fmul .f64 x14 x15) (itof .f64 (IntKind.wrap .i64 ((IntKind.wrap .i64 ((2 : Int) * n16)) * (IntKind.wrap .i64 ((IntKind.wrap .i64 ((2 : Int) * n16)) + (1 : Int)))))))) (IntKind.wrap .i64 (n16 - (1 : Int)))))
    else
      (K (.exit 0) (St.mk (spread 0 67 [4, 5, 6, 7, 8] [(.bool b12), (.flt .f64 x13), (.flt .f64 x14), (.flt .f64 x15), (.int .i64 n16)]) [])) := by kernel_rfl

theorem spec_l01SineWide_17_ev (φ : Nat) (K : Kont) : ∀ (n : Nat) (b12 : Bool) (x13 : Nat) (x14 : Nat) (x15 : Nat) (n16 : Int), evLoop T (F_25 φ) (evDraw T (F_25 φ)) (Lin_spec_l01SineWide_17 φ) 0 (hasN [4, 5, 6, 7, 8]) (loopOf Try.f39 17) n (spec_l01SineWide_17_st b12 x13 x14 x15 n16) K = spec_l01SineWide_17 φ b12 x13 x14 n x15 n16 (fun x20 n21 => K (.exit 0) (St.mk (spread 0 67 [4, 5, 6, 7, 8] [(.bool b12), (.flt .f64 x13), (.flt .f64 x14), (.flt .f64 x20), (.int .i64 n21)]) [])) := by
  intro n
  induction n with
  | zero => intros; rfl
  | succ n ih =>
    intros
    rw [evLoop_succ, spec_l01SineWide_17_step]
    simp only [ih]
    rfl

theorem spec_l01SineWide_17_nat (φ : Nat) {ρ σ : Type} (f : ρ → Option σ) : ∀ (n : Nat) (b12 : Bool) (x13 : Nat) (x14 : Nat) (x15 : Nat) (n16 : Int) (k0 : Nat → Int → Option ρ), (spec_l01SineWide_17 φ b12 x13 x14 n x15 n16 k0).bind f = spec_l01SineWide_17 φ b12 x13 x14 n x15 n16 (fun x20 n21 => (k0 x20 n21).bind f) := by
  intro n
  induction n with
  | zero => intros; rfl
  | succ n ih =>
    intros
    simp only [spec_l01SineWide_17, cond_bind, Option.bind_assoc, Option.bind_none, ih]

theorem spec_l01SineWide_17_ok (hT : TOk P T) (φ : Nat) (hF : FOk P (F_25 φ)) (hm : P.follows .mixedOrders = true) : LoopOk P 0 (spec_l01SineWide_17_s φ) (loopOf Try.f39 17) := by
  refine LoopOk.of_rounds (D := (evDraw T (F_25 φ))) (L := Lin_spec_l01SineWide_17 φ) (keep := (hasN [4, 5, 6, 7, 8])) hT hF (evDraw_ok hT hF hm) (LoopsOk.none 0 (loopOf Try.f39 17)) ?_
  intro st K out h
  unfold spec_l01SineWide_17_s at h
  split at h
  · rename_i hq1 hq2
    obtain ⟨h1, h2⟩ := cond_inv h
    rw [Bool.and_eq_true] at h1
    refine ⟨h1.1, φ, ?_⟩
    rw [norm_spread rfl st hq1 hq2 (Nat.eq_of_beq_eq_true h1.2)]
    exact (spec_l01SineWide_17_ev φ K φ _ _ _ _ _).trans h2
  · cases h

theorem spec_l01SineWide_c13_ev (φ : Nat) (K : Kont) (x9 : Nat) (x10 : Nat) (b11 : Bool) : evCode T (F_25 φ) (evDraw T (F_25 φ)) (Lin_spec_l01SineWide_c13 φ) (tailOf Try.f39 13) (spec_l01SineWide_c13_st x9 x10 b11) (once 0 (hasN [2, 3, 4]) K) = spec_l01SineWide_c13 φ x9 x10 b11 (fun x24 => K .ret (St.mk (spread 0 67 [2, 4] [(.flt .f64 x24), (.bool b11)]) [])) := by kernel_rfl

theorem spec_l01SineWide_c13_nat (φ : Nat) {ρ σ : Type} (f : ρ → Option σ) (x9 : Nat) (x10 : Nat) (b11 : Bool) (k0 : Nat → Option ρ) : (spec_l01SineWide_c13 φ x9 x10 b11 k0).bind f = spec_l01SineWide_c13 φ x9 x10 b11 (fun x24 => (k0 x24).bind f) := by
  simp only [spec_l01SineWide_c13, cond_bind, Option.bind_assoc, Option.bind_none, spec_l01SineWide_17_nat]

theorem spec_l01SineWide_c13_ok (hT : TOk P T) (φ : Nat) (hF : FOk P (F_25 φ)) (hm : P.follows .mixedOrders = true) : CodeOk P 0 (spec_l01SineWide_c13_s φ) (tailOf Try.f39 13) := by
  refine CodeOk.of_once (D := (evDraw T (F_25 φ))) (L := Lin_spec_l01SineWide_c13 φ) (keep := (hasN [2, 3, 4])) hT hF (evDraw_ok hT hF hm) (LoopsOk.loop (show apartKeys 17 (loopsOf (tailOf Try.f39 13)) = true from by kernel_rfl) (show Nat.blt 17 500000 = true from by kernel_rfl) (show findKey 17 (loopsOf (tailOf Try.f39 13)) = some (loopOf Try.f39 17) from by kernel_rfl) (spec_l01SineWide_17_ok hT φ hF hm) (LoopsOk.none 0 (tailOf Try.f39 13))) ?_
  intro st K out h
  unfold spec_l01SineWide_c13_s at h
  split at h
  · rename_i hq1 hq2
    obtain ⟨h1, h2⟩ := cond_inv h
    rw [Bool.and_eq_true] at h1
    refine ⟨h1.1, ?_⟩
    rw [norm_spread rfl st hq1 hq2 (Nat.eq_of_beq_eq_true h1.2)]
    exact (spec_l01SineWide_c13_ev φ K _ _ _).trans h2
  · cases h

theorem spec_l01SineWide_c11_ev (φ : Nat) (K : Kont) (x6 : Nat) (x7 : Nat) (b8 : Bool) : evCode T (F_25 φ) (evDraw T (F_25 φ)) (Lin_spec_l01SineWide_c11 φ) (tailOf Try.f39 11) (spec_l01SineWide_c11_st x6 x7 b8) (once 0 (hasN [2, 3, 4]) K) = spec_l01SineWide_c11 φ x6 x7 b8 (fun x28 => K .ret (St.mk (spread 0 67 [2, 4] [(.flt .f64 x28), (.bool b8)]) [])) := by kernel_rfl

theorem spec_l01SineWide_c11_nat (φ : Nat) {ρ σ : Type} (f : ρ → Option σ) (x6 : Nat) (x7 : Nat) (b8 : Bool) (k0 : Nat → Option ρ) : (spec_l01SineWide_c11 φ x6 x7 b8 k0).bind f = spec_l01SineWide_c11 φ x6 x7 b8 (fun x28 => (k0 x28).bind f) := by
  simp only [spec_l01SineWide_c11, cond_bind, Option.bind_assoc, Option.bind_none, spec_l01SineWide_c13_nat]

theorem spec_l01SineWide_c11_ok (hT : TOk P T) (φ : Nat) (hF : FOk P (F_25 φ)) (hm : P.follows .mixedOrders = true) : CodeOk P 0 (spec_l01SineWide_c11_s φ) (tailOf Try.f39 11) := by
  have uk : (loopsOf (tailOf Try.f39 11)).all (fun x => Nat.blt (key x) 500000) = true := by kernel_rfl
  refine CodeOk.of_once (D := (evDraw T (F_25 φ))) (L := Lin_spec_l01SineWide_c11 φ) (keep := (hasN [2, 3, 4])) hT hF (evDraw_ok hT hF hm) (LoopsOk.cut (show apartKeys 13 (tailsOf (tailOf Try.f39 11)) = true from by kernel_rfl) uk (show findKey 13 (tailsOf (tailOf Try.f39 11)) = some (tailOf Try.f39 13) from by kernel_rfl) (spec_l01SineWide_c13_ok hT φ hF hm) (LoopsOk.none 0 (tailOf Try.f39 11))) ?_
  intro st K out h
  unfold spec_l01SineWide_c11_s at h
  split at h
  · rename_i hq1 hq2
    obtain ⟨h1, h2⟩ := cond_inv h
    rw [Bool.and_eq_true] at h1
    refine ⟨h1.1, ?_⟩
    rw [norm_spread rfl st hq1 hq2 (Nat.eq_of_beq_eq_true h1.2)]
    exact (spec_l01SineWide_c11_ev φ K _ _ _).trans h2
  · cases h

theorem spec_l01SineWide_c8_ev (φ : Nat) (K : Kont) (x4 : Nat) (x5 : Nat) : evCode T (F_25 φ) (evDraw T (F_25 φ)) (Lin_spec_l01SineWide_c8 φ) (tailOf Try.f39 8) (spec_l01SineWide_c8_st x4 x5) (once 0 (hasN [2, 3]) K) = spec_l01SineWide_c8 φ x4 x5 (fun x32 => K .ret (St.mk (spread 0 67 [2] [(.flt .f64 x32)]) [])) := by kernel_rfl

theorem spec_l01SineWide_c8_nat (φ : Nat) {ρ σ : Type} (f : ρ → Option σ) (x4 : Nat) (x5 : Nat) (k0 : Nat → Option ρ) : (spec_l01SineWide_c8 φ x4 x5 k0).bind f = spec_l01SineWide_c8 φ x4 x5 (fun x32 => (k0 x32).bind f) := by
  simp only [spec_l01SineWide_c8, cond_bind, Option.bind_assoc, Option.bind_none, spec_l01SineWide_c11_nat]

theorem spec_l01SineWide_c8_ok (hT : TOk P T) (φ : Nat) (hF : FOk P (F_25 φ)) (hm : P.follows .mixedOrders = true) : CodeOk P 0 (spec_l01SineWide_c8_s φ) (tailOf Try.f39 8) := by
  have uk : (loopsOf (tailOf Try.f39 8)).all (fun x => Nat.blt (key x) 500000) = true := by kernel_rfl
  refine CodeOk.of_once (D := (evDraw T (F_25 φ))) (L := Lin_spec_l01SineWide_c8 φ) (keep := (hasN [2, 3])) hT hF (evDraw_ok hT hF hm) (LoopsOk.cut (show apartKeys 11 (tailsOf (tailOf Try.f39 8)) = true from by kernel_rfl) uk (show findKey 11 (tailsOf (tailOf Try.f39 8)) = some (tailOf Try.f39 11) from by kernel_rfl) (spec_l01SineWide_c11_ok hT φ hF hm) (LoopsOk.none 0 (tailOf Try.f39 8))) ?_
  intro st K out h
  unfold spec_l01SineWide_c8_s at h
  split at h
  · rename_i hq1 hq2
    obtain ⟨h1, h2⟩ := cond_inv h
    rw [Bool.and_eq_true] at h1
    refine ⟨h1.1, ?_⟩
    rw [norm_spread rfl st hq1 hq2 (Nat.eq_of_beq_eq_true h1.2)]
    exact (spec_l01SineWide_c8_ev φ K _ _).trans h2
  · cases h

theorem spec_l01SineWide_c5_ev (φ : Nat) (K : Kont) (x1 : Nat) (x2 : Nat) : evCode T (F_25 φ) (evDraw T (F_25 φ)) (Lin_spec_l01SineWide_c5 φ) (tailOf Try.f39 5) (spec_l01SineWide_c5_st x1 x2) (once 0 (hasN [0, 2]) K) = spec_l01SineWide_c5 φ x1 x2 (fun x35 => K .ret (St.mk (spread 0 67 [2] [(.flt .f64 x35)]) [])) := by kernel_rfl

theorem spec_l01SineWide_c5_nat (φ : Nat) {ρ σ : Type} (f : ρ → Option σ) (x1 : Nat) (x2 : Nat) (k0 : Nat → Option ρ) : (spec_l01SineWide_c5 φ x1 x2 k0).bind f = spec_l01SineWide_c5 φ x1 x2 (fun x35 => (k0 x35).bind f) := by
  simp only [spec_l01SineWide_c5, cond_bind, Option.bind_assoc, Option.bind_none, spec_l01SineWide_c8_nat]

theorem spec_l01SineWide_c5_ok (hT : TOk P T) (φ : Nat) (hF : FOk P (F_25 φ)) (hm : P.follows .mixedOrders = true) : CodeOk P 0 (spec_l01SineWide_c5_s φ) (tailOf Try.f39 5) := by
  have uk : (loopsOf (tailOf Try.f39 5)).all (fun x => Nat.blt (key x) 500000) = true := by kernel_rfl
  refine CodeOk.of_once (D := (evDraw T (F_25 φ))) (L := Lin_spec_l01SineWide_c5 φ) (keep := (hasN [0, 2])) hT hF (evDraw_ok hT hF hm) (LoopsOk.cut (show apartKeys 8 (tailsOf (tailOf Try.f39 5)) = true from by kernel_rfl) uk (show findKey 8 (tailsOf (tailOf Try.f39 5)) = some (tailOf Try.f39 8) from by kernel_rfl) (spec_l01SineWide_c8_ok hT φ hF hm) (LoopsOk.none 0 (tailOf Try.f39 5))) ?_
  intro st K out h
  unfold spec_l01SineWide_c5_s at h
  split at h
  · rename_i hq1 hq2
    obtain ⟨h1, h2⟩ := cond_inv h
    rw [Bool.and_eq_true] at h1
    refine ⟨h1.1, ?_⟩
    rw [norm_spread rfl st hq1 hq2 (Nat.eq_of_beq_eq_true h1.2)]
    exact (spec_l01SineWide_c5_ev φ K _ _).trans h2
  · cases h

theorem spec_l01SineWide_ev (φ : Nat) (x0 : Nat) : evFn T (F_25 φ) (evDraw T (F_25 φ)) (spec_l01SineWide_L φ) Try.f39 [(.flt .f64 x0)] [] = spec_l01SineWide φ x0 (fun r => some (spec_l01SineWide_val r, [])) := by kernel_rfl

theorem spec_l01SineWide_nat (φ : Nat) (x0 : Nat) {ρ σ : Type} (k : Nat → Option ρ) (f : ρ → Option σ) : (spec_l01SineWide φ x0 k).bind f = spec_l01SineWide φ x0 (fun r => (k r).bind f) := by
  simp only [spec_l01SineWide, cond_bind, Option.bind_assoc, Option.bind_none, spec_l01SineWide_17_nat, spec_l01SineWide_c13_nat, spec_l01SineWide_c11_nat, spec_l01SineWide_c8_nat, spec_l01SineWide_c5_nat]

theorem spec_l01SineWide_S (φ : Nat) (args : List AV) (h : List Blk) (r : Nat) (hr : S_spec_l01SineWide φ args h = some r) : ∃ (x0 : Nat), args = [(.flt .f64 x0)] ∧ h = [] ∧ spec_l01SineWide φ x0 some = some r := by
  unfold S_spec_l01SineWide at hr
  split at hr
  · exact ⟨_, rfl, rfl, hr⟩
  · cases hr

theorem spec_l01SineWide_ok (hT : TOk P T) (φ : Nat) (hF : FOk P (F_25 φ)) (hm : P.follows .mixedOrders = true) : SumOk P 39 (.rd (S_spec_l01SineWide φ) spec_l01SineWide_val) := by
  have uk : (loopsOf (bodyOf Try.f39)).all (fun x => Nat.blt (key x) 500000) = true := by kernel_rfl
  refine rd_ok (fn := Try.f39) (c := bodyOf Try.f39) hT hF (evDraw_ok hT hF hm) (by kernel_rfl) (by kernel_rfl) (by kernel_rfl) ?_
  intro args h r hr
  obtain ⟨x0, rfl, rfl, hq⟩ := spec_l01SineWide_S φ args h r hr
  have e := spec_l01SineWide_nat φ x0 some (fun r => (some (spec_l01SineWide_val r, []) : Option Out))
  rw [hq] at e
  exact ⟨spec_l01SineWide_L φ, (LoopsOk.cut (show apartKeys 5 (tailsOf (bodyOf Try.f39)) = true from by kernel_rfl) uk (show findKey 5 (tailsOf (bodyOf Try.f39)) = some (tailOf Try.f39 5) from by kernel_rfl) (spec_l01SineWide_c5_ok hT φ hF hm) (LoopsOk.none 0 (bodyOf Try.f39))), (spec_l01SineWide_ev φ x0).trans e.symm⟩

/-! ### spec_l01Narrow -/
theorem spec_l01Narrow_ev (φ : Nat) (x0 : Nat) : evFn T (F_26 φ) (evDraw T (F_26 φ)) (spec_l01Narrow_L φ) Try.f38 [(.flt .f64 x0)] [] = spec_l01Narrow φ x0 (fun r => some (spec_l01Narrow_val r, [])) := by kernel_rfl

theorem spec_l01Narrow_nat (φ : Nat) (x0 : Nat) {ρ σ : Type} (k : Nat → Option ρ) (f : ρ → Option σ) : (spec_l01Narrow φ x0 k).bind f = spec_l01Narrow φ x0 (fun r => (k r).bind f) := by
  simp only [spec_l01Narrow, cond_bind, Option.bind_assoc, Option.bind_none]

theorem spec_l01Narrow_S (φ : Nat) (args : List AV) (h : List Blk) (r : Nat) (hr : S_spec_l01Narrow φ args h = some r) : ∃ (x0 : Nat), args = [(.flt .f64 x0)] ∧ h = [] ∧ spec_l01Narrow φ x0 some = some r := by
  unfold S_spec_l01Narrow at hr
  split at hr
  · exact ⟨_, rfl, rfl, hr⟩
  · cases hr

theorem spec_l01Narrow_ok (hT : TOk P T) (φ : Nat) (hF : FOk P (F_26 φ)) (hm : P.follows .mixedOrders = true) : SumOk P 38 (.rd (S_spec_l01Narrow φ) spec_l01Narrow_val) := by
  refine rd_ok (fn := Try.f38) (c := bodyOf Try.f38) hT hF (evDraw_ok hT hF hm) (by kernel_rfl) (by kernel_rfl) (by kernel_rfl) ?_
  intro args h r hr
  obtain ⟨x0, rfl, rfl, hq⟩ := spec_l01Narrow_S φ args h r hr
  have e := spec_l01Narrow_nat φ x0 some (fun r => (some (spec_l01Narrow_val r, []) : Option Out))
  rw [hq] at e
  exact ⟨spec_l01Narrow_L φ, (LoopsOk.none 0 (bodyOf Try.f38)), (spec_l01Narrow_ev φ x0).trans e.symm⟩

/-! ### spec_l01Sine -/
theorem spec_l01Sine_ev (φ : Nat) (x0 : Nat) : evFn T (F_27 φ) (evDraw T (F_27 φ)) (spec_l01Sine_L φ) Try.f28 [(.flt .f32 x0)] [] = spec_l01Sine φ x0 (fun r => some (spec_l01Sine_val r, [])) := by kernel_rfl

theorem spec_l01Sine_nat (φ : Nat) (x0 : Nat) {ρ σ : Type} (k : Nat → Option ρ) (f : ρ → Option σ) : (spec_l01Sine φ x0 k).bind f = spec_l01Sine φ x0 (fun r => (k r).bind f) := by
  simp only [spec_l01Sine, cond_bind, Option.bind_assoc, Option.bind_none]

theorem spec_l01Sine_S (φ : Nat) (args : List AV) (h : List Blk) (r : Nat) (hr : S_spec_l01Sine φ args h = some r) : ∃ (x0 : Nat), args = [(.flt .f32 x0)] ∧ h = [] ∧ spec_l01Sine φ x0 some = some r := by
  unfold S_spec_l01Sine at hr
  split at hr
  · exact ⟨_, rfl, rfl, hr⟩
  · cases hr

theorem spec_l01Sine_ok (hT : TOk P T) (φ : Nat) (hF : FOk P (F_27 φ)) (hm : P.follows .mixedOrders = true) : SumOk P 28 (.rd (S_spec_l01Sine φ) spec_l01Sine_val) := by
  refine rd_ok (fn := Try.f28) (c := bodyOf Try.f28) hT hF (evDraw_ok hT hF hm) (by kernel_rfl) (by kernel_rfl) (by kernel_rfl) ?_
  intro args h r hr
  obtain ⟨x0, rfl, rfl, hq⟩ := spec_l01Sine_S φ args h r hr
  have e := spec_l01Sine_nat φ x0 some (fun r => (some (spec_l01Sine_val r, []) : Option Out))
  rw [hq] at e
  exact ⟨spec_l01Sine_L φ, (LoopsOk.none 0 (bodyOf Try.f28)), (spec_l01Sine_ev φ x0).trans e.symm⟩

/-! ### spec_SineTurns -/
theorem spec_SineTurns_ev (φ : Nat) (x0 : Nat) : evFn T (F_28 φ) (evDraw T (F_28 φ)) (spec_SineTurns_L φ) Try.f14 [(.flt .f32 x0)] [] = spec_SineTurns φ x0 (fun r => some (spec_SineTurns_val r, [])) := by kernel_rfl

theorem spec_SineTurns_nat (φ : Nat) (x0 : Nat) {ρ σ : Type} (k : Nat → Option ρ) (f : ρ → Option σ) : (spec_SineTurns φ x0 k).bind f = spec_SineTurns φ x0 (fun r => (k r).bind f) := by
  simp only [spec_SineTurns, cond_bind, Option.bind_assoc, Option.bind_none]

theorem spec_SineTurns_S (φ : Nat) (args : List AV) (h : List Blk) (r : Nat) (hr : S_spec_SineTurns φ args h = some r) : ∃ (x0 : Nat), args = [(.flt .f32 x0)] ∧ h = [] ∧ spec_SineTurns φ x0 some = some r := by
  unfold S_spec_SineTurns at hr
  split at hr
  · exact ⟨_, rfl, rfl, hr⟩
  · cases hr

theorem spec_SineTurns_ok (hT : TOk P T) (φ : Nat) (hF : FOk P (F_28 φ)) (hm : P.follows .mixedOrders = true) : SumOk P 14 (.rd (S_spec_SineTurns φ) spec_SineTurns_val) := by
  refine rd_ok (fn := Try.f14) (c := bodyOf Try.f14) hT hF (evDraw_ok hT hF hm) (by kernel_rfl) (by kernel_rfl) (by kernel_rfl) ?_
  intro args h r hr
  obtain ⟨x0, rfl, rfl, hq⟩ := spec_SineTurns_S φ args h r hr
  have e := spec_SineTurns_nat φ x0 some (fun r => (some (spec_SineTurns_val r, []) : Option Out))
  rw [hq] at e
  exact ⟨spec_SineTurns_L φ, (LoopsOk.none 0 (bodyOf Try.f14)), (spec_SineTurns_ev φ x0).trans e.symm⟩

/-! ### impl_isFinite -/
theorem impl_isFinite_ev (φ : Nat) (x0 : Nat) : evFn T (F_29 φ) (evDraw T (F_29 φ)) (impl_isFinite_L φ) Try.f40 [(.flt .f64 x0)] [] = impl_isFinite φ x0 (fun r => some (impl_isFinite_val r, [])) := by kernel_rfl

theorem impl_isFinite_nat (φ : Nat) (x0 : Nat) {ρ σ : Type} (k : Bool → Option ρ) (f : ρ → Option σ) : (impl_isFinite φ x0 k).bind f = impl_isFinite φ x0 (fun r => (k r).bind f) := by
  simp only [impl_isFinite, cond_bind, Option.bind_assoc, Option.bind_none]

theorem impl_isFinite_S (φ : Nat) (args : List AV) (h : List Blk) (r : Bool) (hr : S_impl_isFinite φ args h = some r) : ∃ (x0 : Nat), args = [(.flt .f64 x0)] ∧ h = [] ∧ impl_isFinite φ x0 some = some r := by
  unfold S_impl_isFinite at hr
  split at hr
  · exact ⟨_, rfl, rfl, hr⟩
  · cases hr

theorem impl_isFinite_ok (hT : TOk P T) (φ : Nat) (hF : FOk P (F_29 φ)) (hm : P.follows .mixedOrders = true) : SumOk P 40 (.rd (S_impl_isFinite φ) impl_isFinite_val) := by
  refine rd_ok (fn := Try.f40) (c := bodyOf Try.f40) hT hF (evDraw_ok hT hF hm) (by kernel_rfl) (by kernel_rfl) (by kernel_rfl) ?_
  intro args h r hr
  obtain ⟨x0, rfl, rfl, hq⟩ := impl_isFinite_S φ args h r hr
  have e := impl_isFinite_nat φ x0 some (fun r => (some (impl_isFinite_val r, []) : Option Out))
  rw [hq] at e
  exact ⟨impl_isFinite_L φ, (LoopsOk.none 0 (bodyOf Try.f40)), (impl_isFinite_ev φ x0).trans e.symm⟩

/-! ### impl_IsFinite -/
theorem impl_IsFinite_ev (φ : Nat) (x0 : Nat) : evFn T (F_30 φ) (evDraw T (F_30 φ)) (impl_IsFinite_L φ) Try.f29 [(.flt .f32 x0)] [] = impl_IsFinite φ x0 (fun r => some (impl_IsFinite_val r, [])) := by kernel_rfl

theorem impl_IsFinite_nat (φ : Nat) (x0 : Nat) {ρ σ : Type} (k : Bool → Option ρ) (f : ρ → Option σ) : (impl_IsFinite φ x0 k).bind f = impl_IsFinite φ x0 (fun r => (k r).bind f) := by
  simp only [impl_IsFinite, cond_bind, Option.bind_assoc, Option.bind_none]

theorem impl_IsFinite_S (φ : Nat) (args : List AV) (h : List Blk) (r : Bool) (hr : S_impl_IsFinite φ args h = some r) : ∃ (x0 : Nat), args = [(.flt .f32 x0)] ∧ h = [] ∧ impl_IsFinite φ x0 some = some r := by
  unfold S_impl_IsFinite at hr
  split at hr
  · exact ⟨_, rfl, rfl, hr⟩
  · cases hr

theorem impl_IsFinite_ok (hT : TOk P T) (φ : Nat) (hF : FOk P (F_30 φ)) (hm : P.follows .mixedOrders = true) : SumOk P 29 (.rd (S_impl_IsFinite φ) impl_IsFinite_val) := by
  refine rd_ok (fn := Try.f29) (c := bodyOf Try.f29) hT hF (evDraw_ok hT hF hm) (by kernel_rfl) (by kernel_rfl) (by kernel_rfl) ?_
  intro args h r hr
  obtain ⟨x0, rfl, rfl, hq⟩ := impl_IsFinite_S φ args h r hr
  have e := impl_IsFinite_nat φ x0 some (fun r => (some (impl_IsFinite_val r, []) : Option Out))
  rw [hq] at e
  exact ⟨impl_IsFinite_L φ, (LoopsOk.none 0 (bodyOf Try.f29)), (impl_IsFinite_ev φ x0).trans e.symm⟩

/-! ### math_Abs -/
theorem math_Abs_ev (φ : Nat) (x0 : Nat) : evFn T (F_31 φ) (evDraw T (F_31 φ)) (math_Abs_L φ) Try.f42 [(.flt .f64 x0)] [] = math_Abs φ x0 (fun r => some (math_Abs_val r, [])) := by kernel_rfl

theorem math_Abs_nat (φ : Nat) (x0 : Nat) {ρ σ : Type} (k : Nat → Option ρ) (f : ρ → Option σ) : (math_Abs φ x0 k).bind f = math_Abs φ x0 (fun r => (k r).bind f) := by
  simp only [math_Abs, cond_bind, Option.bind_assoc, Option.bind_none]

theorem math_Abs_S (φ : Nat) (args : List AV) (h : List Blk) (r : Nat) (hr : S_math_Abs φ args h = some r) : ∃ (x0 : Nat), args = [(.flt .f64 x0)] ∧ h = [] ∧ math_Abs φ x0 some = some r := by
  unfold S_math_Abs at hr
  split at hr
  · exact ⟨_, rfl, rfl, hr⟩
  · cases hr

theorem math_Abs_ok (hT : TOk P T) (φ : Nat) (hF : FOk P (F_31 φ)) (hm : P.follows .mixedOrders = true) : SumOk P 42 (.rd (S_math_Abs φ) math_Abs_val) := by
  refine rd_ok (fn := Try.f42) (c := bodyOf Try.f42) hT hF (evDraw_ok hT hF hm) (by kernel_rfl) (by kernel_rfl) (by kernel_rfl) ?_
  intro args h r hr
  obtain ⟨x0, rfl, rfl, hq⟩ := math_Abs_S φ args h r hr
  have e := math_Abs_nat φ x0 some (fun r => (some (math_Abs_val r, []) : Option Out))
  rw [hq] at e
  exact ⟨math_Abs_L φ, (LoopsOk.none 0 (bodyOf Try.f42)), (math_Abs_ev φ x0).trans e.symm⟩

/-! ### math_Trunc -/
theorem math_Trunc_ev (φ : Nat) (x0 : Nat) : evFn T (F_32 φ) (evDraw T (F_32 φ)) (math_Trunc_L φ) Try.f49 [(.flt .f64 x0)] [] = math_Trunc φ x0 (fun r => some (math_Trunc_val r, [])) := by kernel_rfl

theorem math_Trunc_nat (φ : Nat) (x0 : Nat) {ρ σ : Type} (k : Nat → Option ρ) (f : ρ → Option σ) : (math_Trunc φ x0 k).bind f = math_Trunc φ x0 (fun r => (k r).bind f) := by
  simp only [math_Trunc, cond_bind, Option.bind_assoc, Option.bind_none]

theorem math_Trunc_S (φ : Nat) (args : List AV) (h : List Blk) (r : Nat) (hr : S_math_Trunc φ args h = some r) : ∃ (x0 : Nat), args = [(.flt .f64 x0)] ∧ h = [] ∧ math_Trunc φ x0 some = some r := by
  unfold S_math_Trunc at hr
  split at hr
  · exact ⟨_, rfl, rfl, hr⟩
  · cases hr

theorem math_Trunc_ok (hT : TOk P T) (φ : Nat) (hF : FOk P (F_32 φ)) (hm : P.follows .mixedOrders = true) : SumOk P 49 (.rd (S_math_Trunc φ) math_Trunc_val) := by
  refine rd_ok (fn := Try.f49) (c := bodyOf Try.f49) hT hF (evDraw_ok hT hF hm) (by kernel_rfl) (by kernel_rfl) (by kernel_rfl) ?_
  intro args h r hr
  obtain ⟨x0, rfl, rfl, hq⟩ := math_Trunc_S φ args h r hr
  have e := math_Trunc_nat φ x0 some (fun r => (some (math_Trunc_val r, []) : Option Out))
  rw [hq] at e
  exact ⟨math_Trunc_L φ, (LoopsOk.none 0 (bodyOf Try.f49)), (math_Trunc_ev φ x0).trans e.symm⟩

/-! ### impl_fraction -/
theorem impl_fraction_c4_ev (φ : Nat) (K : Kont) (x1 : Nat) (x2 : Nat) (x3 : Nat) : evCode T (F_33 φ) (evDraw T (F_33 φ)) (Lin_impl_fraction_c4 φ) (tailOf Try.f47 4) (impl_fraction_c4_st x1 x2 x3) (once 0 (hasN [0, 2, 3]) K) = impl_fraction_c4 φ x1 x2 x3 (fun x5 => K .ret (St.mk (spread 0 17 [0, 2, 3] [(.flt .f64 x1), (.flt .f64 x5), (.flt .f64 x3)]) [])) := by kernel_rfl

theorem impl_fraction_c4_nat (φ : Nat) {ρ σ : Type} (f : ρ → Option σ) (x1 : Nat) (x2 : Nat) (x3 : Nat) (k0 : Nat → Option ρ) : (impl_fraction_c4 φ x1 x2 x3 k0).bind f = impl_fraction_c4 φ x1 x2 x3 (fun x5 => (k0 x5).bind f) := by
  simp only [impl_fraction_c4, cond_bind, Option.bind_assoc, Option.bind_none]

theorem impl_fraction_c4_ok (hT : TOk P T) (φ : Nat) (hF : FOk P (F_33 φ)) (hm : P.follows .mixedOrders = true) : CodeOk P 0 (impl_fraction_c4_s φ) (tailOf Try.f47 4) := by
  refine CodeOk.of_once (D := (evDraw T (F_33 φ))) (L := Lin_impl_fraction_c4 φ) (keep := (hasN [0, 2, 3])) hT hF (evDraw_ok hT hF hm) (LoopsOk.none 0 (tailOf Try.f47 4)) ?_
  intro st K out h
  unfold impl_fraction_c4_s at h
  split at h
  · rename_i hq1 hq2
    obtain ⟨h1, h2⟩ := cond_inv h
    rw [Bool.and_eq_true] at h1
    refine ⟨h1.1, ?_⟩
    rw [norm_spread rfl st hq1 hq2 (Nat.eq_of_beq_eq_true h1.2)]
    exact (impl_fraction_c4_ev φ K _ _ _).trans h2
  · cases h

theorem impl_fraction_ev (φ : Nat) (x0 : Nat) : evFn T (F_33 φ) (evDraw T (F_33 φ)) (impl_fraction_L φ) Try.f47 [(.flt .f64 x0)] [] = impl_fraction φ x0 (fun r => some (impl_fraction_val r, [])) := by kernel_rfl

theorem impl_fraction_nat (φ : Nat) (x0 : Nat) {ρ σ : Type} (k : Nat → Option ρ) (f : ρ → Option σ) : (impl_fraction φ x0 k).bind f = impl_fraction φ x0 (fun r => (k r).bind f) := by
  simp only [impl_fraction, cond_bind, Option.bind_assoc, Option.bind_none, impl_fraction_c4_nat]

theorem impl_fraction_S (φ : Nat) (args : List AV) (h : List Blk) (r : Nat) (hr : S_impl_fraction φ args h = some r) : ∃ (x0 : Nat), args = [(.flt .f64 x0)] ∧ h = [] ∧ impl_fraction φ x0 some = some r := by
  unfold S_impl_fraction at hr
  split at hr
  · exact ⟨_, rfl, rfl, hr⟩
  · cases hr

theorem impl_fraction_ok (hT : TOk P T) (φ : Nat) (hF : FOk P (F_33 φ)) (hm : P.follows .mixedOrders = true) : SumOk P 47 (.rd (S_impl_fraction φ) impl_fraction_val) := by
  have uk : (loopsOf (bodyOf Try.f47)).all (fun x => Nat.blt (key x) 500000) = true := by kernel_rfl
  refine rd_ok (fn := Try.f47) (c := bodyOf Try.f47) hT hF (evDraw_ok hT hF hm) (by kernel_rfl) (by kernel_rfl) (by kernel_rfl) ?_
  intro args h r hr
  obtain ⟨x0, rfl, rfl, hq⟩ := impl_fraction_S φ args h r hr
  have e := impl_fraction_nat φ x0 some (fun r => (some (impl_fraction_val r, []) : Option Out))
  rw [hq] at e
  exact ⟨impl_fraction_L φ, (LoopsOk.cut (show apartKeys 4 (tailsOf (bodyOf Try.f47)) = true from by kernel_rfl) uk (show findKey 4 (tailsOf (bodyOf Try.f47)) = some (tailOf Try.f47 4) from by kernel_rfl) (impl_fraction_c4_ok hT φ hF hm) (LoopsOk.none 0 (bodyOf Try.f47))), (impl_fraction_ev φ x0).trans e.symm⟩

/-! ### impl_sine -/
theorem impl_sine_11_step (φ : Nat) (b7 : Bool) (x8 : Nat) (x9 : Nat) (x10 : Nat) (n11 : Int) (G : St → Option Out) (K : Kont) : evCode T (F_34 φ) (evDraw T (F_34 φ)) (Lin_impl_sine_11 φ) (loopOf Try.f43 11) (impl_sine_11_st b7 x8 x9 x10 n11) (round 0 (hasN [4, 5, 6, 7, 8]) G K) =
    bif (decide (n11 ≥ (1 : Int))) then
      (G (impl_sine_11_st b7 x8 x9 (fsub .f64 (can .f64 4607182418800017408) (fdiv .f64 (fmul .f64 x9 x10) (itof .f64 (IntKind.wrap .i64 ((IntKind.wrap .i64 ((2 : Int) * n11)) * (IntKind.wrap .i64 ((IntKind.wrap .i64 ((2 : Int) * n11)) + (1 : Int)))))))) (IntKind.wrap .i64 (n11 - (1 : Int)))))
    else
      (K (.exit 0) (St.mk (spread 0 49 [4, 5, 6, 7, 8] [(.bool b7), (.flt .f64 x8), (.flt .f64 x9), (.flt .f64 x10), (.int .i64 n11)]) [])) := by kernel_rfl

theorem impl_sine_11_ev (φ : Nat) (K : Kont) : ∀ (n : Nat) (b7 : Bool) (x8 : Nat) (x9 : Nat) (x10 : Nat) (n11 : Int), evLoop T (F_34 φ) (evDraw T (F_34 φ)) (Lin_impl_sine_11 φ) 0 (hasN [4, 5, 6, 7, 8]) (loopOf Try.f43 11) n (impl_sine_11_st b7 x8 x9 x10 n11) K = impl_sine_11 φ b7 x8 x9 n x10 n11 (fun x15 n16 => K (.exit 0) (St.mk (spread 0 49 [4, 5, 6, 7, 8] [(.bool b7), (.flt .f64 x8), (.flt .f64 x9), (.flt .f64 x15), (.int .i64 n16)]) [])) := by
  intro n
  induction n with
  | zero => intros; rfl
  | succ n ih =>
    intros
    rw [evLoop_succ, impl_sine_11_step]
    simp only [ih]
    rfl

theorem impl_sine_11_nat (φ : Nat) {ρ σ : Type} (f : ρ → Option σ) : ∀ (n : Nat) (b7 : Bool) (x8 : Nat) (x9 : Nat) (x10 : Nat) (n11 : Int) (k0 : Nat → Int → Option ρ), (impl_sine_11 φ b7 x8 x9 n x10 n11 k0).bind f = impl_sine_11 φ b7 x8 x9 n x10 n11 (fun x15 n16 => (k0 x15 n16).bind f) := by
  intro n
  induction n with
  | zero => intros; rfl
  | succ n ih =>
    intros
    simp only [impl_sine_11, cond_bind, Option.bind_assoc, Option.bind_none, ih]

theorem impl_sine_11_ok (hT : TOk P T) (φ : Nat) (hF : FOk P (F_34 φ)) (hm : P.follows .mixedOrders = true) : LoopOk P 0 (impl_sine_11_s φ) (loopOf Try.f43 11) := by
  refine LoopOk.of_rounds (D := (evDraw T (F_34 φ))) (L := Lin_impl_sine_11 φ) (keep := (hasN [4, 5, 6, 7, 8])) hT hF (evDraw_ok hT hF hm) (LoopsOk.none 0 (loopOf Try.f43 11)) ?_
  intro st K out h
  unfold impl_sine_11_s at h
  split at h
  · rename_i hq1 hq2
    obtain ⟨h1, h2⟩ := cond_inv h
    rw [Bool.and_eq_true] at h1
    refine ⟨h1.1, φ, ?_⟩
    rw [norm_spread rfl st hq1 hq2 (Nat.eq_of_beq_eq_true h1.2)]
    exact (impl_sine_11_ev φ K φ _ _ _ _ _).trans h2
  · cases h

theorem impl_sine_c7_ev (φ : Nat) (K : Kont) (x4 : Nat) (x5 : Nat) (b6 : Bool) : evCode T (F_34 φ) (evDraw T (F_34 φ)) (Lin_impl_sine_c7 φ) (tailOf Try.f43 7) (impl_sine_c7_st x4 x5 b6) (once 0 (hasN [2, 3, 4]) K) = impl_sine_c7 φ x4 x5 b6 (fun x19 => K .ret (St.mk (spread 0 49 [2, 4] [(.flt .f64 x19), (.bool b6)]) [])) := by kernel_rfl

theorem impl_sine_c7_nat (φ : Nat) {ρ σ : Type} (f : ρ → Option σ) (x4 : Nat) (x5 : Nat) (b6 : Bool) (k0 : Nat → Option ρ) : (impl_sine_c7 φ x4 x5 b6 k0).bind f = impl_sine_c7 φ x4 x5 b6 (fun x19 => (k0 x19).bind f) := by
  simp only [impl_sine_c7, cond_bind, Option.bind_assoc, Option.bind_none, impl_sine_11_nat]

theorem impl_sine_c7_ok (hT : TOk P T) (φ : Nat) (hF : FOk P (F_34 φ)) (hm : P.follows .mixedOrders = true) : CodeOk P 0 (impl_sine_c7_s φ) (tailOf Try.f43 7) := by
  refine CodeOk.of_once (D := (evDraw T (F_34 φ))) (L := Lin_impl_sine_c7 φ) (keep := (hasN [2, 3, 4])) hT hF (evDraw_ok hT hF hm) (LoopsOk.loop (show apartKeys 11 (loopsOf (tailOf Try.f43 7)) = true from by kernel_rfl) (show Nat.blt 11 500000 = true from by kernel_rfl) (show findKey 11 (loopsOf (tailOf Try.f43 7)) = some (loopOf Try.f43 11) from by kernel_rfl) (impl_sine_11_ok hT φ hF hm) (LoopsOk.none 0 (tailOf Try.f43 7))) ?_
  intro st K out h
  unfold impl_sine_c7_s at h
  split at h
  · rename_i hq1 hq2
    obtain ⟨h1, h2⟩ := cond_inv h
    rw [Bool.and_eq_true] at h1
    refine ⟨h1.1, ?_⟩
    rw [norm_spread rfl st hq1 hq2 (Nat.eq_of_beq_eq_true h1.2)]
    exact (impl_sine_c7_ev φ K _ _ _).trans h2
  · cases h

theorem impl_sine_c5_ev (φ : Nat) (K : Kont) (x1 : Nat) (x2 : Nat) (b3 : Bool) : evCode T (F_34 φ) (evDraw T (F_34 φ)) (Lin_impl_sine_c5 φ) (tailOf Try.f43 5) (impl_sine_c5_st x1 x2 b3) (once 0 (hasN [2, 3, 4]) K) = impl_sine_c5 φ x1 x2 b3 (fun x23 => K .ret (St.mk (spread 0 49 [2, 4] [(.flt .f64 x23), (.bool b3)]) [])) := by kernel_rfl

theorem impl_sine_c5_nat (φ : Nat) {ρ σ : Type} (f : ρ → Option σ) (x1 : Nat) (x2 : Nat) (b3 : Bool) (k0 : Nat → Option ρ) : (impl_sine_c5 φ x1 x2 b3 k0).bind f = impl_sine_c5 φ x1 x2 b3 (fun x23 => (k0 x23).bind f) := by
  simp only [impl_sine_c5, cond_bind, Option.bind_assoc, Option.bind_none, impl_sine_c7_nat]

theorem impl_sine_c5_ok (hT : TOk P T) (φ : Nat) (hF : FOk P (F_34 φ)) (hm : P.follows .mixedOrders = true) : CodeOk P 0 (impl_sine_c5_s φ) (tailOf Try.f43 5) := by
  have uk : (loopsOf (tailOf Try.f43 5)).all (fun x => Nat.blt (key x) 500000) = true := by kernel_rfl
  refine CodeOk.of_once (D := (evDraw T (F_34 φ))) (L := Lin_impl_sine_c5 φ) (keep := (hasN [2, 3, 4])) hT hF (evDraw_ok hT hF hm) (LoopsOk.cut (show apartKeys 7 (tailsOf (tailOf Try.f43 5)) = true from by kernel_rfl) uk (show findKey 7 (tailsOf (tailOf Try.f43 5)) = some (tailOf Try.f43 7) from by kernel_rfl) (impl_sine_c7_ok hT φ hF hm) (LoopsOk.none 0 (tailOf Try.f43 5))) ?_
  intro st K out h
  unfold impl_sine_c5_s at h
  split at h
  · rename_i hq1 hq2
    obtain ⟨h1, h2⟩ := cond_inv h
    rw [Bool.and_eq_true] at h1
    refine ⟨h1.1, ?_⟩
    rw [norm_spread rfl st hq1 hq2 (Nat.eq_of_beq_eq_true h1.2)]
    exact (impl_sine_c5_ev φ K _ _ _).trans h2
  · cases h

theorem impl_sine_ev (φ : Nat) (x0 : Nat) : evFn T (F_34 φ) (evDraw T (F_34 φ)) (impl_sine_L φ) Try.f43 [(.flt .f64 x0)] [] = impl_sine φ x0 (fun r => some (impl_sine_val r, [])) := by kernel_rfl

theorem impl_sine_nat (φ : Nat) (x0 : Nat) {ρ σ : Type} (k : Nat → Option ρ) (f : ρ → Option σ) : (impl_sine φ x0 k).bind f = impl_sine φ x0 (fun r => (k r).bind f) := by
  simp only [impl_sine, cond_bind, Option.bind_assoc, Option.bind_none, impl_sine_11_nat, impl_sine_c7_nat, impl_sine_c5_nat]

theorem impl_sine_S (φ : Nat) (args : List AV) (h : List Blk) (r : Nat) (hr : S_impl_sine φ args h = some r) : ∃ (x0 : Nat), args = [(.flt .f64 x0)] ∧ h = [] ∧ impl_sine φ x0 some = some r := by
  unfold S_impl_sine at hr
  split at hr
  · exact ⟨_, rfl, rfl, hr⟩
  · cases hr

theorem impl_sine_ok (hT : TOk P T) (φ : Nat) (hF : FOk P (F_34 φ)) (hm : P.follows .mixedOrders = true) : SumOk P 43 (.rd (S_impl_sine φ) impl_sine_val) := by
  have uk : (loopsOf (bodyOf Try.f43)).all (fun x => Nat.blt (key x) 500000) = true := by kernel_rfl
  refine rd_ok (fn := Try.f43) (c := bodyOf Try.f43) hT hF (evDraw_ok hT hF hm) (by kernel_rfl) (by kernel_rfl) (by kernel_rfl) ?_
  intro args h r hr
  obtain ⟨x0, rfl, rfl, hq⟩ := impl_sine_S φ args h r hr
  have e := impl_sine_nat φ x0 some (fun r => (some (impl_sine_val r, []) : Option Out))
  rw [hq] at e
  exact ⟨impl_sine_L φ, (LoopsOk.cut (show apartKeys 5 (tailsOf (bodyOf Try.f43)) = true from by kernel_rfl) uk (show findKey 5 (tailsOf (bodyOf Try.f43)) = some (tailOf Try.f43 5) from by kernel_rfl) (impl_sine_c5_ok hT φ hF hm) (LoopsOk.none 0 (bodyOf Try.f43))), (impl_sine_ev φ x0).trans e.symm⟩

/-! ### impl_SineTurns -/
theorem impl_SineTurns_ev (φ : Nat) (x0 : Nat) : evFn T (F_35 φ) (evDraw T (F_35 φ)) (impl_SineTurns_L φ) Try.f30 [(.flt .f32 x0)] [] = impl_SineTurns φ x0 (fun r => some (impl_SineTurns_val r, [])) := by kernel_rfl

theorem impl_SineTurns_nat (φ : Nat) (x0 : Nat) {ρ σ : Type} (k : Nat → Option ρ) (f : ρ → Option σ) : (impl_SineTurns φ x0 k).bind f = impl_SineTurns φ x0 (fun r => (k r).bind f) := by
  simp only [impl_SineTurns, cond_bind, Option.bind_assoc, Option.bind_none]

theorem impl_SineTurns_S (φ : Nat) (args : List AV) (h : List Blk) (r : Nat) (hr : S_impl_SineTurns φ args h = some r) : ∃ (x0 : Nat), args = [(.flt .f32 x0)] ∧ h = [] ∧ impl_SineTurns φ x0 some = some r := by
  unfold S_impl_SineTurns at hr
  split at hr
  · exact ⟨_, rfl, rfl, hr⟩
  · cases hr

theorem impl_SineTurns_ok (hT : TOk P T) (φ : Nat) (hF : FOk P (F_35 φ)) (hm : P.follows .mixedOrders = true) : SumOk P 30 (.rd (S_impl_SineTurns φ) impl_SineTurns_val) := by
  refine rd_ok (fn := Try.f30) (c := bodyOf Try.f30) hT hF (evDraw_ok hT hF hm) (by kernel_rfl) (by kernel_rfl) (by kernel_rfl) ?_
  intro args h r hr
  obtain ⟨x0, rfl, rfl, hq⟩ := impl_SineTurns_S φ args h r hr
  have e := impl_SineTurns_nat φ x0 some (fun r => (some (impl_SineTurns_val r, []) : Option Out))
  rw [hq] at e
  exact ⟨impl_SineTurns_L φ, (LoopsOk.none 0 (bodyOf Try.f30)), (impl_SineTurns_ev φ x0).trans e.symm⟩

end
end Go.Proofs.Ytedpmhnglbgihaa

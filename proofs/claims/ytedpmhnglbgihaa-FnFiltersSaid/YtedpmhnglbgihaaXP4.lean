/-
  That they do so: function by function.
-/
import Derived.Test.YtedpmhnglbgihaaXD1
set_option linter.all false
set_option maxRecDepth 100000
set_option maxHeartbeats 4000000
namespace Go.Proofs.Ytedpmhnglbgihaa
open Go.Ev
noncomputable section

/-! ### laws_FnFilters -/
theorem laws_FnFilters_16_step (φ : Nat) (n23 : Int) (x24 : Nat) (n25 : Int) (b26 : Bool) (e27 : Nat) (l28 : (List Int)) (b29 : Bool) (e30 : Nat) (l31 : (List Int)) (l32 : (List Nat)) (l33 : (List Nat)) (G : St → Option Out) (K : Kont) : evCode T (F_44 φ) (evDraw T (F_44 φ)) (Lin_laws_FnFilters_16 φ) (loopOf Try.f3 16) (laws_FnFilters_16_st n23 x24 n25 b26 e27 l28 b29 e30 l31 l32 l33) (round 2 (hasN [1, 5, 6, 18, 19, 20]) G K) =
    bif (decide (n25 < n23)) then
      Option.bind (spec_SineTurns φ (fadd .f32 (fmul .f32 (itof .f32 n25) x24) (can .f32 1040187392)) some) fun r34 =>
      Option.bind (room ((Nat.add (List.length l33) 0) + 1) 4) fun r35 =>
      (G (laws_FnFilters_16_st n23 x24 (IntKind.wrap .i64 (n25 + (1 : Int))) b26 e27 l28 b29 e30 l31 l32 (l33 ++ [r34])))
    else
      (K (.exit 0) (St.mk (spread 0 299 [1, 5, 6, 18, 19, 20] [(.whole 1), (.int .i64 n23), (.whole 2), (.flt .f32 x24), (.whole 3), (.int .i64 n25)]) [(.vec b26 e27 (.int .u8) l28), (.vec b29 e30 (.int .u8) l31), (.vec Bool.true 34 (.flt .f32) l32), (.vec Bool.true 34 (.flt .f32) l33)])) := by kernel_rfl

theorem laws_FnFilters_16_ev (φ : Nat) (K : Kont) : ∀ (n : Nat) (n23 : Int) (x24 : Nat) (n25 : Int) (b26 : Bool) (e27 : Nat) (l28 : (List Int)) (b29 : Bool) (e30 : Nat) (l31 : (List Int)) (l32 : (List Nat)) (l33 : (List Nat)), evLoop T (F_44 φ) (evDraw T (F_44 φ)) (Lin_laws_FnFilters_16 φ) 2 (hasN [1, 5, 6, 18, 19, 20]) (loopOf Try.f3 16) n (laws_FnFilters_16_st n23 x24 n25 b26 e27 l28 b29 e30 l31 l32 l33) K = laws_FnFilters_16 φ n23 x24 b26 e27 l28 b29 e30 l31 l32 n n25 l33 (fun n38 l46 => K (.exit 0) (St.mk (spread 0 299 [1, 5, 6, 18, 19, 20] [(.whole 1), (.int .i64 n23), (.whole 2), (.flt .f32 x24), (.whole 3), (.int .i64 n38)]) [(.vec b26 e27 (.int .u8) l28), (.vec b29 e30 (.int .u8) l31), (.vec Bool.true 34 (.flt .f32) l32), (.vec Bool.true 34 (.flt .f32) l46)])) := by
  intro n
  induction n with
  | zero => intros; rfl
  | succ n ih =>
    intros
    rw [evLoop_succ, laws_FnFilters_16_step]
    simp only [ih]
    rfl

theorem laws_FnFilters_16_nat (φ : Nat) {ρ σ : Type} (f : ρ → Option σ) : ∀ (n : Nat) (n23 : Int) (x24 : Nat) (n25 : Int) (b26 : Bool) (e27 : Nat) (l28 : (List Int)) (b29 : Bool) (e30 : Nat) (l31 : (List Int)) (l32 : (List Nat)) (l33 : (List Nat)) (k0 : Int → (List Nat) → Option ρ), (laws_FnFilters_16 φ n23 x24 b26 e27 l28 b29 e30 l31 l32 n n25 l33 k0).bind f = laws_FnFilters_16 φ n23 x24 b26 e27 l28 b29 e30 l31 l32 n n25 l33 (fun n38 l46 => (k0 n38 l46).bind f) := by
  intro n
  induction n with
  | zero => intros; rfl
  | succ n ih =>
    intros
    simp only [laws_FnFilters_16, cond_bind, Option.bind_assoc, Option.bind_none, ih]

theorem laws_FnFilters_16_ok (hT : TOk P T) (φ : Nat) (hF : FOk P (F_44 φ)) (hm : P.follows .mixedOrders = true) : LoopOk P 2 (laws_FnFilters_16_s φ) (loopOf Try.f3 16) := by
  refine LoopOk.of_rounds (D := (evDraw T (F_44 φ))) (L := Lin_laws_FnFilters_16 φ) (keep := (hasN [1, 5, 6, 18, 19, 20])) hT hF (evDraw_ok hT hF hm) (LoopsOk.none 2 (loopOf Try.f3 16)) ?_
  intro st K out h
  unfold laws_FnFilters_16_s at h
  split at h
  · rename_i hq1 hq2
    obtain ⟨h1, h2⟩ := cond_inv h
    rw [Bool.and_eq_true] at h1
    refine ⟨h1.1, φ, ?_⟩
    rw [norm_spread rfl st hq1 hq2 (Nat.eq_of_beq_eq_true h1.2)]
    exact (laws_FnFilters_16_ev φ K φ _ _ _ _ _ _ _ _ _ _ _).trans h2
  · cases h

theorem laws_FnFilters_23_step (φ : Nat) (n50 : Int) (n51 : Int) (b52 : Bool) (e53 : Nat) (l54 : (List Int)) (b55 : Bool) (e56 : Nat) (l57 : (List Int)) (l58 : (List Nat)) (l59 : (List Nat)) (G : St → Option Out) (K : Kont) : evCode T (F_44 φ) (evDraw T (F_44 φ)) (Lin_laws_FnFilters_23 φ) (loopOf Try.f3 23) (laws_FnFilters_23_st n50 n51 b52 e53 l54 b55 e56 l57 l58 l59) (round 2 (hasN [1, 4, 5, 6, 21, 23]) G K) =
    bif (decide (n51 < (((List.length l59) : Nat) : Int))) then
      Option.bind (idx n51 (List.length l59)) fun r60 =>
      Option.bind (l59[r60]?) fun r61 =>
      Option.bind (fconv .f32 r61 .f64) fun r62 =>
      Option.bind (laws_b10Gap φ r62 (can .f64 0) some) fun r63 =>
      bif (fgt .f64 r63 (can .f64 4562254508917369340)) then
        (K .ret (St.mk (spread 0 299 [1, 4, 5, 6, 21, 23] [(.whole 1), (.bool Bool.false), (.int .i64 n50), (.whole 2), (.whole 3), (.int .i64 n51)]) [(.vec b52 e53 (.int .u8) l54), (.vec b55 e56 (.int .u8) l57), (.vec Bool.true 34 (.flt .f32) l58), (.vec Bool.true 34 (.flt .f32) l59)]))
      else
        (G (laws_FnFilters_23_st n50 (IntKind.wrap .i64 (n51 + (1 : Int))) b52 e53 l54 b55 e56 l57 l58 l59))
    else
      (K (.exit 2) (St.mk (spread 0 299 [1, 5, 6, 21, 23] [(.whole 1), (.int .i64 n50), (.whole 2), (.whole 3), (.int .i64 n51)]) [(.vec b52 e53 (.int .u8) l54), (.vec b55 e56 (.int .u8) l57), (.vec Bool.true 34 (.flt .f32) l58), (.vec Bool.true 34 (.flt .f32) l59)])) := by kernel_rfl

theorem laws_FnFilters_23_ev (φ : Nat) (K : Kont) : ∀ (n : Nat) (n50 : Int) (n51 : Int) (b52 : Bool) (e53 : Nat) (l54 : (List Int)) (b55 : Bool) (e56 : Nat) (l57 : (List Int)) (l58 : (List Nat)) (l59 : (List Nat)), evLoop T (F_44 φ) (evDraw T (F_44 φ)) (Lin_laws_FnFilters_23 φ) 2 (hasN [1, 4, 5, 6, 21, 23]) (loopOf Try.f3 23) n (laws_FnFilters_23_st n50 n51 b52 e53 l54 b55 e56 l57 l58 l59) K = laws_FnFilters_23 φ n50 b52 e53 l54 b55 e56 l57 l58 l59 n n51 (fun n66 => K .ret (St.mk (spread 0 299 [1, 4, 5, 6, 21, 23] [(.whole 1), (.bool Bool.false), (.int .i64 n50), (.whole 2), (.whole 3), (.int .i64 n66)]) [(.vec b52 e53 (.int .u8) l54), (.vec b55 e56 (.int .u8) l57), (.vec Bool.true 34 (.flt .f32) l58), (.vec Bool.true 34 (.flt .f32) l59)])) (fun n76 => K (.exit 2) (St.mk (spread 0 299 [1, 5, 6, 21, 23] [(.whole 1), (.int .i64 n50), (.whole 2), (.whole 3), (.int .i64 n76)]) [(.vec b52 e53 (.int .u8) l54), (.vec b55 e56 (.int .u8) l57), (.vec Bool.true 34 (.flt .f32) l58), (.vec Bool.true 34 (.flt .f32) l59)])) := by
  intro n
  induction n with
  | zero => intros; rfl
  | succ n ih =>
    intros
    rw [evLoop_succ, laws_FnFilters_23_step]
    simp only [ih]
    rfl

theorem laws_FnFilters_23_nat (φ : Nat) {ρ σ : Type} (f : ρ → Option σ) : ∀ (n : Nat) (n50 : Int) (n51 : Int) (b52 : Bool) (e53 : Nat) (l54 : (List Int)) (b55 : Bool) (e56 : Nat) (l57 : (List Int)) (l58 : (List Nat)) (l59 : (List Nat)) (k0 : Int → Option ρ) (k1 : Int → Option ρ), (laws_FnFilters_23 φ n50 b52 e53 l54 b55 e56 l57 l58 l59 n n51 k0 k1).bind f = laws_FnFilters_23 φ n50 b52 e53 l54 b55 e56 l57 l58 l59 n n51 (fun n66 => (k0 n66).bind f) (fun n76 => (k1 n76).bind f) := by
  intro n
  induction n with
  | zero => intros; rfl
  | succ n ih =>
    intros
    simp only [laws_FnFilters_23, cond_bind, Option.bind_assoc, Option.bind_none, ih]

theorem laws_FnFilters_23_ok (hT : TOk P T) (φ : Nat) (hF : FOk P (F_44 φ)) (hm : P.follows .mixedOrders = true) : LoopOk P 2 (laws_FnFilters_23_s φ) (loopOf Try.f3 23) := by
  refine LoopOk.of_rounds (D := (evDraw T (F_44 φ))) (L := Lin_laws_FnFilters_23 φ) (keep := (hasN [1, 4, 5, 6, 21, 23])) hT hF (evDraw_ok hT hF hm) (LoopsOk.none 2 (loopOf Try.f3 23)) ?_
  intro st K out h
  unfold laws_FnFilters_23_s at h
  split at h
  · rename_i hq1 hq2
    obtain ⟨h1, h2⟩ := cond_inv h
    rw [Bool.and_eq_true] at h1
    refine ⟨h1.1, φ, ?_⟩
    rw [norm_spread rfl st hq1 hq2 (Nat.eq_of_beq_eq_true h1.2)]
    exact (laws_FnFilters_23_ev φ K φ _ _ _ _ _ _ _ _ _ _).trans h2
  · cases h

theorem laws_FnFilters_c41_ev (φ : Nat) (K : Kont) (n150 : Int) (n151 : Int) (n152 : Int) (n153 : Int) (n154 : Int) (b155 : Bool) (e156 : Nat) (l157 : (List Int)) (b158 : Bool) (e159 : Nat) (l160 : (List Int)) (l161 : (List Nat)) (l162 : (List Nat)) (l163 : (List Nat)) (l164 : (List Nat)) : evCode T (F_44 φ) (evDraw T (F_44 φ)) (Lin_laws_FnFilters_c41 φ) (tailOf Try.f3 41) (laws_FnFilters_c41_st n150 n151 n152 n153 n154 b155 e156 l157 b158 e159 l160 l161 l162 l163 l164) (once 2 (hasN [4, 6, 24, 25, 26, 28, 32, 34, 215, 216]) K) = laws_FnFilters_c41 φ n150 n151 n152 n153 n154 b155 e156 l157 b158 e159 l160 l161 l162 l163 l164 (K .ret (St.mk (spread 0 299 [4, 6, 24, 25, 26, 28, 32, 34, 215, 216] [(.bool Bool.false), (.whole 2), (.int .i64 n150), (.int .i64 n151), (.whole 3), (.whole 4), (.whole 5), (.int .i64 n152), (.int .i64 n153), (.int .i64 n154)]) [(.vec b155 e156 (.int .u8) l157), (.vec b158 e159 (.int .u8) l160), (.vec Bool.true 34 (.flt .f32) l161), (.vec Bool.true 34 (.flt .f32) l162), (.vec Bool.true 34 (.flt .f32) l163), (.vec Bool.true 34 (.flt .f32) l164)])) (K .normal (St.mk (spread 0 299 [6, 24, 25, 26, 28, 32, 34, 215, 216] [(.whole 2), (.int .i64 n150), (.int .i64 n151), (.whole 3), (.whole 4), (.whole 5), (.int .i64 n152), (.int .i64 n153), (.int .i64 n154)]) [(.vec b155 e156 (.int .u8) l157), (.vec b158 e159 (.int .u8) l160), (.vec Bool.true 34 (.flt .f32) l161), (.vec Bool.true 34 (.flt .f32) l162), (.vec Bool.true 34 (.flt .f32) l163), (.vec Bool.true 34 (.flt .f32) l164)])) := by kernel_rfl

theorem laws_FnFilters_c41_nat (φ : Nat) {ρ σ : Type} (f : ρ → Option σ) (n150 : Int) (n151 : Int) (n152 : Int) (n153 : Int) (n154 : Int) (b155 : Bool) (e156 : Nat) (l157 : (List Int)) (b158 : Bool) (e159 : Nat) (l160 : (List Int)) (l161 : (List Nat)) (l162 : (List Nat)) (l163 : (List Nat)) (l164 : (List Nat)) (k0 : Option ρ) (k1 : Option ρ) : (laws_FnFilters_c41 φ n150 n151 n152 n153 n154 b155 e156 l157 b158 e159 l160 l161 l162 l163 l164 k0 k1).bind f = laws_FnFilters_c41 φ n150 n151 n152 n153 n154 b155 e156 l157 b158 e159 l160 l161 l162 l163 l164 (k0.bind f) (k1.bind f) := by
  simp only [laws_FnFilters_c41, cond_bind, Option.bind_assoc, Option.bind_none]

theorem laws_FnFilters_c41_ok (hT : TOk P T) (φ : Nat) (hF : FOk P (F_44 φ)) (hm : P.follows .mixedOrders = true) : CodeOk P 2 (laws_FnFilters_c41_s φ) (tailOf Try.f3 41) := by
  refine CodeOk.of_once (D := (evDraw T (F_44 φ))) (L := Lin_laws_FnFilters_c41 φ) (keep := (hasN [4, 6, 24, 25, 26, 28, 32, 34, 215, 216])) hT hF (evDraw_ok hT hF hm) (LoopsOk.none 2 (tailOf Try.f3 41)) ?_
  intro st K out h
  unfold laws_FnFilters_c41_s at h
  split at h
  · rename_i hq1 hq2
    obtain ⟨h1, h2⟩ := cond_inv h
    rw [Bool.and_eq_true] at h1
    refine ⟨h1.1, ?_⟩
    rw [norm_spread rfl st hq1 hq2 (Nat.eq_of_beq_eq_true h1.2)]
    exact (laws_FnFilters_c41_ev φ K _ _ _ _ _ _ _ _ _ _ _ _ _ _ _).trans h2
  · cases h

theorem laws_FnFilters_c39_ev (φ : Nat) (K : Kont) (n122 : Int) (n123 : Int) (n124 : Int) (b125 : Bool) (n126 : Int) (n127 : Int) (b128 : Bool) (e129 : Nat) (l130 : (List Int)) (b131 : Bool) (e132 : Nat) (l133 : (List Int)) (l134 : (List Nat)) (l135 : (List Nat)) (l136 : (List Nat)) (l137 : (List Nat)) : evCode T (F_44 φ) (evDraw T (F_44 φ)) (Lin_laws_FnFilters_c39 φ) (tailOf Try.f3 39) (laws_FnFilters_c39_st n122 n123 n124 b125 n126 n127 b128 e129 l130 b131 e132 l133 l134 l135 l136 l137) (once 2 (hasN [4, 6, 24, 25, 26, 28, 32, 34, 35, 215, 216]) K) = laws_FnFilters_c39 φ n122 n123 n124 b125 n126 n127 b128 e129 l130 b131 e132 l133 l134 l135 l136 l137 (K .ret (St.mk (spread 0 299 [4, 6, 24, 25, 26, 28, 32, 34, 35, 215, 216] [(.bool Bool.false), (.whole 2), (.int .i64 n122), (.int .i64 n123), (.whole 3), (.whole 4), (.whole 5), (.int .i64 n124), (.bool b125), (.int .i64 n126), (.int .i64 n127)]) [(.vec b128 e129 (.int .u8) l130), (.vec b131 e132 (.int .u8) l133), (.vec Bool.true 34 (.flt .f32) l134), (.vec Bool.true 34 (.flt .f32) l135), (.vec Bool.true 34 (.flt .f32) l136), (.vec Bool.true 34 (.flt .f32) l137)])) (K .ret (St.mk (spread 0 299 [4, 6, 24, 25, 26, 28, 32, 34, 215, 216] [(.bool Bool.false), (.whole 2), (.int .i64 n122), (.int .i64 n123), (.whole 3), (.whole 4), (.whole 5), (.int .i64 n124), (.int .i64 n126), (.int .i64 n127)]) [(.vec b128 e129 (.int .u8) l130), (.vec b131 e132 (.int .u8) l133), (.vec Bool.true 34 (.flt .f32) l134), (.vec Bool.true 34 (.flt .f32) l135), (.vec Bool.true 34 (.flt .f32) l136), (.vec Bool.true 34 (.flt .f32) l137)])) (K .normal (St.mk (spread 0 299 [6, 24, 25, 26, 28, 32, 34, 215, 216] [(.whole 2), (.int .i64 n122), (.int .i64 n123), (.whole 3), (.whole 4), (.whole 5), (.int .i64 n124), (.int .i64 n126), (.int .i64 n127)]) [(.vec b128 e129 (.int .u8) l130), (.vec b131 e132 (.int .u8) l133), (.vec Bool.true 34 (.flt .f32) l134), (.vec Bool.true 34 (.flt .f32) l135), (.vec Bool.true 34 (.flt .f32) l136), (.vec Bool.true 34 (.flt .f32) l137)])) := by kernel_rfl

theorem laws_FnFilters_c39_nat (φ : Nat) {ρ σ : Type} (f : ρ → Option σ) (n122 : Int) (n123 : Int) (n124 : Int) (b125 : Bool) (n126 : Int) (n127 : Int) (b128 : Bool) (e129 : Nat) (l130 : (List Int)) (b131 : Bool) (e132 : Nat) (l133 : (List Int)) (l134 : (List Nat)) (l135 : (List Nat)) (l136 : (List Nat)) (l137 : (List Nat)) (k0 : Option ρ) (k1 : Option ρ) (k2 : Option ρ) : (laws_FnFilters_c39 φ n122 n123 n124 b125 n126 n127 b128 e129 l130 b131 e132 l133 l134 l135 l136 l137 k0 k1 k2).bind f = laws_FnFilters_c39 φ n122 n123 n124 b125 n126 n127 b128 e129 l130 b131 e132 l133 l134 l135 l136 l137 (k0.bind f) (k1.bind f) (k2.bind f) := by
  simp only [laws_FnFilters_c39, cond_bind, Option.bind_assoc, Option.bind_none, laws_FnFilters_c41_nat]

theorem laws_FnFilters_c39_ok (hT : TOk P T) (φ : Nat) (hF : FOk P (F_44 φ)) (hm : P.follows .mixedOrders = true) : CodeOk P 2 (laws_FnFilters_c39_s φ) (tailOf Try.f3 39) := by
  have uk : (loopsOf (tailOf Try.f3 39)).all (fun x => Nat.blt (key x) 500000) = true := by kernel_rfl
  refine CodeOk.of_once (D := (evDraw T (F_44 φ))) (L := Lin_laws_FnFilters_c39 φ) (keep := (hasN [4, 6, 24, 25, 26, 28, 32, 34, 35, 215, 216])) hT hF (evDraw_ok hT hF hm) (LoopsOk.cut (show apartKeys 41 (tailsOf (tailOf Try.f3 39)) = true from by kernel_rfl) uk (show findKey 41 (tailsOf (tailOf Try.f3 39)) = some (tailOf Try.f3 41) from by kernel_rfl) (laws_FnFilters_c41_ok hT φ hF hm) (LoopsOk.none 2 (tailOf Try.f3 39))) ?_
  intro st K out h
  unfold laws_FnFilters_c39_s at h
  split at h
  · rename_i hq1 hq2
    obtain ⟨h1, h2⟩ := cond_inv h
    rw [Bool.and_eq_true] at h1
    refine ⟨h1.1, ?_⟩
    rw [norm_spread rfl st hq1 hq2 (Nat.eq_of_beq_eq_true h1.2)]
    exact (laws_FnFilters_c39_ev φ K _ _ _ _ _ _ _ _ _ _ _ _ _ _ _ _).trans h2
  · cases h

theorem laws_FnFilters_36_step (φ : Nat) (n108 : Int) (n109 : Int) (n110 : Int) (n111 : Int) (b112 : Bool) (e113 : Nat) (l114 : (List Int)) (b115 : Bool) (e116 : Nat) (l117 : (List Int)) (l118 : (List Nat)) (l119 : (List Nat)) (l120 : (List Nat)) (l121 : (List Nat)) (G : St → Option Out) (K : Kont) : evCode T (F_44 φ) (evDraw T (F_44 φ)) (Lin_laws_FnFilters_36 φ) (loopOf Try.f3 36) (laws_FnFilters_36_st n108 n109 n110 n111 b112 e113 l114 b115 e116 l117 l118 l119 l120 l121) (round 2 (hasN [4, 6, 24, 25, 26, 28, 32, 215, 216]) G K) =
    bif (decide (n111 < n110)) then
      bif (decide (n111 ≥ n108)) then
        laws_FnFilters_c39 φ n108 n109 n111 (decide (n111 < n109)) n110 n111 b112 e113 l114 b115 e116 l117 l118 l119 l120 l121
          (
          (K .ret (St.mk (spread 0 299 [4, 6, 24, 25, 26, 28, 32, 215, 216] [(.bool Bool.false), (.whole 2), (.int .i64 n108), (.int .i64 n109), (.whole 3), (.whole 4), (.whole 5), (.int .i64 n110), (.int .i64 n111)]) [(.vec b112 e113 (.int .u8) l114), (.vec b115 e116 (.int .u8) l117), (.vec Bool.true 34 (.flt .f32) l118), (.vec Bool.true 34 (.flt .f32) l119), (.vec Bool.true 34 (.flt .f32) l120), (.vec Bool.true 34 (.flt .f32) l121)])))
          (
          (K .ret (St.mk (spread 0 299 [4, 6, 24, 25, 26, 28, 32, 215, 216] [(.bool Bool.false), (.whole 2), (.int .i64 n108), (.int .i64 n109), (.whole 3), (.whole 4), (.whole 5), (.int .i64 n110), (.int .i64 n111)]) [(.vec b112 e113 (.int .u8) l114), (.vec b115 e116 (.int .u8) l117), (.vec Bool.true 34 (.flt .f32) l118), (.vec Bool.true 34 (.flt .f32) l119), (.vec Bool.true 34 (.flt .f32) l120), (.vec Bool.true 34 (.flt .f32) l121)])))
          (
          (G (laws_FnFilters_36_st n108 n109 n110 (IntKind.wrap .i64 (n111 + (1 : Int))) b112 e113 l114 b115 e116 l117 l118 l119 l120 l121)))
      else
        laws_FnFilters_c39 φ n108 n109 n111 Bool.false n110 n111 b112 e113 l114 b115 e116 l117 l118 l119 l120 l121
          (
          (K .ret (St.mk (spread 0 299 [4, 6, 24, 25, 26, 28, 32, 215, 216] [(.bool Bool.false), (.whole 2), (.int .i64 n108), (.int .i64 n109), (.whole 3), (.whole 4), (.whole 5), (.int .i64 n110), (.int .i64 n111)]) [(.vec b112 e113 (.int .u8) l114), (.vec b115 e116 (.int .u8) l117), (.vec Bool.true 34 (.flt .f32) l118), (.vec Bool.true 34 (.flt .f32) l119), (.vec Bool.true 34 (.flt .f32) l120), (.vec Bool.true 34 (.flt .f32) l121)])))
          (
          (K .ret (St.mk (spread 0 299 [4, 6, 24, 25, 26, 28, 32, 215, 216] [(.bool Bool.false), (.whole 2), (.int .i64 n108), (.int .i64 n109), (.whole 3), (.whole 4), (.whole 5), (.int .i64 n110), (.int .i64 n111)]) [(.vec b112 e113 (.int .u8) l114), (.vec b115 e116 (.int .u8) l117), (.vec Bool.true 34 (.flt .f32) l118), (.vec Bool.true 34 (.flt .f32) l119), (.vec Bool.true 34 (.flt .f32) l120), (.vec Bool.true 34 (.flt .f32) l121)])))
          (
          (G (laws_FnFilters_36_st n108 n109 n110 (IntKind.wrap .i64 (n111 + (1 : Int))) b112 e113 l114 b115 e116 l117 l118 l119 l120 l121)))
    else
      (K (.exit 4) (St.mk (spread 0 299 [6, 24, 25, 26, 28, 32, 215, 216] [(.whole 2), (.int .i64 n108), (.int .i64 n109), (.whole 3), (.whole 4), (.whole 5), (.int .i64 n110), (.int .i64 n111)]) [(.vec b112 e113 (.int .u8) l114), (.vec b115 e116 (.int .u8) l117), (.vec Bool.true 34 (.flt .f32) l118), (.vec Bool.true 34 (.flt .f32) l119), (.vec Bool.true 34 (.flt .f32) l120), (.vec Bool.true 34 (.flt .f32) l121)])) := by kernel_rfl

theorem laws_FnFilters_36_ev (φ : Nat) (K : Kont) : ∀ (n : Nat) (n108 : Int) (n109 : Int) (n110 : Int) (n111 : Int) (b112 : Bool) (e113 : Nat) (l114 : (List Int)) (b115 : Bool) (e116 : Nat) (l117 : (List Int)) (l118 : (List Nat)) (l119 : (List Nat)) (l120 : (List Nat)) (l121 : (List Nat)), evLoop T (F_44 φ) (evDraw T (F_44 φ)) (Lin_laws_FnFilters_36 φ) 2 (hasN [4, 6, 24, 25, 26, 28, 32, 215, 216]) (loopOf Try.f3 36) n (laws_FnFilters_36_st n108 n109 n110 n111 b112 e113 l114 b115 e116 l117 l118 l119 l120 l121) K = laws_FnFilters_36 φ n108 n109 n110 b112 e113 l114 b115 e116 l117 l118 l119 l120 l121 n n111 (fun n290 => K .ret (St.mk (spread 0 299 [4, 6, 24, 25, 26, 28, 32, 215, 216] [(.bool Bool.false), (.whole 2), (.int .i64 n108), (.int .i64 n109), (.whole 3), (.whole 4), (.whole 5), (.int .i64 n110), (.int .i64 n290)]) [(.vec b112 e113 (.int .u8) l114), (.vec b115 e116 (.int .u8) l117), (.vec Bool.true 34 (.flt .f32) l118), (.vec Bool.true 34 (.flt .f32) l119), (.vec Bool.true 34 (.flt .f32) l120), (.vec Bool.true 34 (.flt .f32) l121)])) (fun n304 => K (.exit 4) (St.mk (spread 0 299 [6, 24, 25, 26, 28, 32, 215, 216] [(.whole 2), (.int .i64 n108), (.int .i64 n109), (.whole 3), (.whole 4), (.whole 5), (.int .i64 n110), (.int .i64 n304)]) [(.vec b112 e113 (.int .u8) l114), (.vec b115 e116 (.int .u8) l117), (.vec Bool.true 34 (.flt .f32) l118), (.vec Bool.true 34 (.flt .f32) l119), (.vec Bool.true 34 (.flt .f32) l120), (.vec Bool.true 34 (.flt .f32) l121)])) := by
  intro n
  induction n with
  | zero => intros; rfl
  | succ n ih =>
    intros
    rw [evLoop_succ, laws_FnFilters_36_step]
    simp only [ih]
    rfl

theorem laws_FnFilters_36_nat (φ : Nat) {ρ σ : Type} (f : ρ → Option σ) : ∀ (n : Nat) (n108 : Int) (n109 : Int) (n110 : Int) (n111 : Int) (b112 : Bool) (e113 : Nat) (l114 : (List Int)) (b115 : Bool) (e116 : Nat) (l117 : (List Int)) (l118 : (List Nat)) (l119 : (List Nat)) (l120 : (List Nat)) (l121 : (List Nat)) (k0 : Int → Option ρ) (k1 : Int → Option ρ), (laws_FnFilters_36 φ n108 n109 n110 b112 e113 l114 b115 e116 l117 l118 l119 l120 l121 n n111 k0 k1).bind f = laws_FnFilters_36 φ n108 n109 n110 b112 e113 l114 b115 e116 l117 l118 l119 l120 l121 n n111 (fun n290 => (k0 n290).bind f) (fun n304 => (k1 n304).bind f) := by
  intro n
  induction n with
  | zero => intros; rfl
  | succ n ih =>
    intros
    simp only [laws_FnFilters_36, cond_bind, Option.bind_assoc, Option.bind_none, ih, laws_FnFilters_c39_nat]

theorem laws_FnFilters_36_ok (hT : TOk P T) (φ : Nat) (hF : FOk P (F_44 φ)) (hm : P.follows .mixedOrders = true) : LoopOk P 2 (laws_FnFilters_36_s φ) (loopOf Try.f3 36) := by
  have uk : (loopsOf (loopOf Try.f3 36)).all (fun x => Nat.blt (key x) 500000) = true := by kernel_rfl
  refine LoopOk.of_rounds (D := (evDraw T (F_44 φ))) (L := Lin_laws_FnFilters_36 φ) (keep := (hasN [4, 6, 24, 25, 26, 28, 32, 215, 216])) hT hF (evDraw_ok hT hF hm) (LoopsOk.cut (show apartKeys 39 (tailsOf (loopOf Try.f3 36)) = true from by kernel_rfl) uk (show findKey 39 (tailsOf (loopOf Try.f3 36)) = some (tailOf Try.f3 39) from by kernel_rfl) (laws_FnFilters_c39_ok hT φ hF hm) (LoopsOk.none 2 (loopOf Try.f3 36))) ?_
  intro st K out h
  unfold laws_FnFilters_36_s at h
  split at h
  · rename_i hq1 hq2
    obtain ⟨h1, h2⟩ := cond_inv h
    rw [Bool.and_eq_true] at h1
    refine ⟨h1.1, φ, ?_⟩
    rw [norm_spread rfl st hq1 hq2 (Nat.eq_of_beq_eq_true h1.2)]
    exact (laws_FnFilters_36_ev φ K φ _ _ _ _ _ _ _ _ _ _ _ _ _ _).trans h2
  · cases h

theorem laws_FnFilters_c35_ev (φ : Nat) (K : Kont) (n96 : Int) (n97 : Int) (b98 : Bool) (e99 : Nat) (l100 : (List Int)) (b101 : Bool) (e102 : Nat) (l103 : (List Int)) (l104 : (List Nat)) (l105 : (List Nat)) (l106 : (List Nat)) (l107 : (List Nat)) : evCode T (F_44 φ) (evDraw T (F_44 φ)) (Lin_laws_FnFilters_c35 φ) (tailOf Try.f3 35) (laws_FnFilters_c35_st n96 n97 b98 e99 l100 b101 e102 l103 l104 l105 l106 l107) (once 2 (hasN [4, 6, 24, 25, 26, 28, 32]) K) = laws_FnFilters_c35 φ n96 n97 b98 e99 l100 b101 e102 l103 l104 l105 l106 l107 (fun b317 => K .ret (St.mk (spread 0 299 [4, 6, 24, 25, 26, 28, 32] [(.bool b317), (.whole 2), (.int .i64 n96), (.int .i64 n97), (.whole 3), (.whole 4), (.whole 5)]) [(.vec b98 e99 (.int .u8) l100), (.vec b101 e102 (.int .u8) l103), (.vec Bool.true 34 (.flt .f32) l104), (.vec Bool.true 34 (.flt .f32) l105), (.vec Bool.true 34 (.flt .f32) l106), (.vec Bool.true 34 (.flt .f32) l107)])) := by kernel_rfl

theorem laws_FnFilters_c35_nat (φ : Nat) {ρ σ : Type} (f : ρ → Option σ) (n96 : Int) (n97 : Int) (b98 : Bool) (e99 : Nat) (l100 : (List Int)) (b101 : Bool) (e102 : Nat) (l103 : (List Int)) (l104 : (List Nat)) (l105 : (List Nat)) (l106 : (List Nat)) (l107 : (List Nat)) (k0 : Bool → Option ρ) : (laws_FnFilters_c35 φ n96 n97 b98 e99 l100 b101 e102 l103 l104 l105 l106 l107 k0).bind f = laws_FnFilters_c35 φ n96 n97 b98 e99 l100 b101 e102 l103 l104 l105 l106 l107 (fun b317 => (k0 b317).bind f) := by
  simp only [laws_FnFilters_c35, cond_bind, Option.bind_assoc, Option.bind_none, laws_FnFilters_36_nat]

theorem laws_FnFilters_c35_ok (hT : TOk P T) (φ : Nat) (hF : FOk P (F_44 φ)) (hm : P.follows .mixedOrders = true) : CodeOk P 2 (laws_FnFilters_c35_s φ) (tailOf Try.f3 35) := by
  refine CodeOk.of_once (D := (evDraw T (F_44 φ))) (L := Lin_laws_FnFilters_c35 φ) (keep := (hasN [4, 6, 24, 25, 26, 28, 32])) hT hF (evDraw_ok hT hF hm) (LoopsOk.loop (show apartKeys 36 (loopsOf (tailOf Try.f3 35)) = true from by kernel_rfl) (show Nat.blt 36 500000 = true from by kernel_rfl) (show findKey 36 (loopsOf (tailOf Try.f3 35)) = some (loopOf Try.f3 36) from by kernel_rfl) (laws_FnFilters_36_ok hT φ hF hm) (LoopsOk.none 2 (tailOf Try.f3 35))) ?_
  intro st K out h
  unfold laws_FnFilters_c35_s at h
  split at h
  · rename_i hq1 hq2
    obtain ⟨h1, h2⟩ := cond_inv h
    rw [Bool.and_eq_true] at h1
    refine ⟨h1.1, ?_⟩
    rw [norm_spread rfl st hq1 hq2 (Nat.eq_of_beq_eq_true h1.2)]
    exact (laws_FnFilters_c35_ev φ K _ _ _ _ _ _ _ _ _ _ _ _).trans h2
  · cases h

theorem laws_FnFilters_c13_ev (φ : Nat) (K : Kont) (b13 : Bool) (n14 : Int) (b15 : Bool) (e16 : Nat) (l17 : (List Int)) (b18 : Bool) (e19 : Nat) (l20 : (List Int)) (l21 : (List Nat)) : evCode T (F_44 φ) (evDraw T (F_44 φ)) (Lin_laws_FnFilters_c13 φ) (tailOf Try.f3 13) (laws_FnFilters_c13_st b13 n14 b15 e16 l17 b18 e19 l20 l21) (once 2 (hasN [1, 4, 5, 6]) K) = laws_FnFilters_c13 φ b13 n14 b15 e16 l17 b18 e19 l20 l21 (K .ret (St.mk (spread 0 299 [1, 4, 5, 6] [(.whole 1), (.bool Bool.false), (.int .i64 n14), (.whole 2)]) [(.vec b15 e16 (.int .u8) l17), (.vec b18 e19 (.int .u8) l20), (.vec Bool.true 34 (.flt .f32) l21)])) (fun b340 => K .ret (St.mk (spread 0 299 [4, 6] [(.bool b340), (.whole 2)]) [(.vec b15 e16 (.int .u8) l17), (.vec b18 e19 (.int .u8) l20), (.vec Bool.true 34 (.flt .f32) l21)])) := by kernel_rfl

theorem laws_FnFilters_c13_nat (φ : Nat) {ρ σ : Type} (f : ρ → Option σ) (b13 : Bool) (n14 : Int) (b15 : Bool) (e16 : Nat) (l17 : (List Int)) (b18 : Bool) (e19 : Nat) (l20 : (List Int)) (l21 : (List Nat)) (k0 : Option ρ) (k1 : Bool → Option ρ) : (laws_FnFilters_c13 φ b13 n14 b15 e16 l17 b18 e19 l20 l21 k0 k1).bind f = laws_FnFilters_c13 φ b13 n14 b15 e16 l17 b18 e19 l20 l21 (k0.bind f) (fun b340 => (k1 b340).bind f) := by
  simp only [laws_FnFilters_c13, cond_bind, Option.bind_assoc, Option.bind_none, laws_FnFilters_16_nat, laws_FnFilters_23_nat, laws_FnFilters_c35_nat]

theorem laws_FnFilters_c13_ok (hT : TOk P T) (φ : Nat) (hF : FOk P (F_44 φ)) (hm : P.follows .mixedOrders = true) : CodeOk P 2 (laws_FnFilters_c13_s φ) (tailOf Try.f3 13) := by
  have uk : (loopsOf (tailOf Try.f3 13)).all (fun x => Nat.blt (key x) 500000) = true := by kernel_rfl
  refine CodeOk.of_once (D := (evDraw T (F_44 φ))) (L := Lin_laws_FnFilters_c13 φ) (keep := (hasN [1, 4, 5, 6])) hT hF (evDraw_ok hT hF hm) (LoopsOk.loop (show apartKeys 16 (loopsOf (tailOf Try.f3 13)) = true from by kernel_rfl) (show Nat.blt 16 500000 = true from by kernel_rfl) (show findKey 16 (loopsOf (tailOf Try.f3 13)) = some (loopOf Try.f3 16) from by kernel_rfl) (laws_FnFilters_16_ok hT φ hF hm) (LoopsOk.loop (show apartKeys 23 (loopsOf (tailOf Try.f3 13)) = true from by kernel_rfl) (show Nat.blt 23 500000 = true from by kernel_rfl) (show findKey 23 (loopsOf (tailOf Try.f3 13)) = some (loopOf Try.f3 23) from by kernel_rfl) (laws_FnFilters_23_ok hT φ hF hm) (LoopsOk.cut (show apartKeys 35 (tailsOf (tailOf Try.f3 13)) = true from by kernel_rfl) uk (show findKey 35 (tailsOf (tailOf Try.f3 13)) = some (tailOf Try.f3 35) from by kernel_rfl) (laws_FnFilters_c35_ok hT φ hF hm) (LoopsOk.none 2 (tailOf Try.f3 13))))) ?_
  intro st K out h
  unfold laws_FnFilters_c13_s at h
  split at h
  · rename_i hq1 hq2
    obtain ⟨h1, h2⟩ := cond_inv h
    rw [Bool.and_eq_true] at h1
    refine ⟨h1.1, ?_⟩
    rw [norm_spread rfl st hq1 hq2 (Nat.eq_of_beq_eq_true h1.2)]
    exact (laws_FnFilters_c13_ev φ K _ _ _ _ _ _ _ _ _).trans h2
  · cases h

theorem laws_FnFilters_ev (φ : Nat) (b4 : Bool) (e5 : Nat) (l6 : (List Int)) (b7 : Bool) (e8 : Nat) (l9 : (List Int)) : evFn T (F_44 φ) (evDraw T (F_44 φ)) (laws_FnFilters_L φ) Try.f3 [(.whole 0), (.whole 1)] [(.vec b4 e5 (.int .u8) l6), (.vec b7 e8 (.int .u8) l9)] = laws_FnFilters φ b4 e5 l6 b7 e8 l9 (fun r => some (laws_FnFilters_val r, [(.vec b4 e5 (.int .u8) l6), (.vec b7 e8 (.int .u8) l9)])) := by kernel_rfl

theorem laws_FnFilters_nat (φ : Nat) (b4 : Bool) (e5 : Nat) (l6 : (List Int)) (b7 : Bool) (e8 : Nat) (l9 : (List Int)) {ρ σ : Type} (k : Bool → Option ρ) (f : ρ → Option σ) : (laws_FnFilters φ b4 e5 l6 b7 e8 l9 k).bind f = laws_FnFilters φ b4 e5 l6 b7 e8 l9 (fun r => (k r).bind f) := by
  simp only [laws_FnFilters, cond_bind, Option.bind_assoc, Option.bind_none, laws_FnFilters_16_nat, laws_FnFilters_23_nat, laws_FnFilters_c41_nat, laws_FnFilters_c39_nat, laws_FnFilters_36_nat, laws_FnFilters_c35_nat, laws_FnFilters_c13_nat]

theorem laws_FnFilters_S (φ : Nat) (args : List AV) (h : List Blk) (r : Bool) (hr : S_laws_FnFilters φ args h = some r) : ∃ (b4 : Bool) (e5 : Nat) (l6 : (List Int)) (b7 : Bool) (e8 : Nat) (l9 : (List Int)), args = [(.whole 0), (.whole 1)] ∧ h = [(.vec b4 e5 (.int .u8) l6), (.vec b7 e8 (.int .u8) l9)] ∧ laws_FnFilters φ b4 e5 l6 b7 e8 l9 some = some r := by
  unfold S_laws_FnFilters at hr
  split at hr
  · exact ⟨_, _, _, _, _, _, rfl, rfl, hr⟩
  · cases hr

theorem laws_FnFilters_ok (hT : TOk P T) (φ : Nat) (hF : FOk P (F_44 φ)) (hm : P.follows .mixedOrders = true) : SumOk P 3 (.rd (S_laws_FnFilters φ) laws_FnFilters_val) := by
  have uk : (loopsOf (bodyOf Try.f3)).all (fun x => Nat.blt (key x) 500000) = true := by kernel_rfl
  refine rd_ok (fn := Try.f3) (c := bodyOf Try.f3) hT hF (evDraw_ok hT hF hm) (by kernel_rfl) (by kernel_rfl) (by kernel_rfl) ?_
  intro args h r hr
  obtain ⟨b4, e5, l6, b7, e8, l9, rfl, rfl, hq⟩ := laws_FnFilters_S φ args h r hr
  have e := laws_FnFilters_nat φ b4 e5 l6 b7 e8 l9 some (fun r => (some (laws_FnFilters_val r, [(.vec b4 e5 (.int .u8) l6), (.vec b7 e8 (.int .u8) l9)]) : Option Out))
  rw [hq] at e
  exact ⟨laws_FnFilters_L φ, (LoopsOk.cut (show apartKeys 13 (tailsOf (bodyOf Try.f3)) = true from by kernel_rfl) uk (show findKey 13 (tailsOf (bodyOf Try.f3)) = some (tailOf Try.f3 13) from by kernel_rfl) (laws_FnFilters_c13_ok hT φ hF hm) (LoopsOk.none 2 (bodyOf Try.f3))), (laws_FnFilters_ev φ b4 e5 l6 b7 e8 l9).trans e.symm⟩

end
end Go.Proofs.Ytedpmhnglbgihaa

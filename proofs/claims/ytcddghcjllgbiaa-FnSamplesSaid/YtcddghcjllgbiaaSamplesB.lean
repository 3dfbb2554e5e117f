/-
  A list at any place: an element, a number between two, or nothing.
-/
import Derived.Test.YtcddghcjllgbiaaSamplesA
import Derived.Test.YtcddghcjllgbiaaFlE
import Derived.KernelRfl
set_option maxRecDepth 100000
namespace Go.Proofs.Ytcddghcjllgbiaa
open Go.Ev Go.Fl
set_option linter.unusedSimpArgs false
set_option linter.unusedVariables false

theorem bind_inv' {α β : Type} {x : Option α} {g : α → Option β} {o : β} (he : x.bind g = some o) : ∃ a, x = some a ∧ g a = some o := by
  cases x with
  | none => cases he
  | some a => exact ⟨a, rfl, he⟩

/-- The number before a place. -/
def posOf (x : Nat) : Option Int := (fconv .f32 x .f64).bind fun r5 => (x_fround Ieee.Toward.down r5).bind fun r6 => ftoi .f64 r6 .i64

theorem sample_in (φ x : Nat) (b : Bool) (e n : Nat) (g : Nat → Nat) (j : Nat) (hn : 0 < n) (hn2 : n ≤ 64) (h0 : fge .f32 x (can .f32 0) = true) (h1 : fle .f32 x (itof .f32 ((n - 1 : Nat) : Int)) = true)
    (h2 : posOf x = some (j : Int)) :
    (feq .f32 (fsub .f32 x (itof .f32 (j : Int))) (can .f32 0) = true → j < n → impl_sample φ x b e (tab n g) some = some (g j)) ∧
    (feq .f32 (fsub .f32 x (itof .f32 (j : Int))) (can .f32 0) = false → j + 1 < n → impl_sample φ x b e (tab n g) some = some (fadd .f32 (g j) (fmul .f32 (fsub .f32 x (itof .f32 (j : Int))) (fsub .f32 (g (j + 1)) (g j))))) := by
  unfold posOf at h2
  obtain ⟨r5, e5, h2⟩ := bind_inv' h2
  obtain ⟨r6, e6, e7⟩ := bind_inv' h2
  have hw : IntKind.wrap .i64 ((((tab n g).length : Nat) : Int) - 1) = ((n - 1 : Nat) : Int) := by
    rw [tab_length, wrap_i64 (by omega) (by omega)]; omega
  unfold impl_sample impl_sample_c3 math_Floor
  rw [hw]
  simp only [h0, h1, cond_true, Bool.not_true, cond_false, e5, e6, e7, Option.bind_some, tab_length]
  refine ⟨fun hz hj => ?_, fun hz hj => ?_⟩
  · simp only [hz, cond_true, idx_ok hj, Option.bind_some, tab_get hj]
  · have hw2 : IntKind.wrap .i64 ((j : Int) + 1) = ((j + 1 : Nat) : Int) := by rw [wrap_i64 (by omega) (by omega)]; omega
    simp only [hz, cond_false, idx_ok (show j < n by omega), Option.bind_some, tab_get (show j < n by omega), hw2, idx_ok hj, tab_get hj]

theorem sample_out (φ x : Nat) (b : Bool) (e n : Nat) (g : Nat → Nat) (hn : 0 < n) (hn2 : n ≤ 64) (h0 : fge .f32 x (can .f32 0) = true) (h1 : fle .f32 x (itof .f32 ((n - 1 : Nat) : Int)) = false) :
    impl_sample φ x b e (tab n g) some = some (can .f32 0) := by
  have hw : IntKind.wrap .i64 ((((tab n g).length : Nat) : Int) - 1) = ((n - 1 : Nat) : Int) := by
    rw [tab_length, wrap_i64 (by omega) (by omega)]; omega
  unfold impl_sample
  rw [hw]
  simp only [h0, h1, cond_true, Bool.not_false]

theorem ticks_ok (φ : Nat) (b : Bool) (e n : Nat) (g : Nat → Nat) (hn : 0 < n) (hn2 : n ≤ 64) : impl_isTicks φ b e (tab n g) some = some true := by
  unfold impl_isTicks impl_length_float32 impl_within
  simp only [tab_length, Option.bind_some, decide_eq_true (show (1 : Int) ≤ (n : Int) by omega), cond_true, decide_eq_true (show (n : Int) ≤ 64 by omega)]

theorem between_ok (φ x : Nat) (b : Bool) (e n : Nat) (g : Nat → Nat) (hn : 0 < n) (hn2 : n ≤ 64) {y : Nat} (h : impl_sample φ x b e (tab n g) some = some y) : impl_SampleBetween φ x b e (tab n g) some = some (y, true) := by
  unfold impl_SampleBetween
  simp only [ticks_ok φ b e n g hn hn2, Option.bind_some, Bool.not_true, cond_false, h]

/-- A list that is sampled. -/
theorem correct_ok (φ x sp : Nat) (b : Bool) (e n : Nat) (g G : Nat → Nat) (hn : 0 < n) (hn2 : n ≤ 20) (hφ : 60 ≤ φ) (hf : impl_IsFinite φ x some = some true) (hp : impl_arePositive φ Bool.true 27 [sp] some = some true)
    (hs : ∀ i, i < n → ∃ t, impl_corrected_1 φ (itof .f32 (i : Int)) x sp some = some t ∧ impl_sample φ t b e (tab n g) some = some (G i)) :
    impl_CorrectTrace φ x sp b e (tab n g) some = some (true, tab n G) := by
  unfold impl_CorrectTrace impl_corrected impl_sampled
  simp only [ticks_ok φ b e n g hn (by omega), Option.bind_some, Bool.not_true, cond_false, hf, hp]
  have := appLoop n G (fun k i l => impl_sampled_3 φ (((tab n g).length : Nat) : Int) b e (tab n g) x sp k (i : Int) l (fun _ e20 => some e20)) (fun l => some l)
    (fun k i hi => by
      obtain ⟨t, h1, h2⟩ := hs i hi
      show impl_sampled_3 φ _ b e _ x sp (k + 1) (i : Int) _ _ = _
      conv => lhs; unfold impl_sampled_3
      simp only [tab_length, decide_eq_true (show (i : Int) < (n : Int) by omega), cond_true, h1, h2, Option.bind_some]
      rw [room_ok (by show (Nat.add i 0 + 1) * 4 ≤ _; have : Nat.add i 0 = i := rfl; omega) (by have : Nat.add i 0 = i := rfl; omega)]
      simp only [Option.bind_some]
      rw [wrap_i64 (by omega) (by omega)]
      rfl)
    (fun k => by
      show impl_sampled_3 φ _ b e _ x sp (k + 1) (n : Int) _ _ = _
      conv => lhs; unfold impl_sampled_3
      simp only [tab_length, decide_eq_false (show ¬ (n : Int) < (n : Int) by omega), cond_false]) φ (by omega)
  rw [show ((0 : Nat) : Int) = 0 from rfl] at this
  rw [this]; rfl

end Go.Proofs.Ytcddghcjllgbiaa

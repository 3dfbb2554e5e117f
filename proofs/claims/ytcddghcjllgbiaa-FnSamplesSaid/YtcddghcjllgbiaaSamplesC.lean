/-
  Lists that are bent, moved, compared.
-/
import Derived.Test.YtcddghcjllgbiaaSamplesB
set_option maxRecDepth 100000
namespace Go.Proofs.Ytcddghcjllgbiaa
open Go.Ev Go.Fl
set_option linter.unusedSimpArgs false
set_option linter.unusedVariables false

/-- A list that is bent. -/
theorem bend_ok (φ x sp : Nat) (b : Bool) (e n : Nat) (g G : Nat → Nat) (hn : 0 < n) (hn2 : n ≤ 20) (hφ : 60 ≤ φ) (hf : impl_IsFinite φ x some = some true) (hp : impl_arePositive φ Bool.true 27 [sp] some = some true)
    (hs : ∀ i, i < n → ∃ t, impl_bent_1 φ (itof .f32 (i : Int)) x sp some = some t ∧ impl_sample φ t b e (tab n g) some = some (G i)) :
    impl_BendTrace φ x sp b e (tab n g) some = some (true, tab n G) := by
  unfold impl_BendTrace impl_bent impl_sampled_v2
  simp only [ticks_ok φ b e n g hn (by omega), Option.bind_some, Bool.not_true, cond_false, hf, hp]
  have := appLoop n G (fun k i l => impl_sampled_v2_3 φ (((tab n g).length : Nat) : Int) b e (tab n g) x sp k (i : Int) l (fun _ e20 => some e20)) (fun l => some l)
    (fun k i hi => by
      obtain ⟨t, h1, h2⟩ := hs i hi
      show impl_sampled_v2_3 φ _ b e _ x sp (k + 1) (i : Int) _ _ = _
      conv => lhs; unfold impl_sampled_v2_3
      simp only [tab_length, decide_eq_true (show (i : Int) < (n : Int) by omega), cond_true, h1, h2, Option.bind_some]
      rw [room_ok (by show (Nat.add i 0 + 1) * 4 ≤ _; have : Nat.add i 0 = i := rfl; omega) (by have : Nat.add i 0 = i := rfl; omega)]
      simp only [Option.bind_some]
      rw [wrap_i64 (by omega) (by omega)]
      rfl)
    (fun k => by
      show impl_sampled_v2_3 φ _ b e _ x sp (k + 1) (n : Int) _ _ = _
      conv => lhs; unfold impl_sampled_v2_3
      simp only [tab_length, decide_eq_false (show ¬ (n : Int) < (n : Int) by omega), cond_false]) φ (by omega)
  rw [show ((0 : Nat) : Int) = 0 from rfl] at this
  rw [this]; rfl

/-- A list that is moved. -/
theorem move_ok (φ x : Nat) (b : Bool) (e n : Nat) (g G : Nat → Nat) (hn : 0 < n) (hn2 : n ≤ 20) (hφ : 60 ≤ φ)
    (hs : ∀ i, i < n → impl_sample φ (fsub .f32 (itof .f32 (i : Int)) x) b e (tab n g) some = some (G i)) :
    impl_MoveTrace φ x b e (tab n g) some = some (true, tab n G) := by
  unfold impl_MoveTrace impl_sampled_v3
  simp only [ticks_ok φ b e n g hn (by omega), Option.bind_some, Bool.not_true, cond_false]
  have := appLoop n G (fun k i l => impl_sampled_v3_3 φ (((tab n g).length : Nat) : Int) b e (tab n g) x k (i : Int) l (fun _ e20 => some e20)) (fun l => some l)
    (fun k i hi => by
      have h2 := hs i hi
      show impl_sampled_v3_3 φ _ b e _ x (k + 1) (i : Int) _ _ = _
      conv => lhs; unfold impl_sampled_v3_3
      unfold impl_MoveTrace_1
      simp only [tab_length, decide_eq_true (show (i : Int) < (n : Int) by omega), cond_true, h2, Option.bind_some]
      rw [room_ok (by show (Nat.add i 0 + 1) * 4 ≤ _; have : Nat.add i 0 = i := rfl; omega) (by have : Nat.add i 0 = i := rfl; omega)]
      simp only [Option.bind_some]
      rw [wrap_i64 (by omega) (by omega)]
      rfl)
    (fun k => by
      show impl_sampled_v3_3 φ _ b e _ x (k + 1) (n : Int) _ _ = _
      conv => lhs; unfold impl_sampled_v3_3
      simp only [tab_length, decide_eq_false (show ¬ (n : Int) < (n : Int) by omega), cond_false]) φ (by omega)
  rw [show ((0 : Nat) : Int) = 0 from rfl] at this
  rw [this]; rfl

/-- Two lists of the same numbers. -/
theorem equal_ok (φ : Nat) (b : Bool) (e : Nat) (b' : Bool) (e' n : Nat) (g h : Nat → Nat) (hn2 : n ≤ 20) (hφ : 60 ≤ φ) (hs : ∀ i, i < n → fne .f32 (g i) (h i) = false) :
    laws_r8Equal φ b e (tab n g) b' e' (tab n h) some = some true := by
  unfold laws_r8Equal
  simp only [tab_length, bne_self_eq_false, cond_false]
  have := allLoop n (fun k i => laws_r8Equal_4 φ Bool.false b e (tab n g) b' e' (tab n h) k (i : Int) (fun _ => some Bool.false) (fun _ => some Bool.true)) (some true) 0
    (fun k i _ hi => by
      show laws_r8Equal_4 φ _ b e _ b' e' _ (k + 1) (i : Int) _ _ = _
      conv => lhs; unfold laws_r8Equal_4
      simp only [tab_length, decide_eq_true (show (i : Int) < (n : Int) by omega), cond_true, idx_ok hi, Option.bind_some, tab_get hi, hs i hi, cond_false]
      rw [wrap_i64 (by omega) (by omega)]
      rfl)
    (fun k => by
      show laws_r8Equal_4 φ _ b e _ b' e' _ (k + 1) (n : Int) _ _ = _
      conv => lhs; unfold laws_r8Equal_4
      simp only [tab_length, decide_eq_false (show ¬ (n : Int) < (n : Int) by omega), cond_false]) φ 0 (Nat.le_refl _) (by omega) (by omega)
  exact this

/-- Twice each number. -/
theorem twice_ok (φ : Nat) {ρ : Type} (n : Nat) (n31 : Int) (b33 : Bool) (e34 : Nat) (l35 : List Int) (b36 : Bool) (e37 : Nat) (l38 : List Int) (g : Nat → Nat) (hn2 : n ≤ 20) (hφ : 60 ≤ φ) (K : List Nat → Option ρ) :
    laws_FnSamples_15 φ (n : Int) n31 b33 e34 l35 b36 e37 l38 (tab n g) φ (0 : Int) [] (fun _ l => K l) = K (tab n fun i => fmul .f32 (can .f32 1073741824) (g i)) := by
  have := appLoop n (fun i => fmul .f32 (can .f32 1073741824) (g i)) (fun k i l => laws_FnSamples_15 φ (n : Int) n31 b33 e34 l35 b36 e37 l38 (tab n g) k (i : Int) l (fun _ l => K l)) K
    (fun k i hi => by
      show laws_FnSamples_15 φ _ n31 b33 e34 l35 b36 e37 l38 _ (k + 1) (i : Int) _ _ = _
      conv => lhs; unfold laws_FnSamples_15
      simp only [tab_length, decide_eq_true (show (i : Int) < (n : Int) by omega), cond_true, idx_ok hi, Option.bind_some, tab_get hi]
      rw [room_ok (by show (Nat.add i 0 + 1) * 4 ≤ _; have : Nat.add i 0 = i := rfl; omega) (by have : Nat.add i 0 = i := rfl; omega)]
      simp only [Option.bind_some]
      rw [wrap_i64 (by omega) (by omega)]
      rfl)
    (fun k => by
      show laws_FnSamples_15 φ _ n31 b33 e34 l35 b36 e37 l38 _ (k + 1) (n : Int) _ _ = _
      conv => lhs; unfold laws_FnSamples_15
      simp only [decide_eq_false (show ¬ (n : Int) < (n : Int) by omega), cond_false]) φ (by omega)
  exact this

/-- Each number of one list is twice that of the other one. -/
theorem compare_ok (φ : Nat) {ρ : Type} (n : Nat) (n72 : Int) (x73 : Nat) (b75 : Bool) (e76 : Nat) (l77 : List Int) (b78 : Bool) (e79 : Nat) (l80 : List Int) (a c : Nat → Nat) (hn2 : n ≤ 20) (hφ : 60 ≤ φ)
    (hs : ∀ i, i < n → fne .f32 (c i) (fmul .f32 (can .f32 1073741824) (a i)) = false) (k0 : Int → Option ρ) (r : Option ρ) :
    laws_FnSamples_24 φ (n : Int) n72 x73 b75 e76 l77 b78 e79 l80 (tab n a) (tab n c) φ (0 : Int) k0 (fun _ => r) = r := by
  have := allLoop n (fun k i => laws_FnSamples_24 φ (n : Int) n72 x73 b75 e76 l77 b78 e79 l80 (tab n a) (tab n c) k (i : Int) k0 (fun _ => r)) r 0
    (fun k i _ hi => by
      show laws_FnSamples_24 φ _ n72 x73 b75 e76 l77 b78 e79 l80 _ _ (k + 1) (i : Int) _ _ = _
      conv => lhs; unfold laws_FnSamples_24
      simp only [tab_length, decide_eq_true (show (i : Int) < (n : Int) by omega), cond_true, idx_ok hi, Option.bind_some, tab_get hi, hs i hi, cond_false]
      rw [wrap_i64 (by omega) (by omega)]
      rfl)
    (fun k => by
      show laws_FnSamples_24 φ _ n72 x73 b75 e76 l77 b78 e79 l80 _ _ (k + 1) (n : Int) _ _ = _
      conv => lhs; unfold laws_FnSamples_24
      simp only [decide_eq_false (show ¬ (n : Int) < (n : Int) by omega), cond_false]) φ 0 (Nat.le_refl _) (by omega) (by omega)
  exact this

end Go.Proofs.Ytcddghcjllgbiaa

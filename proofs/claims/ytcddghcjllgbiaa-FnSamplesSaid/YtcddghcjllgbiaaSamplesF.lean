/-
  A list has its numbers, lies between them, and the rest of the law.
-/
import Derived.Test.YtcddghcjllgbiaaSamplesD
set_option maxRecDepth 100000
namespace Go.Proofs.Ytcddghcjllgbiaa
open Go.Ev Go.Fl Ieee
set_option linter.unusedSimpArgs false
set_option linter.unusedVariables false

theorem all_range {n : Nat} {p : Nat → Bool} (h : (List.range n).all p = true) {i : Nat} (hi : i < n) : p i = true := List.all_eq_true.mp h i (List.mem_range.mpr hi)

def nums (v : Nat → Int) (i : Nat) : Nat := Q .f32 (v i) 2

theorem whole_use {n k : Nat} (hk : k < n) (hn : n < 12) (b : Bool) (e : Nat) (v : Nat → Int) : impl_sample fuelS (itof .f32 (k : Int)) b e (tab n (nums v)) some = some (nums v k) := by
  have h := all_range (all_range whole_all hn) hk
  simp only [whole1, Bool.and_eq_true] at h
  obtain ⟨⟨⟨h0, h1⟩, h2⟩, h3⟩ := h
  exact (sample_in fuelS _ b e n (nums v) k (by omega) (by omega) h0 h1 (isAt_spec h2)).1 h3 hk

theorem half_use {n k : Nat} (hk : k + 1 < n) (hn : n < 12) (b : Bool) (e : Nat) (v : Nat → Int) :
    impl_sample fuelS (fadd .f32 (itof .f32 (k : Int)) (can .f32 1056964608)) b e (tab n (nums v)) some = some (fadd .f32 (nums v k) (fmul .f32 (can .f32 1056964608) (fsub .f32 (nums v (k + 1)) (nums v k)))) := by
  have h := all_range (all_range half_all hn) (show k < n - 1 by omega)
  simp only [half1, Bool.and_eq_true] at h
  obtain ⟨⟨⟨h0, h1⟩, h2⟩, h3⟩ := h
  have h3' := Nat.eq_of_beq_eq_true h3
  have := (sample_in fuelS _ b e n (nums v) k (by omega) (by omega) h0 h1 (isAt_spec h2)).2 (by rw [h3']; exact half_self) hk
  rw [h3'] at this
  exact this

theorem same_use {k : Nat} (hk : k < 12) : impl_corrected_1 fuelS (itof .f32 (k : Int)) (can .f32 0) (can .f32 1065353216) some = some (itof .f32 (k : Int)) ∧ impl_bent_1 fuelS (itof .f32 (k : Int)) (can .f32 0) (can .f32 1065353216) some = some (itof .f32 (k : Int)) ∧ fsub .f32 (itof .f32 (k : Int)) (can .f32 0) = itof .f32 (k : Int) := by
  have h := all_range same_all hk
  simp only [same1, Bool.and_eq_true] at h
  obtain ⟨⟨h1, h2⟩, h3⟩ := h
  obtain ⟨y, e1, g1⟩ := someN_spec h1
  obtain ⟨z, e2, g2⟩ := someN_spec h2
  rw [Nat.eq_of_beq_eq_true g1] at e1
  rw [Nat.eq_of_beq_eq_true g2] at e2
  exact ⟨e1, e2, Nat.eq_of_beq_eq_true h3⟩

theorem spot_all {n : Nat} (h1 : 2 ≤ n) (h2 : n ≤ 11) : spotAll n = true := by
  have : n = 2 ∨ n = 3 ∨ n = 4 ∨ n = 5 ∨ n = 6 ∨ n = 7 ∨ n = 8 ∨ n = 9 ∨ n = 10 ∨ n = 11 := by omega
  rcases this with rfl | rfl | rfl | rfl | rfl | rfl | rfl | rfl | rfl | rfl
  · exact spot_2
  · exact spot_3
  · exact spot_4
  · exact spot_5
  · exact spot_6
  · exact spot_7
  · exact spot_8
  · exact spot_9
  · exact spot_10
  · exact spot_11

theorem ev_all {r : Nat} (h : r < 10) (b : Bool) (e : Nat) (l : List Int) (b' : Bool) (e' : Nat) (l' : List Int) : evAll r b e l b' e' l' = true := by
  have : r = 0 ∨ r = 1 ∨ r = 2 ∨ r = 3 ∨ r = 4 ∨ r = 5 ∨ r = 6 ∨ r = 7 ∨ r = 8 ∨ r = 9 := by omega
  rcases this with rfl | rfl | rfl | rfl | rfl | rfl | rfl | rfl | rfl | rfl
  · exact evAll_0 ..
  · exact evAll_1 ..
  · exact evAll_2 ..
  · exact evAll_3 ..
  · exact evAll_4 ..
  · exact evAll_5 ..
  · exact evAll_6 ..
  · exact evAll_7 ..
  · exact evAll_8 ..
  · exact evAll_9 ..

theorem ev_use {r k p : Nat} (h : r < 10) (hk : k < r + 1) (hp : p < 12) (b : Bool) (e : Nat) (l : List Int) (b' : Bool) (e' : Nat) (l' : List Int) :
    evPart fuelS ((r + 2 : Nat) : Int) (k : Int) (placeW (p : Int)) b e l b' e' l' = some true :=
  yes_iff (all_range (all_range (ev_all h b e l b' e' l') hk) hp)

/-- Both lists at all places. -/
theorem both_ok {n p : Nat} (h1 : 2 ≤ n) (h2 : n ≤ 11) (hp : p < 12) (b : Bool) (e : Nat) (b' : Bool) (e' : Nat) (v : Nat → Int) (hv : ∀ i, (v i).natAbs ≤ 8) :
    ∃ a c : Nat → Nat, impl_CorrectTrace fuelS (placeW (p : Int)) (can .f32 1069547520) b e (tab n (nums v)) some = some (true, tab n a) ∧
      impl_CorrectTrace fuelS (placeW (p : Int)) (can .f32 1069547520) b e (tab n fun i => Q .f32 (2 * v i) 2) some = some (true, tab n c) ∧ ∀ i, i < n → fne .f32 (c i) (fmul .f32 (can .f32 1073741824) (a i)) = false := by
  have key : ∀ i : Nat, ∃ y y2 t, i < n → impl_corrected_1 fuelS (itof .f32 (i : Int)) (placeW (p : Int)) (can .f32 1069547520) some = some t ∧ impl_sample fuelS t b e (tab n (nums v)) some = some y ∧
      impl_sample fuelS t b e (tab n fun i => Q .f32 (2 * v i) 2) some = some y2 ∧ fne .f32 y2 (fmul .f32 (can .f32 1073741824) y) = false := by
    intro i
    by_cases hi : i < n
    · obtain ⟨t, ht, hs⟩ := someN_spec (all_range (all_range (spot_all h1 h2) hp) hi)
      obtain ⟨y, y2, g1, g2, g3⟩ := spot_use hs (by omega) (by omega) fuelS b e v hv
      exact ⟨y, y2, t, fun _ => ⟨ht, g1, g2, g3⟩⟩
    · exact ⟨0, 0, 0, fun h => absurd h hi⟩
  obtain ⟨f, hk⟩ : ∃ f : Nat → Nat × Nat × Nat, ∀ i, i < n → impl_corrected_1 fuelS (itof .f32 (i : Int)) (placeW (p : Int)) (can .f32 1069547520) some = some (f i).2.2 ∧ impl_sample fuelS (f i).2.2 b e (tab n (nums v)) some = some (f i).1 ∧
      impl_sample fuelS (f i).2.2 b e (tab n fun i => Q .f32 (2 * v i) 2) some = some (f i).2.1 ∧ fne .f32 (f i).2.1 (fmul .f32 (can .f32 1073741824) (f i).1) = false :=
    ⟨fun i => (Classical.choose (key i), Classical.choose (Classical.choose_spec (key i)), Classical.choose (Classical.choose_spec (Classical.choose_spec (key i)))), fun i => Classical.choose_spec (Classical.choose_spec (Classical.choose_spec (key i)))⟩
  have hf : impl_IsFinite fuelS (placeW (p : Int)) some = some true := yes_iff (all_range fin_p hp)
  refine ⟨fun i => (f i).1, fun i => (f i).2.1, ?_, ?_, fun i hi => (hk i hi).2.2.2⟩
  · exact correct_ok fuelS _ _ b e n (nums v) _ (by omega) (by omega) (by decide) hf pos_15 (fun i hi => ⟨_, (hk i hi).1, (hk i hi).2.1⟩)
  · exact correct_ok fuelS _ _ b e n _ _ (by omega) (by omega) (by decide) hf pos_15 (fun i hi => ⟨_, (hk i hi).1, (hk i hi).2.2.1⟩)

end Go.Proofs.Ytcddghcjllgbiaa

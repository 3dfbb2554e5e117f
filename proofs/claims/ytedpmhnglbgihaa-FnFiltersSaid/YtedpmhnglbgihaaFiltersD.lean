/-
  What is looked at number by number: waves and notches, tapers, gains.
-/
import Derived.Test.YtedpmhnglbgihaaFiltersC
namespace Go.Proofs.Ytedpmhnglbgihaa
open Go.Ev Go.Fl
set_option linter.unusedSimpArgs false
set_option linter.unusedVariables false

def fuelF : Nat := 2000

def lit (x : Nat) : Nat := x

/-! ### Waves -/

def turnW (t : Nat) : Nat := fdiv .f32 (itof .f32 t) (can .f32 1107296256)
def waveO (t k : Nat) : Option Nat := spec_SineTurns fuelF (fadd .f32 (fmul .f32 (itof .f32 k) (turnW t)) (can .f32 1040187392)) some
def waveTab : List (List Nat) := [[1060439283, 1060439283, 1060439283, 1060439283, 1060439283, 1060439283, 1060439283, 1060439283, 1060439283, 1060439283, 1060439283, 1060439283],
  [1060439283, 1062525745, 1064076126, 1065030846, 1065353216, 1065030846, 1064076126, 1062525745, 1060439283, 1057896922, 1053028117, 1044891074],
  [1060439283, 1064076126, 1065353216, 1064076126, 1060439283, 1053028117, 2147483648, 3200511765, 3207922931, 3211559774, 3212836864, 3211559774],
  [1060439283, 1065030846, 1064076126, 1057896922, 2147483648, 3205380570, 3211559774, 3212514494, 3207922931, 3192374722, 1053028117, 1062525745],
  [1060439283, 1065353216, 1060439283, 2147483648, 3207922931, 3212836864, 3207922931, 0, 1060439283, 1065353216, 1060439283, 2147483648],
  [1060439283, 1065030846, 1053028117, 3205380570, 3212836864, 3205380570, 1053028117, 1065030846, 1060439283, 3192374722, 3211559774, 3210009393],
  [1060439283, 1064076126, 2147483648, 3211559774, 3207922931, 1053028117, 1065353216, 1053028117, 3207922931, 3211559774, 0, 1064076126],
  [1060439283, 1062525745, 3200511765, 3212514494, 0, 1065030846, 1053028117, 3210009393, 3207922931, 1057896922, 1064076126, 3192374722],
  [1060439283, 1060439283, 3207922931, 3207922931, 1060439283, 1060439283, 3207922931, 3207922931, 1060439283, 1060439283, 3207922931, 3207922931],
  [1060439283, 1057896922, 3211559774, 3192374722, 1065353216, 3192374722, 3211559774, 1057896922, 1060439283, 3210009393, 3200511765, 1065030846],
  [1060439283, 1053028117, 3212836864, 1053028117, 1060439283, 3211559774, 0, 1064076126, 3207922931, 3200511765, 1065353216, 3200511765],
  [1060439283, 1044891074, 3211559774, 1062525745, 2147483648, 3210009393, 1064076126, 3192374722, 3207922931, 1065030846, 3200511765, 3205380570],
  [1060439283, 2147483648, 3207922931, 1065353216, 3207922931, 0, 1060439283, 3212836864, 1060439283, 2147483648, 3207922931, 1065353216],
  [1060439283, 3192374722, 3200511765, 1062525745, 3212836864, 1062525745, 3200511765, 3192374722, 1060439283, 3212514494, 1064076126, 3205380570],
  [1060439283, 3200511765, 0, 1053028117, 3207922931, 1064076126, 3212836864, 1064076126, 3207922931, 1053028117, 2147483648, 3200511765],
  [1060439283, 3205380570, 1053028117, 3192374722, 0, 1044891074, 3200511765, 1057896922, 3207922931, 1062525745, 3211559774, 1065030846],
  [1060439283, 3207922931, 1060439283, 3207922931, 1060439283, 3207922931, 1060439283, 3207922931, 1060439283, 3207922931, 1060439283, 3207922931]]

def sineTab : List Nat := [1065353216, 1065030846, 1064076126, 1062525745, 1060439283, 1057896922, 1053028117, 1044891074, 2147483648, 3192374722, 3200511765, 3205380570, 3207922931, 3210009393, 3211559774, 3212514494, 3212836864]

def waveW (t k : Nat) : Nat := ((waveTab[t]?.getD [])[k]?).getD 0
def sineO (t : Nat) : Option Nat := impl_SineTurns fuelF (fadd .f32 (turnW t) (can .f32 1048576000)) some
def sineW (t : Nat) : Nat := (sineTab[t]?).getD 0
def coefW (t : Nat) : Nat := fmul .f32 (can .f32 1073741824) (sineW t)
def notchW (t k : Nat) : Nat := fadd .f32 (fsub .f32 (waveW t k) (fmul .f32 (coefW t) (if 1 ≤ k then waveW t (k - 1) else 0))) (if 2 ≤ k then waveW t (k - 2) else 0)
def stillO (t k : Nat) : Bool := match fconv .f32 (notchW t k) .f64 with
  | some z => match laws_b10Gap fuelF z (can .f64 0) some with
    | some g => !(fgt .f64 g (can .f64 4562254508917369340))
    | none => false
  | none => false
def waveOk (t k : Nat) : Bool := Nat.blt k 2 || stillO t k
def turnOk (t : Nat) : Bool := (sineO t == some (sineW t)) && (match impl_IsFinite fuelF (turnW t) some with | some b => b | none => false)

theorem wave_row_0 : ∀ k : _root_.Fin 12, (waveO 0 k == some (waveW 0 k)) = true := by decide +kernel
theorem wave_row_1 : ∀ k : _root_.Fin 12, (waveO 1 k == some (waveW 1 k)) = true := by decide +kernel
theorem wave_row_2 : ∀ k : _root_.Fin 12, (waveO 2 k == some (waveW 2 k)) = true := by decide +kernel
theorem wave_row_3 : ∀ k : _root_.Fin 12, (waveO 3 k == some (waveW 3 k)) = true := by decide +kernel
theorem wave_row_4 : ∀ k : _root_.Fin 12, (waveO 4 k == some (waveW 4 k)) = true := by decide +kernel
theorem wave_row_5 : ∀ k : _root_.Fin 12, (waveO 5 k == some (waveW 5 k)) = true := by decide +kernel
theorem wave_row_6 : ∀ k : _root_.Fin 12, (waveO 6 k == some (waveW 6 k)) = true := by decide +kernel
theorem wave_row_7 : ∀ k : _root_.Fin 12, (waveO 7 k == some (waveW 7 k)) = true := by decide +kernel
theorem wave_row_8 : ∀ k : _root_.Fin 12, (waveO 8 k == some (waveW 8 k)) = true := by decide +kernel
theorem wave_row_9 : ∀ k : _root_.Fin 12, (waveO 9 k == some (waveW 9 k)) = true := by decide +kernel
theorem wave_row_10 : ∀ k : _root_.Fin 12, (waveO 10 k == some (waveW 10 k)) = true := by decide +kernel
theorem wave_row_11 : ∀ k : _root_.Fin 12, (waveO 11 k == some (waveW 11 k)) = true := by decide +kernel
theorem wave_row_12 : ∀ k : _root_.Fin 12, (waveO 12 k == some (waveW 12 k)) = true := by decide +kernel
theorem wave_row_13 : ∀ k : _root_.Fin 12, (waveO 13 k == some (waveW 13 k)) = true := by decide +kernel
theorem wave_row_14 : ∀ k : _root_.Fin 12, (waveO 14 k == some (waveW 14 k)) = true := by decide +kernel
theorem wave_row_15 : ∀ k : _root_.Fin 12, (waveO 15 k == some (waveW 15 k)) = true := by decide +kernel
theorem wave_row_16 : ∀ k : _root_.Fin 12, (waveO 16 k == some (waveW 16 k)) = true := by decide +kernel

theorem wave_row : ∀ (t : Nat) (ht : t < 17) (k : Nat) (hk : k < 12), waveO t k = some (waveW t k)
  | 0, _, k, hk => by simpa using wave_row_0 ⟨k, hk⟩
  | 1, _, k, hk => by simpa using wave_row_1 ⟨k, hk⟩
  | 2, _, k, hk => by simpa using wave_row_2 ⟨k, hk⟩
  | 3, _, k, hk => by simpa using wave_row_3 ⟨k, hk⟩
  | 4, _, k, hk => by simpa using wave_row_4 ⟨k, hk⟩
  | 5, _, k, hk => by simpa using wave_row_5 ⟨k, hk⟩
  | 6, _, k, hk => by simpa using wave_row_6 ⟨k, hk⟩
  | 7, _, k, hk => by simpa using wave_row_7 ⟨k, hk⟩
  | 8, _, k, hk => by simpa using wave_row_8 ⟨k, hk⟩
  | 9, _, k, hk => by simpa using wave_row_9 ⟨k, hk⟩
  | 10, _, k, hk => by simpa using wave_row_10 ⟨k, hk⟩
  | 11, _, k, hk => by simpa using wave_row_11 ⟨k, hk⟩
  | 12, _, k, hk => by simpa using wave_row_12 ⟨k, hk⟩
  | 13, _, k, hk => by simpa using wave_row_13 ⟨k, hk⟩
  | 14, _, k, hk => by simpa using wave_row_14 ⟨k, hk⟩
  | 15, _, k, hk => by simpa using wave_row_15 ⟨k, hk⟩
  | 16, _, k, hk => by simpa using wave_row_16 ⟨k, hk⟩
  | n + 17, ht, _, _ => by omega

theorem waves_fine : ∀ t : _root_.Fin 17, ∀ k : _root_.Fin 12, waveOk t k = true := by decide +kernel
theorem turns_fine : ∀ t : _root_.Fin 17, turnOk t = true := by decide +kernel

theorem some_of {α : Type} {x : Option α} {d : α} (h : x.isSome = true) : x = some (x.getD d) := by
  cases x with
  | none => cases h
  | some a => rfl

section
variable {ρ : Type}

theorem wave_loop {t n : Nat} (ht : t < 17) (hn : n ≤ 12) (b c : Bool) (e d : Nat) (l m : List Int) (L : List Nat) (k0 : Int → List Nat → Option ρ) :
    laws_FnFilters_16 fuelF n (turnW t) b e l c d m L fuelF 0 [] k0 = k0 n (tab n (waveW t)) := by
  refine appLoop n (waveW t) (fun m' i out => laws_FnFilters_16 fuelF n (turnW t) b e l c d m L m' i out k0) (fun out => k0 n out) ?_ ?_ fuelF (by unfold fuelF; omega)
  · intro m' i hi
    have h1 : (i : Int) < (n : Int) := by omega
    have hs : spec_SineTurns fuelF (fadd .f32 (fmul .f32 (itof .f32 (i : Int)) (turnW t)) (can .f32 1040187392)) some = some (waveW t i) := wave_row t ht i (by omega)
    conv => lhs; unfold laws_FnFilters_16
    rw [wrap_i64 (show -9223372036854775808 ≤ (i : Int) + 1 by omega) (by omega)]
    simp only [decide_eq_true h1, cond_true, hs, Option.bind_some, tab_length]
    rw [room_ok (by have : Nat.add i 0 = i := rfl; omega) (by have : Nat.add i 0 = i := rfl; omega)]
    rfl
  · intro m'
    have h1 : ¬ (n : Int) < (n : Int) := by omega
    conv => lhs; unfold laws_FnFilters_16
    rw [decide_eq_false h1, cond_false]

theorem notch_ok {t n : Nat} (ht : t < 17) (hn0 : 3 ≤ n) (hn : n ≤ 12) (b : Bool) (e : Nat) :
    impl_NotchTrace fuelF (turnW t) b e (tab n (waveW t)) some = some (true, tab n (notchW t)) := by
  have hw := turns_fine ⟨t, ht⟩
  unfold turnOk at hw
  rw [Bool.and_eq_true] at hw
  have hs : impl_SineTurns fuelF (fadd .f32 (turnW t) (can .f32 1048576000)) some = some (sineW t) := by
    have h : sineO t = some (sineW t) := by simpa using hw.1
    exact h
  have hf : impl_IsFinite fuelF (turnW t) some = some true := by
    have h2 := hw.2
    revert h2
    generalize impl_IsFinite fuelF (turnW (⟨t, ht⟩ : _root_.Fin 17).val) some = o
    cases o with
    | none => intro h; cases h
    | some b => intro h; rw [show b = true from h]
  unfold impl_NotchTrace
  rw [isTrace_ok fuelF b e (by rw [tab_length]; omega) (by rw [tab_length]; omega)]
  simp only [Option.bind_some, Bool.not_true, cond_false, hf]
  unfold impl_NotchTrace_c3
  simp only [hs, Option.bind_some, tab_length]
  refine appLoop n (notchW t) (fun m' i out => impl_NotchTrace_6 fuelF (coefW t) n b e (tab n (waveW t)) m' i out fun _ e29 => some (true, e29)) (fun out => some (true, out)) ?_ ?_ fuelF (by unfold fuelF; omega)
  · intro m' i hi
    have h1 : (i : Int) < (n : Int) := by omega
    have a1 : atT n (waveW t) ((i : Int) - 1) = if 1 ≤ i then waveW t (i - 1) else 0 := by
      unfold atT
      by_cases g : 1 ≤ i
      · rw [if_pos g, if_pos (by omega)]; congr 1; omega
      · rw [if_neg g, if_neg (by omega)]
    have a2 : atT n (waveW t) ((i : Int) - 2) = if 2 ≤ i then waveW t (i - 2) else 0 := by
      unfold atT
      by_cases g : 2 ≤ i
      · rw [if_pos g, if_pos (by omega)]; congr 1; omega
      · rw [if_neg g, if_neg (by omega)]
    conv => lhs; unfold impl_NotchTrace_6
    rw [wrap_i64 (show -9223372036854775808 ≤ (i : Int) + 1 by omega) (by omega), wrap_i64 (show -9223372036854775808 ≤ (i : Int) - 1 by omega) (by omega), wrap_i64 (show -9223372036854775808 ≤ (i : Int) - 2 by omega) (by omega)]
    simp only [decide_eq_true h1, cond_true, tab_length, idx_ok hi, Option.bind_some, tab_get hi, at_tab fuelF (show n ≤ 1000 by omega) (show -1000 ≤ (i : Int) - 1 by omega) (show (i : Int) - 1 ≤ 2000 by omega), at_tab fuelF (show n ≤ 1000 by omega) (show -1000 ≤ (i : Int) - 2 by omega) (show (i : Int) - 2 ≤ 2000 by omega), a1, a2]
    rw [room_ok (by have : Nat.add i 0 = i := rfl; omega) (by have : Nat.add i 0 = i := rfl; omega)]
    rfl
  · intro m'
    have h1 : ¬ (n : Int) < (n : Int) := by omega
    conv => lhs; unfold impl_NotchTrace_6
    rw [decide_eq_false h1, cond_false]

theorem still_loop {t n : Nat} (ht : t < 17) (hn0 : 3 ≤ n) (hn : n ≤ 12) (n50 : Int) (b c : Bool) (e d : Nat) (l m : List Int) (L : List Nat) (k0 k1 : Int → Option ρ) :
    laws_FnFilters_23 fuelF n50 b e l c d m L (tab n (notchW t)) fuelF 2 k0 k1 = k1 n := by
  refine allLoop n (fun m' i => laws_FnFilters_23 fuelF n50 b e l c d m L (tab n (notchW t)) m' i k0 k1) (k1 n) 2 ?_ ?_ fuelF 2 (by omega) (by omega) (by unfold fuelF; omega)
  · intro m' i h2 hi
    have h1 : (i : Int) < (n : Int) := by omega
    have hw := waves_fine ⟨t, ht⟩ ⟨i, by omega⟩
    unfold waveOk at hw
    rw [Bool.or_eq_true] at hw
    have hst : stillO t i = true := by
      rcases hw with g | g
      · simp at g; omega
      · exact g
    unfold stillO at hst
    conv => lhs; unfold laws_FnFilters_23
    rw [wrap_i64 (show -9223372036854775808 ≤ (i : Int) + 1 by omega) (by omega)]
    simp only [tab_length, decide_eq_true h1, cond_true, idx_ok hi, Option.bind_some, tab_get hi]
    cases hz : fconv .f32 (notchW t i) .f64 with
    | none => rw [hz] at hst; cases hst
    | some z =>
      rw [hz] at hst
      simp only [Option.bind_some] at hst ⊢
      cases hg : laws_b10Gap fuelF z (can .f64 0) some with
      | none => rw [hg] at hst; cases hst
      | some g =>
        rw [hg] at hst
        simp only [Option.bind_some] at hst ⊢
        have : fgt .f64 g (can .f64 4562254508917369340) = false := by simpa using hst
        rw [this, cond_false]
        rfl
  · intro m'
    have h1 : ¬ (n : Int) < (n : Int) := by omega
    conv => lhs; unfold laws_FnFilters_23
    rw [tab_length, decide_eq_false h1, cond_false]

end
end Go.Proofs.Ytedpmhnglbgihaa

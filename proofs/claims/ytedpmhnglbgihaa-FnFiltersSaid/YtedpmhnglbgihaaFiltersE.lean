/-
  Muting and tapers.
-/
import Derived.Test.YtedpmhnglbgihaaFiltersD
namespace Go.Proofs.Ytedpmhnglbgihaa
open Go.Ev Go.Fl
set_option linter.unusedSimpArgs false
set_option linter.unusedVariables false

section
variable {ρ : Type}

/-! ### Muting -/

theorem mute_ok {n p r : Nat} (hn0 : 1 ≤ n) (hn : n ≤ 128) (hr : p + r ≤ n) (f : Nat → Nat) (b : Bool) (e : Nat) :
    impl_MuteTrace fuelF p ((p + r : Nat) : Int) b e (tab n f) some = some (true, tab n fun i => if p ≤ i ∧ i < p + r then 0 else f i) := by
  unfold impl_MuteTrace impl_length_float32
  rw [isTrace_ok fuelF b e (by rw [tab_length]; omega) (by rw [tab_length]; omega)]
  simp only [Option.bind_some, Bool.not_true, cond_false, tab_length, within_ok fuelF (show (0 : Int) ≤ ((p + r : Nat) : Int) by omega) (show ((p + r : Nat) : Int) ≤ (n : Int) by omega), within_ok fuelF (show (0 : Int) ≤ (p : Int) by omega) (show (p : Int) ≤ ((p + r : Nat) : Int) by omega)]
  unfold impl_MuteTrace_c3
  rw [clone_ok fuelF b e (by rw [tab_length]; omega) (by rw [tab_length]; omega)]
  simp only [Option.bind_some, tab_length, upto_ok hr, upto_ok (show p ≤ p + r by omega)]
  have hb : (true && Nat.ble (p + (p + r - p)) n) = true := by simp [Nat.ble_eq]; omega
  rw [hb, cond_true]
  congr 2
  rw [show p + r - p = r from by omega]
  show (List.take p (tab n f) ++ List.replicate r 0) ++ List.drop (p + (List.replicate r 0).length) (tab n f) = _
  apply List.ext_getElem?
  intro i
  by_cases hi : i < n
  · rw [tab_get hi]
    by_cases h1 : i < p
    · rw [List.getElem?_append_left (by simp [tab_length]; omega), List.getElem?_append_left (by simp [tab_length]; omega), List.getElem?_take_of_lt h1, tab_get hi, if_neg (by omega)]
    · by_cases h2 : i < p + r
      · rw [List.getElem?_append_left (by simp [tab_length]; omega), List.getElem?_append_right (by simp [tab_length]; omega), if_pos ⟨by omega, h2⟩, List.getElem?_replicate, if_pos (by simp [tab_length]; omega)]
      · rw [List.getElem?_append_right (by simp [tab_length]; omega), List.getElem?_drop, if_neg (by omega)]
        have : p + (List.replicate r 0).length + (i - (List.take p (tab n f) ++ List.replicate r 0).length) = i := by simp [tab_length]; omega
        rw [this, tab_get hi]
  · rw [List.getElem?_eq_none (by simp [tab_length]; omega), List.getElem?_eq_none (by rw [tab_length]; omega)]

/-! ### Tapers -/

def taperW (x k c : Nat) : Nat := fdiv .f32 (fmul .f32 x (itof .f32 ((k + 1 : Nat) : Int))) (itof .f32 ((c + 1 : Nat) : Int))
def taperF (n c : Nat) (f : Nat → Nat) (j : Nat) : Nat := if j < c then taperW (f j) j c else if n ≤ j + c then taperW (f j) (n - 1 - j) c else f j

set_option maxRecDepth 100000 in
theorem taper_ok {n c : Nat} (hn0 : 1 ≤ n) (hn : n ≤ 128) (hc : 2 * c ≤ n) (f : Nat → Nat) (b : Bool) (e : Nat) :
    impl_TaperTrace fuelF c b e (tab n f) some = some (true, tab n (taperF n c f)) := by
  unfold impl_TaperTrace impl_length_float32
  have hd : IntKind.wrap .i64 (Int.tdiv (n : Int) 2) = ((n / 2 : Nat) : Int) := by
    rw [show Int.tdiv (n : Int) 2 = ((n / 2 : Nat) : Int) from rfl]; exact wrap_i64 (by omega) (by omega)
  rw [isTrace_ok fuelF b e (by rw [tab_length]; omega) (by rw [tab_length]; omega)]
  simp only [Option.bind_some, Bool.not_true, cond_false, tab_length, nonzero_ok (show (2 : Int) ≠ 0 by decide), hd, within_ok fuelF (show (0 : Int) ≤ (c : Int) by omega) (show (c : Int) ≤ ((n / 2 : Nat) : Int) by omega)]
  unfold impl_TaperTrace_c3
  rw [clone_ok fuelF b e (by rw [tab_length]; omega) (by rw [tab_length]; omega)]
  simp only [Option.bind_some]
  let st : Nat → Nat → Nat := fun i j => if j < i then taperW (f j) j c else if n ≤ j + i then taperW (f j) (n - 1 - j) c else f j
  have key : ∀ (d i m : Nat), i + d = c → d < m → impl_TaperTrace_5 fuelF c c b e (tab n f) m i (tab n (st i)) (fun _ e57 => some (true, e57)) = some (true, tab n (taperF n c f)) := by
    intro d
    induction d with
    | zero =>
      intro i m hi hm
      obtain ⟨m, rfl⟩ : ∃ g, m = g + 1 := ⟨m - 1, by omega⟩
      have : i = c := by omega
      subst this
      have h1 : ¬ (i : Int) < (i : Int) := by omega
      conv => lhs; unfold impl_TaperTrace_5
      rw [decide_eq_false h1, cond_false]
      rfl
    | succ d ih =>
      intro i m hi hm
      obtain ⟨m, rfl⟩ : ∃ g, m = g + 1 := ⟨m - 1, by omega⟩
      have h1 : (i : Int) < (c : Int) := by omega
      conv => lhs; unfold impl_TaperTrace_5
      unfold impl_length_float32
      rw [wrap_i64 (show -9223372036854775808 ≤ (i : Int) + 1 by omega) (by omega)]
      simp only [decide_eq_true h1, cond_true, Option.bind_some, tab_length]
      rw [wrap_i64 (show -9223372036854775808 ≤ (n : Int) - 1 by omega) (by omega), wrap_i64 (show -9223372036854775808 ≤ (n : Int) - 1 - (i : Int) by omega) (by omega), show (n : Int) - 1 - (i : Int) = ((n - 1 - i : Nat) : Int) from by omega]
      have e1 : st i i = f i := by simp only [st]; rw [if_neg (by omega), if_neg (by omega)]
      have e2 : st i (n - 1 - i) = f (n - 1 - i) := by simp only [st]; rw [if_neg (by omega), if_neg (by omega)]
      have i1 : IntKind.wrap .i64 ((i : Int) + 1) = ((i + 1 : Nat) : Int) := by rw [wrap_i64 (by omega) (by omega)]; omega
      have i2 : IntKind.wrap .i64 ((c : Int) + 1) = ((c + 1 : Nat) : Int) := by rw [wrap_i64 (by omega) (by omega)]; omega
      have hfu : fuelF = 1997 + 1 + 1 + 1 := rfl
      have inner : ∀ (m3 : Nat) (k0 : Int → List Nat → Option (Bool × List Nat)), impl_TaperTrace_8 fuelF c i c i ((2 : Nat) : Int) b e (tab n f) [(i : Int), ((n - 1 - i : Nat) : Int)] (m3 + 1 + 1 + 1) 0 (tab n (st i)) k0 = k0 2 (tab n (st (i + 1))) := by
        intro m3 k0
        unfold impl_TaperTrace_8
        rw [decide_eq_true (show (0 : Int) < ((2 : Nat) : Int) by decide), cond_true, show idx (0 : Int) [(i : Int), ((n - 1 - i : Nat) : Int)].length = some 0 from rfl]
        simp only [Option.bind_some, List.getElem?_cons_zero, tab_length, idx_ok (show i < n by omega), tab_get (show i < n by omega), i1, i2, e1, show IntKind.wrap .i64 ((0 : Int) + 1) = 1 from by rw [wrap_i64 (by decide) (by decide)]; rfl]
        unfold impl_TaperTrace_8
        rw [decide_eq_true (show (1 : Int) < ((2 : Nat) : Int) by decide), cond_true, show idx (1 : Int) [(i : Int), ((n - 1 - i : Nat) : Int)].length = some 1 from rfl]
        have hg : ((tab n (st i)).set i (fdiv .f32 (fmul .f32 (f i) (itof .f32 ((i + 1 : Nat) : Int))) (itof .f32 ((c + 1 : Nat) : Int))))[n - 1 - i]? = some (f (n - 1 - i)) := by
          rw [tab_set, tab_get (by omega), if_neg (by omega), e2]
        simp only [Option.bind_some, List.getElem?_cons_succ, List.getElem?_cons_zero, List.length_set, tab_length, idx_ok (show n - 1 - i < n by omega), hg, i1, i2, show IntKind.wrap .i64 ((1 : Int) + 1) = 2 from by rw [wrap_i64 (by decide) (by decide)]; rfl]
        unfold impl_TaperTrace_8
        rw [decide_eq_false (show ¬ (2 : Int) < ((2 : Nat) : Int) by decide), cond_false]
        congr 1
        rw [tab_set, tab_set]
        apply tab_congr
        intro j hj
        by_cases g1 : j = n - 1 - i
        · subst g1
          rw [if_pos rfl]
          simp only [st]
          rw [if_neg (by omega), if_pos (by omega), show n - 1 - (n - 1 - i) = i from by omega]
          rfl
        · rw [if_neg g1]
          by_cases g2 : j = i
          · subst g2
            rw [if_pos rfl]
            simp only [st]
            rw [if_pos (by omega)]
            rfl
          · rw [if_neg g2]
            simp only [st]
            by_cases g3 : j < i
            · rw [if_pos g3, if_pos (show j < i + 1 by omega)]
            · rw [if_neg g3, if_neg (show ¬ j < i + 1 by omega)]
              by_cases g4 : n ≤ j + i
              · rw [if_pos g4, if_pos (show n ≤ j + (i + 1) by omega)]
              · rw [if_neg g4, if_neg (show ¬ n ≤ j + (i + 1) by omega)]
      have inner' : ∀ (k0 : Int → List Nat → Option (Bool × List Nat)), impl_TaperTrace_8 fuelF c i c i ((2 : Nat) : Int) b e (tab n f) [(i : Int), ((n - 1 - i : Nat) : Int)] fuelF 0 (tab n (st i)) k0 = k0 2 (tab n (st (i + 1))) := fun k0 =>
        (congrArg (fun z => impl_TaperTrace_8 fuelF c i c i ((2 : Nat) : Int) b e (tab n f) [(i : Int), ((n - 1 - i : Nat) : Int)] z 0 (tab n (st i)) k0) hfu).trans (inner 1997 k0)
      rw [inner']
      exact ih (i + 1) m (by omega) (by omega)
  have h0 : tab n f = tab n (st 0) := by
    apply tab_congr; intro j hj; simp only [st]; rw [if_neg (by omega), if_neg (by omega)]
  have := key c 0 fuelF (by omega) (by unfold fuelF; omega)
  rw [← h0] at this
  exact this

def quarterW (v : Nat) : Nat := Q .f32 ((v : Int) - 8) 2
def most1 (x : Nat) : Option Nat := (fconv .f32 x .f64).map fun z => fmax .f64 (fmax .f64 (can .f64 0) z) (fneg .f64 z)
def noMore (x y : Nat) : Bool := match most1 x, most1 y with
  | some a, some b => !(fgt .f64 a b)
  | _, _ => false

theorem tapers_fine : ∀ v : _root_.Fin 17, ∀ k : _root_.Fin 6, ∀ c : _root_.Fin 7, (noMore (taperW (quarterW v) k c) (quarterW v)) = true ∨ (c : Nat) ≤ (k : Nat) := by decide +kernel
theorem same_fine : ∀ v : _root_.Fin 17, (noMore (quarterW v) (quarterW v)) = true := by decide +kernel

end
end Go.Proofs.Ytedpmhnglbgihaa

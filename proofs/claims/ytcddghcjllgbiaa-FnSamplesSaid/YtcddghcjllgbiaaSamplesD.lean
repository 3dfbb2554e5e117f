/-
  What is seen at finitely many places.
-/
import Derived.Test.YtcddghcjllgbiaaSamplesC
import Derived.Test.YtcddghcjllgbiaaSamplesE
set_option maxRecDepth 100000
set_option exponentiation.threshold 600
namespace Go.Proofs.Ytcddghcjllgbiaa
open Go.Ev Go.Fl Ieee
set_option linter.unusedSimpArgs false
set_option linter.unusedVariables false

/-- A part of a way that is not too small. -/
def okf (f : Nat) : Bool :=
  match single.read f with
  | .number false m e => Nat.ble (2 ^ 25) (m <<< (e - single.leastPlace).toNat) && Nat.ble (m <<< (e - single.leastPlace).toNat) (2 ^ 149)
  | _ => false

theorem okf_spec {f : Nat} (h : okf f = true) : Fin single f ∧ Pos single f ∧ 2 ^ 25 ≤ V single f ∧ V single f ≤ 2 ^ 149 := by
  unfold okf at h
  split at h
  · rename_i m e hr
    simp only [Bool.and_eq_true, Nat.ble_eq] at h
    obtain ⟨h1, h2⟩ := h
    refine ⟨⟨_, _, _, hr⟩, ?_, ?_⟩
    · show (single.read f).neg = false
      rw [hr]; rfl
    · rw [V_of hr]
      have : signed false m (e - single.leastPlace).toNat = ((m <<< (e - single.leastPlace).toNat : Nat) : Int) := by unfold signed; simp
      rw [this]
      omega
  · cases h

def isAt (x j : Nat) : Bool :=
  match posOf x with
  | some (.ofNat i) => Nat.beq i j
  | _ => false

theorem isAt_spec {x j : Nat} (h : isAt x j = true) : posOf x = some (j : Int) := by
  unfold isAt at h
  split at h
  · rename_i i hp
    rw [hp, Nat.eq_of_beq_eq_true h]; rfl
  · cases h

/-- A place in a list of n numbers, or beyond. -/
def spot (n x : Nat) : Bool :=
  fge .f32 x (can .f32 0) && (bif fle .f32 x (itof .f32 ((n - 1 : Nat) : Int)) then
    (match posOf x with
      | some (.ofNat j) => (bif feq .f32 (fsub .f32 x (itof .f32 (j : Int))) (can .f32 0) then Nat.blt j n else Nat.blt (j + 1) n && okf (fsub .f32 x (itof .f32 (j : Int))))
      | _ => false) else true)

theorem two_Q : can .f32 1073741824 = Q .f32 2 0 := by decide +kernel
theorem half_Q : can .f32 1056964608 = Q .f32 1 1 := by decide +kernel

theorem ne_self {z : Int} (hz : z.natAbs ≤ 1000) {s : Nat} (hs : s ≤ 149) : fne .f32 (Q .f32 z s) (Q .f32 z s) = false := by
  have ht : top .f32 = 16777216 := rfl
  rw [ne_Q (by rw [ht]; omega) (by rw [ht]; omega) hs]; simp

theorem twice_Q {z : Int} (hz : z.natAbs ≤ 1000) : fmul .f32 (can .f32 1073741824) (Q .f32 z 2) = Q .f32 (2 * z) 2 := by
  have ht : top .f32 = 16777216 := rfl
  rw [two_Q, mul_Q (by rw [ht]; decide) (by rw [ht]; omega) (by decide) (by decide) (by
    by_cases q : 0 ≤ z
    · exact .inl ⟨fun _ => q, fun _ => by decide⟩
    · exact .inr (by omega))]

theorem spot_use {n x : Nat} (h : spot n x = true) (hn : 0 < n) (hn2 : n ≤ 20) (φ : Nat) (b : Bool) (e : Nat) (v : Nat → Int) (hv : ∀ i, (v i).natAbs ≤ 8) :
    ∃ y y2, impl_sample φ x b e (tab n fun i => Q .f32 (v i) 2) some = some y ∧ impl_sample φ x b e (tab n fun i => Q .f32 (2 * v i) 2) some = some y2 ∧ fne .f32 y2 (fmul .f32 (can .f32 1073741824) y) = false := by
  have ht : top .f32 = 16777216 := rfl
  unfold spot at h
  rw [Bool.and_eq_true] at h
  obtain ⟨h0, h⟩ := h
  cases h1 : fle .f32 x (itof .f32 ((n - 1 : Nat) : Int)) with
  | false =>
    exact ⟨_, _, sample_out φ x b e n _ hn (by omega) h0 h1, sample_out φ x b e n _ hn (by omega) h0 h1, by decide +kernel⟩
  | true =>
    rw [h1, cond_true] at h
    split at h
    · rename_i j hp
      have hp' : posOf x = some ((j : Nat) : Int) := hp
      obtain ⟨a1, a2⟩ := sample_in φ x b e n (fun i => Q .f32 (v i) 2) j hn (by omega) h0 h1 hp'
      obtain ⟨b1, b2⟩ := sample_in φ x b e n (fun i => Q .f32 (2 * v i) 2) j hn (by omega) h0 h1 hp'
      have hj := hv j
      have hj1 := hv (j + 1)
      cases hz : feq .f32 (fsub .f32 x (itof .f32 (j : Int))) (can .f32 0) with
      | true =>
        rw [hz, cond_true, Nat.blt_eq] at h
        refine ⟨_, _, a1 hz h, b1 hz h, ?_⟩
        rw [twice_Q (by omega)]
        exact ne_self (by omega) (by decide)
      | false =>
        rw [hz, cond_false, Bool.and_eq_true, Nat.blt_eq] at h
        obtain ⟨h2, h3⟩ := h
        obtain ⟨f1, f2, f3, f4⟩ := okf_spec h3
        refine ⟨_, _, a2 hz h2, b2 hz h2, ?_⟩
        rw [sub_Q (by rw [ht]; omega) (by rw [ht]; omega) (by decide), sub_Q (by rw [ht]; omega) (by rw [ht]; omega) (by decide), ← Int.mul_sub, two_Q]
        exact between_twice f1 f2 f3 f4 hj (by omega)
    · cases h

/-! ### All places -/

noncomputable def whole1 (n k : Nat) : Bool :=
  fge .f32 (itof .f32 (k : Int)) (can .f32 0) && fle .f32 (itof .f32 (k : Int)) (itof .f32 ((n - 1 : Nat) : Int)) && isAt (itof .f32 (k : Int)) k && feq .f32 (fsub .f32 (itof .f32 (k : Int)) (itof .f32 (k : Int))) (can .f32 0)
noncomputable def half1 (n k : Nat) : Bool :=
  fge .f32 (fadd .f32 (itof .f32 (k : Int)) (can .f32 1056964608)) (can .f32 0) && fle .f32 (fadd .f32 (itof .f32 (k : Int)) (can .f32 1056964608)) (itof .f32 ((n - 1 : Nat) : Int)) && isAt (fadd .f32 (itof .f32 (k : Int)) (can .f32 1056964608)) k &&
  Nat.beq (fsub .f32 (fadd .f32 (itof .f32 (k : Int)) (can .f32 1056964608)) (itof .f32 (k : Int))) (can .f32 1056964608)

noncomputable def someN (x : Option Nat) (p : Nat → Bool) : Bool := match x with
  | some y => p y
  | none => false

theorem someN_spec {x : Option Nat} {p : Nat → Bool} (h : someN x p = true) : ∃ y, x = some y ∧ p y = true := by
  unfold someN at h
  split at h
  · exact ⟨_, rfl, h⟩
  · cases h

noncomputable def same1 (k : Nat) : Bool :=
  someN (impl_corrected_1 fuelS (itof .f32 (k : Int)) (can .f32 0) (can .f32 1065353216) some) (Nat.beq · (itof .f32 (k : Int))) && someN (impl_bent_1 fuelS (itof .f32 (k : Int)) (can .f32 0) (can .f32 1065353216) some) (Nat.beq · (itof .f32 (k : Int))) && Nat.beq (fsub .f32 (itof .f32 (k : Int)) (can .f32 0)) (itof .f32 (k : Int))

theorem whole_all : ((List.range 12).all fun n => (List.range n).all fun k => whole1 n k) = true := by kernel_rfl
theorem half_all : ((List.range 12).all fun n => (List.range (n - 1)).all fun k => half1 n k) = true := by kernel_rfl
theorem same_all : ((List.range 12).all fun k => same1 k) = true := by kernel_rfl
theorem half_self : feq .f32 (can .f32 1056964608) (can .f32 0) = false := by decide +kernel

noncomputable def spotAll (n : Nat) : Bool := (List.range 12).all fun p => (List.range n).all fun k => someN (impl_corrected_1 fuelS (itof .f32 (k : Int)) (placeW (p : Int)) (can .f32 1069547520) some) (spot n)
theorem spot_2 : spotAll 2 = true := by kernel_rfl
theorem spot_3 : spotAll 3 = true := by kernel_rfl
theorem spot_4 : spotAll 4 = true := by kernel_rfl
theorem spot_5 : spotAll 5 = true := by kernel_rfl
theorem spot_6 : spotAll 6 = true := by kernel_rfl
theorem spot_7 : spotAll 7 = true := by kernel_rfl
theorem spot_8 : spotAll 8 = true := by kernel_rfl
theorem spot_9 : spotAll 9 = true := by kernel_rfl
theorem spot_10 : spotAll 10 = true := by kernel_rfl
theorem spot_11 : spotAll 11 = true := by kernel_rfl

theorem fin_0 : impl_IsFinite fuelS (can .f32 0) some = some true := by kernel_rfl
theorem pos_1 : impl_arePositive fuelS Bool.true 27 [(can .f32 1065353216)] some = some true := by kernel_rfl
theorem pos_15 : impl_arePositive fuelS Bool.true 27 [(can .f32 1069547520)] some = some true := by kernel_rfl
theorem fin_p : ((List.range 12).all fun p => yes (impl_IsFinite fuelS (placeW (p : Int)) some)) = true := by kernel_rfl

end Go.Proofs.Ytcddghcjllgbiaa

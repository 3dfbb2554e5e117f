/-
  Gains.
-/
import Derived.Test.YtedpmhnglbgihaaFiltersE
namespace Go.Proofs.Ytedpmhnglbgihaa
open Go.Ev Go.Fl
set_option linter.unusedSimpArgs false
set_option linter.unusedVariables false

def rootO (E c : Nat) : Option Nat := impl_RootNumber fuelF (fdiv .f32 (Q .f32 (E : Int) 4) (itof .f32 (c : Int))) some

theorem root_row_0 : ∀ e : _root_.Fin 8, ∀ c : _root_.Fin 7, ((Nat.blt (64 * (c + 1)) (0 + e)) || (rootO (0 + e) (c + 1)).isSome) = true := by decide +kernel
theorem root_row_1 : ∀ e : _root_.Fin 8, ∀ c : _root_.Fin 7, ((Nat.blt (64 * (c + 1)) (8 + e)) || (rootO (8 + e) (c + 1)).isSome) = true := by decide +kernel
theorem root_row_2 : ∀ e : _root_.Fin 8, ∀ c : _root_.Fin 7, ((Nat.blt (64 * (c + 1)) (16 + e)) || (rootO (16 + e) (c + 1)).isSome) = true := by decide +kernel
theorem root_row_3 : ∀ e : _root_.Fin 8, ∀ c : _root_.Fin 7, ((Nat.blt (64 * (c + 1)) (24 + e)) || (rootO (24 + e) (c + 1)).isSome) = true := by decide +kernel
theorem root_row_4 : ∀ e : _root_.Fin 8, ∀ c : _root_.Fin 7, ((Nat.blt (64 * (c + 1)) (32 + e)) || (rootO (32 + e) (c + 1)).isSome) = true := by decide +kernel
theorem root_row_5 : ∀ e : _root_.Fin 8, ∀ c : _root_.Fin 7, ((Nat.blt (64 * (c + 1)) (40 + e)) || (rootO (40 + e) (c + 1)).isSome) = true := by decide +kernel
theorem root_row_6 : ∀ e : _root_.Fin 8, ∀ c : _root_.Fin 7, ((Nat.blt (64 * (c + 1)) (48 + e)) || (rootO (48 + e) (c + 1)).isSome) = true := by decide +kernel
theorem root_row_7 : ∀ e : _root_.Fin 8, ∀ c : _root_.Fin 7, ((Nat.blt (64 * (c + 1)) (56 + e)) || (rootO (56 + e) (c + 1)).isSome) = true := by decide +kernel
theorem root_row_8 : ∀ e : _root_.Fin 8, ∀ c : _root_.Fin 7, ((Nat.blt (64 * (c + 1)) (64 + e)) || (rootO (64 + e) (c + 1)).isSome) = true := by decide +kernel
theorem root_row_9 : ∀ e : _root_.Fin 8, ∀ c : _root_.Fin 7, ((Nat.blt (64 * (c + 1)) (72 + e)) || (rootO (72 + e) (c + 1)).isSome) = true := by decide +kernel
theorem root_row_10 : ∀ e : _root_.Fin 8, ∀ c : _root_.Fin 7, ((Nat.blt (64 * (c + 1)) (80 + e)) || (rootO (80 + e) (c + 1)).isSome) = true := by decide +kernel
theorem root_row_11 : ∀ e : _root_.Fin 8, ∀ c : _root_.Fin 7, ((Nat.blt (64 * (c + 1)) (88 + e)) || (rootO (88 + e) (c + 1)).isSome) = true := by decide +kernel
theorem root_row_12 : ∀ e : _root_.Fin 8, ∀ c : _root_.Fin 7, ((Nat.blt (64 * (c + 1)) (96 + e)) || (rootO (96 + e) (c + 1)).isSome) = true := by decide +kernel
theorem root_row_13 : ∀ e : _root_.Fin 8, ∀ c : _root_.Fin 7, ((Nat.blt (64 * (c + 1)) (104 + e)) || (rootO (104 + e) (c + 1)).isSome) = true := by decide +kernel
theorem root_row_14 : ∀ e : _root_.Fin 8, ∀ c : _root_.Fin 7, ((Nat.blt (64 * (c + 1)) (112 + e)) || (rootO (112 + e) (c + 1)).isSome) = true := by decide +kernel
theorem root_row_15 : ∀ e : _root_.Fin 8, ∀ c : _root_.Fin 7, ((Nat.blt (64 * (c + 1)) (120 + e)) || (rootO (120 + e) (c + 1)).isSome) = true := by decide +kernel
theorem root_row_16 : ∀ e : _root_.Fin 8, ∀ c : _root_.Fin 7, ((Nat.blt (64 * (c + 1)) (128 + e)) || (rootO (128 + e) (c + 1)).isSome) = true := by decide +kernel
theorem root_row_17 : ∀ e : _root_.Fin 8, ∀ c : _root_.Fin 7, ((Nat.blt (64 * (c + 1)) (136 + e)) || (rootO (136 + e) (c + 1)).isSome) = true := by decide +kernel
theorem root_row_18 : ∀ e : _root_.Fin 8, ∀ c : _root_.Fin 7, ((Nat.blt (64 * (c + 1)) (144 + e)) || (rootO (144 + e) (c + 1)).isSome) = true := by decide +kernel
theorem root_row_19 : ∀ e : _root_.Fin 8, ∀ c : _root_.Fin 7, ((Nat.blt (64 * (c + 1)) (152 + e)) || (rootO (152 + e) (c + 1)).isSome) = true := by decide +kernel
theorem root_row_20 : ∀ e : _root_.Fin 8, ∀ c : _root_.Fin 7, ((Nat.blt (64 * (c + 1)) (160 + e)) || (rootO (160 + e) (c + 1)).isSome) = true := by decide +kernel
theorem root_row_21 : ∀ e : _root_.Fin 8, ∀ c : _root_.Fin 7, ((Nat.blt (64 * (c + 1)) (168 + e)) || (rootO (168 + e) (c + 1)).isSome) = true := by decide +kernel
theorem root_row_22 : ∀ e : _root_.Fin 8, ∀ c : _root_.Fin 7, ((Nat.blt (64 * (c + 1)) (176 + e)) || (rootO (176 + e) (c + 1)).isSome) = true := by decide +kernel
theorem root_row_23 : ∀ e : _root_.Fin 8, ∀ c : _root_.Fin 7, ((Nat.blt (64 * (c + 1)) (184 + e)) || (rootO (184 + e) (c + 1)).isSome) = true := by decide +kernel
theorem root_row_24 : ∀ e : _root_.Fin 8, ∀ c : _root_.Fin 7, ((Nat.blt (64 * (c + 1)) (192 + e)) || (rootO (192 + e) (c + 1)).isSome) = true := by decide +kernel
theorem root_row_25 : ∀ e : _root_.Fin 8, ∀ c : _root_.Fin 7, ((Nat.blt (64 * (c + 1)) (200 + e)) || (rootO (200 + e) (c + 1)).isSome) = true := by decide +kernel
theorem root_row_26 : ∀ e : _root_.Fin 8, ∀ c : _root_.Fin 7, ((Nat.blt (64 * (c + 1)) (208 + e)) || (rootO (208 + e) (c + 1)).isSome) = true := by decide +kernel
theorem root_row_27 : ∀ e : _root_.Fin 8, ∀ c : _root_.Fin 7, ((Nat.blt (64 * (c + 1)) (216 + e)) || (rootO (216 + e) (c + 1)).isSome) = true := by decide +kernel
theorem root_row_28 : ∀ e : _root_.Fin 8, ∀ c : _root_.Fin 7, ((Nat.blt (64 * (c + 1)) (224 + e)) || (rootO (224 + e) (c + 1)).isSome) = true := by decide +kernel
theorem root_row_29 : ∀ e : _root_.Fin 8, ∀ c : _root_.Fin 7, ((Nat.blt (64 * (c + 1)) (232 + e)) || (rootO (232 + e) (c + 1)).isSome) = true := by decide +kernel
theorem root_row_30 : ∀ e : _root_.Fin 8, ∀ c : _root_.Fin 7, ((Nat.blt (64 * (c + 1)) (240 + e)) || (rootO (240 + e) (c + 1)).isSome) = true := by decide +kernel
theorem root_row_31 : ∀ e : _root_.Fin 8, ∀ c : _root_.Fin 7, ((Nat.blt (64 * (c + 1)) (248 + e)) || (rootO (248 + e) (c + 1)).isSome) = true := by decide +kernel
theorem root_row_32 : ∀ e : _root_.Fin 8, ∀ c : _root_.Fin 7, ((Nat.blt (64 * (c + 1)) (256 + e)) || (rootO (256 + e) (c + 1)).isSome) = true := by decide +kernel
theorem root_row_33 : ∀ e : _root_.Fin 8, ∀ c : _root_.Fin 7, ((Nat.blt (64 * (c + 1)) (264 + e)) || (rootO (264 + e) (c + 1)).isSome) = true := by decide +kernel
theorem root_row_34 : ∀ e : _root_.Fin 8, ∀ c : _root_.Fin 7, ((Nat.blt (64 * (c + 1)) (272 + e)) || (rootO (272 + e) (c + 1)).isSome) = true := by decide +kernel
theorem root_row_35 : ∀ e : _root_.Fin 8, ∀ c : _root_.Fin 7, ((Nat.blt (64 * (c + 1)) (280 + e)) || (rootO (280 + e) (c + 1)).isSome) = true := by decide +kernel
theorem root_row_36 : ∀ e : _root_.Fin 8, ∀ c : _root_.Fin 7, ((Nat.blt (64 * (c + 1)) (288 + e)) || (rootO (288 + e) (c + 1)).isSome) = true := by decide +kernel
theorem root_row_37 : ∀ e : _root_.Fin 8, ∀ c : _root_.Fin 7, ((Nat.blt (64 * (c + 1)) (296 + e)) || (rootO (296 + e) (c + 1)).isSome) = true := by decide +kernel
theorem root_row_38 : ∀ e : _root_.Fin 8, ∀ c : _root_.Fin 7, ((Nat.blt (64 * (c + 1)) (304 + e)) || (rootO (304 + e) (c + 1)).isSome) = true := by decide +kernel
theorem root_row_39 : ∀ e : _root_.Fin 8, ∀ c : _root_.Fin 7, ((Nat.blt (64 * (c + 1)) (312 + e)) || (rootO (312 + e) (c + 1)).isSome) = true := by decide +kernel
theorem root_row_40 : ∀ e : _root_.Fin 8, ∀ c : _root_.Fin 7, ((Nat.blt (64 * (c + 1)) (320 + e)) || (rootO (320 + e) (c + 1)).isSome) = true := by decide +kernel
theorem root_row_41 : ∀ e : _root_.Fin 8, ∀ c : _root_.Fin 7, ((Nat.blt (64 * (c + 1)) (328 + e)) || (rootO (328 + e) (c + 1)).isSome) = true := by decide +kernel
theorem root_row_42 : ∀ e : _root_.Fin 8, ∀ c : _root_.Fin 7, ((Nat.blt (64 * (c + 1)) (336 + e)) || (rootO (336 + e) (c + 1)).isSome) = true := by decide +kernel
theorem root_row_43 : ∀ e : _root_.Fin 8, ∀ c : _root_.Fin 7, ((Nat.blt (64 * (c + 1)) (344 + e)) || (rootO (344 + e) (c + 1)).isSome) = true := by decide +kernel
theorem root_row_44 : ∀ e : _root_.Fin 8, ∀ c : _root_.Fin 7, ((Nat.blt (64 * (c + 1)) (352 + e)) || (rootO (352 + e) (c + 1)).isSome) = true := by decide +kernel
theorem root_row_45 : ∀ e : _root_.Fin 8, ∀ c : _root_.Fin 7, ((Nat.blt (64 * (c + 1)) (360 + e)) || (rootO (360 + e) (c + 1)).isSome) = true := by decide +kernel
theorem root_row_46 : ∀ e : _root_.Fin 8, ∀ c : _root_.Fin 7, ((Nat.blt (64 * (c + 1)) (368 + e)) || (rootO (368 + e) (c + 1)).isSome) = true := by decide +kernel
theorem root_row_47 : ∀ e : _root_.Fin 8, ∀ c : _root_.Fin 7, ((Nat.blt (64 * (c + 1)) (376 + e)) || (rootO (376 + e) (c + 1)).isSome) = true := by decide +kernel
theorem root_row_48 : ∀ e : _root_.Fin 8, ∀ c : _root_.Fin 7, ((Nat.blt (64 * (c + 1)) (384 + e)) || (rootO (384 + e) (c + 1)).isSome) = true := by decide +kernel
theorem root_row_49 : ∀ e : _root_.Fin 8, ∀ c : _root_.Fin 7, ((Nat.blt (64 * (c + 1)) (392 + e)) || (rootO (392 + e) (c + 1)).isSome) = true := by decide +kernel
theorem root_row_50 : ∀ e : _root_.Fin 8, ∀ c : _root_.Fin 7, ((Nat.blt (64 * (c + 1)) (400 + e)) || (rootO (400 + e) (c + 1)).isSome) = true := by decide +kernel
theorem root_row_51 : ∀ e : _root_.Fin 8, ∀ c : _root_.Fin 7, ((Nat.blt (64 * (c + 1)) (408 + e)) || (rootO (408 + e) (c + 1)).isSome) = true := by decide +kernel
theorem root_row_52 : ∀ e : _root_.Fin 8, ∀ c : _root_.Fin 7, ((Nat.blt (64 * (c + 1)) (416 + e)) || (rootO (416 + e) (c + 1)).isSome) = true := by decide +kernel
theorem root_row_53 : ∀ e : _root_.Fin 8, ∀ c : _root_.Fin 7, ((Nat.blt (64 * (c + 1)) (424 + e)) || (rootO (424 + e) (c + 1)).isSome) = true := by decide +kernel
theorem root_row_54 : ∀ e : _root_.Fin 8, ∀ c : _root_.Fin 7, ((Nat.blt (64 * (c + 1)) (432 + e)) || (rootO (432 + e) (c + 1)).isSome) = true := by decide +kernel
theorem root_row_55 : ∀ e : _root_.Fin 8, ∀ c : _root_.Fin 7, ((Nat.blt (64 * (c + 1)) (440 + e)) || (rootO (440 + e) (c + 1)).isSome) = true := by decide +kernel
theorem root_row_56 : ∀ e : _root_.Fin 8, ∀ c : _root_.Fin 7, ((Nat.blt (64 * (c + 1)) (448 + e)) || (rootO (448 + e) (c + 1)).isSome) = true := by decide +kernel

theorem root_row (E c : Nat) (hc : 1 ≤ c) (hc2 : c ≤ 7) (hE : E ≤ 64 * c) : (rootO E c).isSome = true := by
  have h : ∀ k, k < 57 → ((Nat.blt (64 * (c - 1 + 1)) (8 * k + E % 8)) || (rootO (8 * k + E % 8) (c - 1 + 1)).isSome) = true := by
    intro k hk
    match k with
    | 0 => exact root_row_0 ⟨E % 8, Nat.mod_lt _ (by decide)⟩ ⟨c - 1, by omega⟩
    | 1 => exact root_row_1 ⟨E % 8, Nat.mod_lt _ (by decide)⟩ ⟨c - 1, by omega⟩
    | 2 => exact root_row_2 ⟨E % 8, Nat.mod_lt _ (by decide)⟩ ⟨c - 1, by omega⟩
    | 3 => exact root_row_3 ⟨E % 8, Nat.mod_lt _ (by decide)⟩ ⟨c - 1, by omega⟩
    | 4 => exact root_row_4 ⟨E % 8, Nat.mod_lt _ (by decide)⟩ ⟨c - 1, by omega⟩
    | 5 => exact root_row_5 ⟨E % 8, Nat.mod_lt _ (by decide)⟩ ⟨c - 1, by omega⟩
    | 6 => exact root_row_6 ⟨E % 8, Nat.mod_lt _ (by decide)⟩ ⟨c - 1, by omega⟩
    | 7 => exact root_row_7 ⟨E % 8, Nat.mod_lt _ (by decide)⟩ ⟨c - 1, by omega⟩
    | 8 => exact root_row_8 ⟨E % 8, Nat.mod_lt _ (by decide)⟩ ⟨c - 1, by omega⟩
    | 9 => exact root_row_9 ⟨E % 8, Nat.mod_lt _ (by decide)⟩ ⟨c - 1, by omega⟩
    | 10 => exact root_row_10 ⟨E % 8, Nat.mod_lt _ (by decide)⟩ ⟨c - 1, by omega⟩
    | 11 => exact root_row_11 ⟨E % 8, Nat.mod_lt _ (by decide)⟩ ⟨c - 1, by omega⟩
    | 12 => exact root_row_12 ⟨E % 8, Nat.mod_lt _ (by decide)⟩ ⟨c - 1, by omega⟩
    | 13 => exact root_row_13 ⟨E % 8, Nat.mod_lt _ (by decide)⟩ ⟨c - 1, by omega⟩
    | 14 => exact root_row_14 ⟨E % 8, Nat.mod_lt _ (by decide)⟩ ⟨c - 1, by omega⟩
    | 15 => exact root_row_15 ⟨E % 8, Nat.mod_lt _ (by decide)⟩ ⟨c - 1, by omega⟩
    | 16 => exact root_row_16 ⟨E % 8, Nat.mod_lt _ (by decide)⟩ ⟨c - 1, by omega⟩
    | 17 => exact root_row_17 ⟨E % 8, Nat.mod_lt _ (by decide)⟩ ⟨c - 1, by omega⟩
    | 18 => exact root_row_18 ⟨E % 8, Nat.mod_lt _ (by decide)⟩ ⟨c - 1, by omega⟩
    | 19 => exact root_row_19 ⟨E % 8, Nat.mod_lt _ (by decide)⟩ ⟨c - 1, by omega⟩
    | 20 => exact root_row_20 ⟨E % 8, Nat.mod_lt _ (by decide)⟩ ⟨c - 1, by omega⟩
    | 21 => exact root_row_21 ⟨E % 8, Nat.mod_lt _ (by decide)⟩ ⟨c - 1, by omega⟩
    | 22 => exact root_row_22 ⟨E % 8, Nat.mod_lt _ (by decide)⟩ ⟨c - 1, by omega⟩
    | 23 => exact root_row_23 ⟨E % 8, Nat.mod_lt _ (by decide)⟩ ⟨c - 1, by omega⟩
    | 24 => exact root_row_24 ⟨E % 8, Nat.mod_lt _ (by decide)⟩ ⟨c - 1, by omega⟩
    | 25 => exact root_row_25 ⟨E % 8, Nat.mod_lt _ (by decide)⟩ ⟨c - 1, by omega⟩
    | 26 => exact root_row_26 ⟨E % 8, Nat.mod_lt _ (by decide)⟩ ⟨c - 1, by omega⟩
    | 27 => exact root_row_27 ⟨E % 8, Nat.mod_lt _ (by decide)⟩ ⟨c - 1, by omega⟩
    | 28 => exact root_row_28 ⟨E % 8, Nat.mod_lt _ (by decide)⟩ ⟨c - 1, by omega⟩
    | 29 => exact root_row_29 ⟨E % 8, Nat.mod_lt _ (by decide)⟩ ⟨c - 1, by omega⟩
    | 30 => exact root_row_30 ⟨E % 8, Nat.mod_lt _ (by decide)⟩ ⟨c - 1, by omega⟩
    | 31 => exact root_row_31 ⟨E % 8, Nat.mod_lt _ (by decide)⟩ ⟨c - 1, by omega⟩
    | 32 => exact root_row_32 ⟨E % 8, Nat.mod_lt _ (by decide)⟩ ⟨c - 1, by omega⟩
    | 33 => exact root_row_33 ⟨E % 8, Nat.mod_lt _ (by decide)⟩ ⟨c - 1, by omega⟩
    | 34 => exact root_row_34 ⟨E % 8, Nat.mod_lt _ (by decide)⟩ ⟨c - 1, by omega⟩
    | 35 => exact root_row_35 ⟨E % 8, Nat.mod_lt _ (by decide)⟩ ⟨c - 1, by omega⟩
    | 36 => exact root_row_36 ⟨E % 8, Nat.mod_lt _ (by decide)⟩ ⟨c - 1, by omega⟩
    | 37 => exact root_row_37 ⟨E % 8, Nat.mod_lt _ (by decide)⟩ ⟨c - 1, by omega⟩
    | 38 => exact root_row_38 ⟨E % 8, Nat.mod_lt _ (by decide)⟩ ⟨c - 1, by omega⟩
    | 39 => exact root_row_39 ⟨E % 8, Nat.mod_lt _ (by decide)⟩ ⟨c - 1, by omega⟩
    | 40 => exact root_row_40 ⟨E % 8, Nat.mod_lt _ (by decide)⟩ ⟨c - 1, by omega⟩
    | 41 => exact root_row_41 ⟨E % 8, Nat.mod_lt _ (by decide)⟩ ⟨c - 1, by omega⟩
    | 42 => exact root_row_42 ⟨E % 8, Nat.mod_lt _ (by decide)⟩ ⟨c - 1, by omega⟩
    | 43 => exact root_row_43 ⟨E % 8, Nat.mod_lt _ (by decide)⟩ ⟨c - 1, by omega⟩
    | 44 => exact root_row_44 ⟨E % 8, Nat.mod_lt _ (by decide)⟩ ⟨c - 1, by omega⟩
    | 45 => exact root_row_45 ⟨E % 8, Nat.mod_lt _ (by decide)⟩ ⟨c - 1, by omega⟩
    | 46 => exact root_row_46 ⟨E % 8, Nat.mod_lt _ (by decide)⟩ ⟨c - 1, by omega⟩
    | 47 => exact root_row_47 ⟨E % 8, Nat.mod_lt _ (by decide)⟩ ⟨c - 1, by omega⟩
    | 48 => exact root_row_48 ⟨E % 8, Nat.mod_lt _ (by decide)⟩ ⟨c - 1, by omega⟩
    | 49 => exact root_row_49 ⟨E % 8, Nat.mod_lt _ (by decide)⟩ ⟨c - 1, by omega⟩
    | 50 => exact root_row_50 ⟨E % 8, Nat.mod_lt _ (by decide)⟩ ⟨c - 1, by omega⟩
    | 51 => exact root_row_51 ⟨E % 8, Nat.mod_lt _ (by decide)⟩ ⟨c - 1, by omega⟩
    | 52 => exact root_row_52 ⟨E % 8, Nat.mod_lt _ (by decide)⟩ ⟨c - 1, by omega⟩
    | 53 => exact root_row_53 ⟨E % 8, Nat.mod_lt _ (by decide)⟩ ⟨c - 1, by omega⟩
    | 54 => exact root_row_54 ⟨E % 8, Nat.mod_lt _ (by decide)⟩ ⟨c - 1, by omega⟩
    | 55 => exact root_row_55 ⟨E % 8, Nat.mod_lt _ (by decide)⟩ ⟨c - 1, by omega⟩
    | 56 => exact root_row_56 ⟨E % 8, Nat.mod_lt _ (by decide)⟩ ⟨c - 1, by omega⟩
    | n + 57 => omega
  have := h (E / 8) (by omega)
  rw [show 8 * (E / 8) + E % 8 = E from by omega, show c - 1 + 1 = c from by omega, Bool.or_eq_true] at this
  rcases this with g | g
  · rw [Nat.blt_eq] at g; omega
  · exact g

section
variable {ρ : Type}

theorem energy_ok {n lo len : Nat} (hl : lo + len ≤ n) (hlen : len ≤ 1000) {v : Nat → Int} (hv : ∀ i, (v i).natAbs ≤ 8) (b : Bool) (e : Nat) :
    ∃ E : Nat, E ≤ 64 * len ∧ impl_energy fuelF lo len b e (tab n fun i => Q .f32 (v i) 2) some = some (Q .f32 (E : Int) 4) := by
  unfold impl_energy
  obtain ⟨s', h1, E, h2, h3⟩ := invLoop len (fun i (x : Nat) => ∃ E : Nat, E ≤ 64 * i ∧ x = Q .f32 (E : Int) 4) (fun m i x => impl_energy_3 fuelF lo len (len : Int) b e (tab n fun i => Q .f32 (v i) 2) m x i fun e18 _ => some e18) some
    (by
      rintro m i x hi ⟨E, h1, rfl⟩
      have hlt : (i : Int) < (len : Int) := by omega
      have hb := hv (lo + i)
      have hsq : v (lo + i) * v (lo + i) = (((v (lo + i)).natAbs * (v (lo + i)).natAbs : Nat) : Int) := by
        rw [Int.natCast_mul, Int.natAbs_mul_self']
      have hle : (v (lo + i)).natAbs * (v (lo + i)).natAbs ≤ 64 := Nat.mul_le_mul hb hb
      refine ⟨Q .f32 ((E + (v (lo + i)).natAbs * (v (lo + i)).natAbs : Nat) : Int) 4, ?_, E + (v (lo + i)).natAbs * (v (lo + i)).natAbs, by omega, rfl⟩
      conv => lhs; unfold impl_energy_3
      rw [wrap_i64 (show -9223372036854775808 ≤ (i : Int) + 1 by omega) (by omega)]
      simp only [decide_eq_true hlt, cond_true, idx_ok hi, Option.bind_some, tab_get (show lo + i < n by omega)]
      rw [mul_Q (by rw [topf]; omega) (by rw [topf]; omega) (by omega) (by omega) (.inl Iff.rfl), hsq, add_Q (by rw [topf]; omega) (by rw [topf]; omega) (by omega)]
      rw [← Int.natCast_add]
      rfl)
    (by
      intro m x _
      have h1 : ¬ (len : Int) < (len : Int) := by omega
      conv => lhs; unfold impl_energy_3
      rw [decide_eq_false h1, cond_false]) fuelF 0 (can .f32 0) (by omega) (by unfold fuelF; omega) ⟨0, by omega, by rw [can_zero]; exact (Q_zero .f32 4).symm⟩
  exact ⟨E, h2, by rw [← h3]; exact h1⟩

/-- The window about a number. -/
def hiW (n R i : Nat) : Nat := min n (i + R + 1)

theorem gain_step {n R i : Nat} (hn : n ≤ 128) (hi : i < n) (hR : R ≤ 3) {v : Nat → Int} (hv : ∀ i, (v i).natAbs ≤ 8) (b : Bool) (e : Nat) (m : Nat) (out : List Nat) (ho : out.length = n) (k0 : Int → List Nat → Option ρ) :
    ∃ E r : Nat, E ≤ 64 * (hiW n R i - (i - R)) ∧ impl_energy fuelF (i - R) (hiW n R i - (i - R)) b e (tab n fun i => Q .f32 (v i) 2) some = some (Q .f32 (E : Int) 4) ∧ rootO E (hiW n R i - (i - R)) = some r ∧
      impl_GainTrace_5 fuelF R n b e (tab n fun i => Q .f32 (v i) 2) (m + 1) i out k0 =
        impl_GainTrace_5 fuelF R n b e (tab n fun i => Q .f32 (v i) 2) m ((i + 1 : Nat) : Int) (if fne .f32 r (can .f32 0) = true then out.set i (fdiv .f32 (Q .f32 (v i) 2) r) else out) k0 := by
  have hhi : hiW n R i = min n (i + R + 1) := rfl
  obtain ⟨E, h1, h2⟩ := energy_ok (n := n) (lo := i - R) (len := hiW n R i - (i - R)) (by omega) (by omega) hv b e
  have hroot := root_row E (hiW n R i - (i - R)) (by omega) (by omega) h1
  obtain ⟨r, hr⟩ := Option.isSome_iff_exists.mp hroot
  refine ⟨E, r, h1, h2, hr, ?_⟩
  have hlt : (i : Int) < (n : Int) := by omega
  conv => lhs; unfold impl_GainTrace_5
  unfold impl_length_float32
  have w1 : IntKind.wrap .i64 ((i : Int) + (R : Int)) = (i : Int) + R := wrap_i64 (by omega) (by omega)
  have w2 : IntKind.wrap .i64 ((i : Int) + (R : Int) + 1) = (i : Int) + R + 1 := wrap_i64 (by omega) (by omega)
  have w3 : IntKind.wrap .i64 ((i : Int) - (R : Int)) = (i : Int) - R := wrap_i64 (by omega) (by omega)
  have w4 : IntKind.wrap .i64 ((i : Int) + 1) = ((i + 1 : Nat) : Int) := by rw [wrap_i64 (by omega) (by omega)]; omega
  have c1 : (bif false then (if (i : Int) + R + 1 > (n : Int) then (i : Int) + R + 1 else (n : Int)) else (if (i : Int) + R + 1 < (n : Int) then (i : Int) + R + 1 else (n : Int))) = ((hiW n R i : Nat) : Int) := by
    rw [cond_false, hhi]; split <;> omega
  have c2 : (bif true then (if (i : Int) - R > 0 then (i : Int) - R else 0) else (if (i : Int) - R < 0 then (i : Int) - R else 0)) = ((i - R : Nat) : Int) := by
    rw [cond_true]; split <;> omega
  simp only [decide_eq_true hlt, cond_true, tab_length, idx_ok hi, Option.bind_some, tab_get hi, w1, w2, w3, w4]
  simp only [cond_true, cond_false] at c1 c2 ⊢
  rw [c1, c2, upto_ok (show hiW n R i ≤ n by omega)]
  simp only [Option.bind_some]
  rw [upto_ok (show i - R ≤ hiW n R i by omega)]
  simp only [Option.bind_some, h2]
  rw [show ((hiW n R i : Nat) : Int) - ((i - R : Nat) : Int) = ((hiW n R i - (i - R) : Nat) : Int) from by omega, wrap_i64 (by omega) (by omega)]
  have hr' : impl_RootNumber fuelF (fdiv .f32 (Q .f32 (E : Int) 4) (itof .f32 ((hiW n R i - (i - R) : Nat) : Int))) some = some r := hr
  rw [hr']
  simp only [Option.bind_some]
  have hout : out[i]? = some out[i] := List.getElem?_eq_getElem (by omega)
  cases hf : fne .f32 r (can .f32 0) with
  | true => simp only [cond_true, if_true, ho, idx_ok hi, Option.bind_some, hout]
  | false => simp only [cond_false, Bool.false_eq_true, if_false]

theorem gain_end (n R : Nat) (b : Bool) (e : Nat) (l : List Nat) (m : Nat) (out : List Nat) (k0 : Int → List Nat → Option ρ) : impl_GainTrace_5 fuelF R n b e l (m + 1) n out k0 = k0 n out := by
  have h1 : ¬ (n : Int) < (n : Int) := by omega
  conv => lhs; unfold impl_GainTrace_5
  rw [decide_eq_false h1, cond_false]

theorem gain_start {n R : Nat} (hn0 : 1 ≤ n) (hn : n ≤ 128) (hR : R ≤ 3) (f : Nat → Nat) (b : Bool) (e : Nat) :
    impl_GainTrace fuelF R b e (tab n f) some = impl_GainTrace_5 fuelF R n b e (tab n f) fuelF 0 (tab n fun _ => 0) fun _ e34 => some (true, e34) := by
  unfold impl_GainTrace
  rw [isTrace_ok fuelF b e (by rw [tab_length]; omega) (by rw [tab_length]; omega)]
  simp only [Option.bind_some, Bool.not_true, cond_false, within_ok fuelF (show (0 : Int) ≤ (R : Int) by omega) (show (R : Int) ≤ 128 by omega)]
  unfold impl_GainTrace_c3
  simp only [tab_length, making_ok (show 4 * n ≤ 140737488355328 by omega) (by omega), Option.bind_some, upto_ok (Nat.le_refl n), replicate_tab]

theorem gain_len {n R : Nat} (hn0 : 1 ≤ n) (hn : n ≤ 128) (hR : R ≤ 3) {v : Nat → Int} (hv : ∀ i, (v i).natAbs ≤ 8) (b : Bool) (e : Nat) :
    ∃ out, impl_GainTrace fuelF R b e (tab n fun i => Q .f32 (v i) 2) some = some (true, out) ∧ out.length = n := by
  rw [gain_start hn0 hn hR (fun i => Q .f32 (v i) 2)]
  refine invLoop n (fun i out => out.length = n) (fun m i out => impl_GainTrace_5 fuelF R n b e (tab n fun i => Q .f32 (v i) 2) m i out fun _ e34 => some (true, e34)) (fun out => some (true, out)) ?_ ?_ fuelF 0 (tab n fun _ => 0) (by omega) (by unfold fuelF; omega) (tab_length _ _)
  · intro m i out hi ho
    obtain ⟨E, r, _, _, _, h⟩ := gain_step hn hi hR hv b e m out ho (fun (_ : Int) e34 => some (true, e34))
    refine ⟨_, h, ?_⟩
    split
    · rw [List.length_set]; exact ho
    · exact ho
  · intro m out _
    exact gain_end ..

/-- A number divided by its own size. -/
def ownW (v : Int) : Nat := if fne .f32 ((rootO (v.natAbs * v.natAbs) 1).getD 0) (can .f32 0) = true then fdiv .f32 (Q .f32 v 2) ((rootO (v.natAbs * v.natAbs) 1).getD 0) else 0

theorem energy_one {n i : Nat} (hi : i < n) {v : Nat → Int} (hv : ∀ i, (v i).natAbs ≤ 8) (b : Bool) (e : Nat) :
    impl_energy fuelF i 1 b e (tab n fun i => Q .f32 (v i) 2) some = some (Q .f32 (((v i).natAbs * (v i).natAbs : Nat) : Int) 4) := by
  have hb := hv i
  have hle : (v i).natAbs * (v i).natAbs ≤ 64 := Nat.mul_le_mul hb hb
  have hsq : v i * v i = (((v i).natAbs * (v i).natAbs : Nat) : Int) := by
    rw [Int.natCast_mul, Int.natAbs_mul_self']
  have hfu : fuelF = 1998 + 1 + 1 := rfl
  unfold impl_energy
  have key : ∀ g, impl_energy_3 fuelF i 1 ((1 : Nat) : Int) b e (tab n fun i => Q .f32 (v i) 2) (g + 1 + 1) (can .f32 0) 0 (fun e18 _ => some e18) = some (Q .f32 (((v i).natAbs * (v i).natAbs : Nat) : Int) 4) := by
    intro g
    conv => lhs; unfold impl_energy_3
    rw [decide_eq_true (show (0 : Int) < ((1 : Nat) : Int) by decide), cond_true, show idx (0 : Int) 1 = some 0 from by decide]
    simp only [Option.bind_some, Nat.add_zero, tab_get hi]
    rw [mul_Q (by rw [topf]; omega) (by rw [topf]; omega) (by omega) (by omega) (.inl Iff.rfl), hsq, can_zero, ← Q_zero .f32 4, add_Q (by rw [topf]; omega) (by rw [topf]; omega) (by omega), Int.zero_add]
    conv => lhs; unfold impl_energy_3
    rw [show IntKind.wrap .i64 ((0 : Int) + 1) = 1 from by rw [wrap_i64 (by decide) (by decide)]; rfl, decide_eq_false (show ¬ (1 : Int) < ((1 : Nat) : Int) by decide), cond_false]
  exact (congrArg (fun z => impl_energy_3 fuelF i 1 ((1 : Nat) : Int) b e (tab n fun i => Q .f32 (v i) 2) z (can .f32 0) 0 (fun e18 _ => some e18)) hfu).trans (key 1998)

theorem gain_own {n : Nat} (hn0 : 1 ≤ n) (hn : n ≤ 128) {v : Nat → Int} (hv : ∀ i, (v i).natAbs ≤ 8) (b : Bool) (e : Nat) :
    impl_GainTrace fuelF ((0 : Nat) : Int) b e (tab n fun i => Q .f32 (v i) 2) some = some (true, tab n fun i => ownW (v i)) := by
  rw [gain_start (R := 0) hn0 hn (by omega) (fun i => Q .f32 (v i) 2)]
  refine setLoop n (fun _ => 0) (fun i => ownW (v i)) (fun m i out => impl_GainTrace_5 fuelF ((0 : Nat) : Int) n b e (tab n fun i => Q .f32 (v i) 2) m i out fun _ e34 => some (true, e34)) (fun out => some (true, out)) 0 (fun j hj => by omega) (by omega) ?_ ?_ fuelF (by unfold fuelF; omega)
  · intro m i _ hi out ho
    have hlen : out.length = n := by rw [ho, tab_length]
    obtain ⟨E, r, h1, h2, h3, h⟩ := gain_step hn hi (R := 0) (by omega) hv b e m out hlen (fun (_ : Int) e34 => some (true, e34))
    have hw : hiW n 0 i - (i - 0) = 1 := by unfold hiW; omega
    rw [hw] at h2 h3
    rw [show i - 0 = i from rfl, energy_one hi hv] at h2
    have hb := hv i
    have hle : (v i).natAbs * (v i).natAbs ≤ 64 := Nat.mul_le_mul hb hb
    have hE : E = (v i).natAbs * (v i).natAbs := by
      rw [hw] at h1
      have h4 := Option.some.inj h2
      have e1 := (V_Q (k := .f32) (m := ((v i).natAbs * (v i).natAbs : Nat)) (s := 4) (by rw [topf]; omega) (by omega)).1
      have e2 := (V_Q (k := .f32) (m := (E : Int)) (s := 4) (by rw [topf]; omega) (by omega)).1
      rw [h4, e2] at e1
      have := (mul_eq_iff (E : Int) (((v i).natAbs * (v i).natAbs : Nat) : Int) (depth .f32 - 4)).mp e1
      omega
    have ho2 : ownW (v i) = if fne .f32 r (can .f32 0) = true then fdiv .f32 (Q .f32 (v i) 2) r else 0 := by
      unfold ownW; rw [← hE, h3]; rfl
    refine h.trans ?_
    show impl_GainTrace_5 _ _ _ _ _ _ _ _ _ _ = impl_GainTrace_5 _ _ _ _ _ _ _ _ _ _
    congr 1
    rw [ho2]
    split
    · rfl
    · rw [ho, tab_set]
      apply tab_congr
      intro j _
      by_cases g : j = i
      · subst g; simp
      · rw [if_neg g]
  · intro m out _
    exact gain_end ..

def unitOk (v : Int) : Bool := match fconv .f32 (fmul .f32 (ownW v) (ownW v)) .f64 with
  | some z => match laws_b10Gap fuelF z (can .f64 4607182418800017408) some with
    | some g => !(fgt .f64 g (can .f64 4562254508917369340))
    | none => false
  | none => false

theorem units_fine : ∀ v : _root_.Fin 17, (v.val = 8 ∨ unitOk ((v : Int) - 8) = true) := by decide +kernel
theorem own_zero : fne .f32 (ownW 0) (can .f32 0) = false := by decide +kernel

end
end Go.Proofs.Ytedpmhnglbgihaa

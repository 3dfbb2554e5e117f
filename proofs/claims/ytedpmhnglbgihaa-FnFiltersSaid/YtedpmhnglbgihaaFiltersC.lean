/-
  Smoothing in quarters is exact; comparisons of lists; greatest sizes.
-/
import Derived.Test.YtedpmhnglbgihaaFiltersB
namespace Go.Proofs.Ytedpmhnglbgihaa
open Go.Ev Go.Fl
set_option linter.unusedSimpArgs false
set_option linter.unusedVariables false

def ext (n : Nat) (v : Nat → Int) (j : Int) : Int := if 0 ≤ j ∧ j < n then v j.toNat else 0
def smv (n : Nat) (v : Nat → Int) (i : Nat) : Int := ext n v ((i : Int) - 1) + v i + v i + ext n v ((i : Int) + 1)
def itv (n : Nat) : Nat → (Nat → Int) → Nat → Int
  | 0, v => v
  | d + 1, v => itv n d (smv n v)

theorem ext_le {n : Nat} {v : Nat → Int} {M : Nat} (hv : ∀ i, (v i).natAbs ≤ M) (j : Int) : (ext n v j).natAbs ≤ M := by
  unfold ext; split
  · exact hv _
  · simp

theorem smv_le {n : Nat} {v : Nat → Int} {M : Nat} (hv : ∀ i, (v i).natAbs ≤ M) (i : Nat) : (smv n v i).natAbs ≤ 4 * M := by
  unfold smv
  have h1 := ext_le (n := n) hv ((i : Int) - 1)
  have h2 := ext_le (n := n) hv ((i : Int) + 1)
  have h3 := hv i
  omega

theorem atT_Q (n : Nat) (v : Nat → Int) (s : Nat) (j : Int) : atT n (fun i => Q .f32 (v i) s) j = Q .f32 (ext n v j) s := by
  unfold atT ext; split
  · rfl
  · rw [Q_zero]

theorem quarter_const : can .f32 1048576000 = Q .f32 1 2 := by decide +kernel

theorem topf : top .f32 = 16777216 := rfl

theorem sm_Q {n : Nat} {v : Nat → Int} {M s : Nat} (hv : ∀ i, (v i).natAbs ≤ M) (hM : M ≤ 1000000) (hs : s ≤ 100) : sm n (fun i => Q .f32 (v i) s) = fun i => Q .f32 (smv n v i) (s + 2) := by
  funext i
  have h1 := ext_le (n := n) hv ((i : Int) - 1)
  have h2 := ext_le (n := n) hv ((i : Int) + 1)
  have h3 := hv i
  unfold sm
  rw [atT_Q, atT_Q, quarter_const]
  rw [add_Q (by rw [topf]; omega) (by rw [topf]; omega) (by omega), add_Q (by rw [topf]; omega) (by rw [topf]; omega) (by omega), add_Q (by rw [topf]; omega) (by rw [topf]; omega) (by omega)]
  rw [mul_Q (by decide) (by rw [topf]; omega) (by omega) (by omega) (by omega), Int.one_mul, Nat.add_comm 2 s]
  rfl

theorem it_Q (n : Nat) : ∀ (R : Nat) (v : Nat → Int) (M s : Nat), (∀ i, (v i).natAbs ≤ M) → M * 4 ^ R ≤ 1000000 → s + 2 * R ≤ 100 →
    it (sm n) R (fun i => Q .f32 (v i) s) = (fun i => Q .f32 (itv n R v i) (s + 2 * R)) ∧ ∀ i, (itv n R v i).natAbs ≤ M * 4 ^ R := by
  intro R
  induction R with
  | zero => intro v M s hv _ _; exact ⟨rfl, fun i => by simpa [itv] using hv i⟩
  | succ R ih =>
    intro v M s hv hM hs
    have e : M * 4 ^ (R + 1) = 4 * M * 4 ^ R := by rw [Nat.pow_succ]; simp only [Nat.mul_comm, Nat.mul_left_comm, Nat.mul_assoc]
    have hp : 0 < 4 ^ R := Nat.pow_pos (by decide)
    have hM1 : M ≤ 1000000 := by
      have := Nat.le_mul_of_pos_right (4 * M) hp
      omega
    obtain ⟨h1, h2⟩ := ih (smv n v) (4 * M) (s + 2) (smv_le hv) (by omega) (by omega)
    constructor
    · show it (sm n) R (sm n fun i => Q .f32 (v i) s) = _
      rw [sm_Q hv hM1 (by omega), h1]
      funext i
      show Q _ _ _ = Q _ _ _
      rw [show s + 2 + 2 * R = s + 2 * (R + 1) from by omega]; rfl
    · intro i; rw [e]; exact h2 i

/-- A trace less what is smooth, and again the smooth: the trace. -/
theorem back_Q {v w : Int} {R : Nat} (hR : R ≤ 4) (hv : v.natAbs ≤ 8) (hw : w.natAbs ≤ 8 * 4 ^ R) :
    fadd .f32 (Q .f32 w (2 + 2 * R)) (fsub .f32 (Q .f32 v 2) (Q .f32 w (2 + 2 * R))) = Q .f32 v 2 := by
  have hp : (4 : Nat) ^ R ≤ 256 := Nat.le_trans (Nat.pow_le_pow_right (by decide) hR) (by decide)
  have hs := scale_Q .f32 v 2 (2 * R)
  have h4 : (2 : Int) ^ (2 * R) = ((4 ^ R : Nat) : Int) := by rw [Int.pow_mul]; norm_cast
  rw [h4] at hs
  have hb : (v * ((4 ^ R : Nat) : Int)).natAbs ≤ 8 * 4 ^ R := by
    rw [Int.natAbs_mul]; exact Nat.mul_le_mul hv (Nat.le_refl _)
  generalize (4 : Nat) ^ R = p at *
  rw [← hs, sub_Q (by rw [topf]; omega) (by rw [topf]; omega) (by omega), add_Q (by rw [topf]; omega) (by rw [topf]; omega) (by omega)]
  congr 1; omega

theorem top64 : top .f64 = 9007199254740992 := rfl

section
variable {ρ : Type}

theorem gap_same {m : Int} {s : Nat} (φ : Nat) (hm : m.natAbs < 16777216) (hs : s ≤ 149) : laws_b10Gap φ (Q .f64 m s) (Q .f64 m s) some = some 0 := by
  have h : m.natAbs < top .f64 := by rw [top64]; omega
  unfold laws_b10Gap
  rw [lt_Q h h hs, sub_Q h h hs]
  simp [Q_zero]

theorem alike_same (φ : Nat) (hφ : 2000 ≤ φ) {n : Nat} (hn : n ≤ 1000) {v : Nat → Int} {s : Nat} (hv : ∀ i, (v i).natAbs ≤ 1000000) (hs : s ≤ 100) {x : Nat} (hx : fle .f64 0 x = true) (b c : Bool) (e d : Nat) :
    laws_b10Alike φ x b e (tab n fun i => Q .f32 (v i) s) c d (tab n fun i => Q .f32 (v i) s) some = some true := by
  unfold laws_b10Alike
  simp only [bne_self_eq_false, cond_false, tab_length]
  refine allLoop n (fun m i => laws_b10Alike_4 φ x false n b e (tab n fun i => Q .f32 (v i) s) c d (tab n fun i => Q .f32 (v i) s) m i (fun _ => some false) (fun _ => some true)) (some true) 0 ?_ ?_ φ 0 (by omega) (by omega) (by omega)
  · intro m i _ hi
    have h1 : (i : Int) < (n : Int) := by omega
    have hb := hv i
    conv => lhs; unfold laws_b10Alike_4
    rw [wrap_i64 (show -9223372036854775808 ≤ (i : Int) + 1 by omega) (by omega)]
    simp only [decide_eq_true h1, cond_true, tab_length, idx_ok hi, Option.bind_some, tab_get hi, conv_Q (show (v i).natAbs < top .f32 by rw [topf]; omega) (show s ≤ 149 by omega), gap_same φ (show (v i).natAbs < 16777216 by omega) (show s ≤ 149 by omega), hx, Bool.not_true, cond_false]
    rfl
  · intro m
    have h1 : ¬ (n : Int) < (n : Int) := by omega
    conv => lhs; unfold laws_b10Alike_4
    rw [decide_eq_false h1, cond_false]

/-- The greatest size of the first numbers. -/
def mx (v : Nat → Int) : Nat → Nat
  | 0 => 0
  | i + 1 => max (mx v i) (v i).natAbs

theorem mx_ge (v : Nat → Int) : ∀ (n i : Nat), i < n → (v i).natAbs ≤ mx v n := by
  intro n
  induction n with
  | zero => intro i h; omega
  | succ n ih =>
    intro i h
    simp only [mx]
    by_cases e : i = n
    · subst e; omega
    · have := ih i (by omega); omega

theorem mx_le {v : Nat → Int} {M : Nat} : ∀ (n : Nat), (∀ i, i < n → (v i).natAbs ≤ M) → mx v n ≤ M := by
  intro n
  induction n with
  | zero => intro _; simp [mx]
  | succ n ih =>
    intro h
    simp only [mx]
    have h1 := ih (fun i hi => h i (by omega))
    have h2 := h n (by omega)
    omega

/-- A size as a double word. -/
def Size (x : Nat) (a s : Nat) : Prop := Fin FloatKind.f64.format x ∧ V FloatKind.f64.format x = (a : Int) * 2 ^ (1074 - s)

theorem size_step {x a s : Nat} {m : Int} (h : Size x a s) (hm : m.natAbs < 16777216) (hs : s ≤ 149) : Size (fmax .f64 (fmax .f64 x (Q .f64 m s)) (fneg .f64 (Q .f64 m s))) (max a m.natAbs) s := by
  obtain ⟨h1, h2⟩ := h
  obtain ⟨q1, q2, _⟩ := V_Q (k := .f64) (show m.natAbs < top .f64 by rw [top64]; omega) hs
  obtain ⟨f1, f2⟩ := fmax_eq h1 q2
  obtain ⟨n1, n2, _⟩ := fneg_eq q2
  obtain ⟨g1, g2⟩ := fmax_eq f1 n1
  refine ⟨g1, ?_⟩
  rw [g2, f2, n2, h2, q1]
  show max (max ((a : Int) * 2 ^ (1074 - s)) (m * 2 ^ (1074 - s))) (-(m * 2 ^ (1074 - s))) = _
  have hp := pow_pos' (1074 - s)
  rw [← Int.neg_mul]
  generalize (2 : Int) ^ (1074 - s) = p at hp ⊢
  have mm : ∀ x y : Int, max (x * p) (y * p) = max x y * p := by
    intro x y
    rcases Int.le_total x y with g | g
    · rw [Int.max_eq_right g, Int.max_eq_right (Int.mul_le_mul_of_nonneg_right g (by omega))]
    · rw [Int.max_eq_left g, Int.max_eq_left (Int.mul_le_mul_of_nonneg_right g (by omega))]
  rw [mm, mm]
  congr 1
  omega

theorem size_zero (s : Nat) : Size (can .f64 0) 0 s := by
  have : can .f64 0 = 0 := by decide
  rw [this]
  obtain ⟨h1, h2, _⟩ := V_zero FloatKind.f64.format (by decide)
  exact ⟨h2, by rw [h1]; simp⟩

theorem most_ok (φ : Nat) (hφ : 2000 ≤ φ) {n : Nat} (hn : n ≤ 1000) {v : Nat → Int} {s : Nat} (hv : ∀ i, (v i).natAbs ≤ 1000000) (hs : s ≤ 100) (b : Bool) (e : Nat) :
    ∃ x, laws_b10Most φ b e (tab n fun i => Q .f32 (v i) s) some = some x ∧ Size x (mx v n) s := by
  unfold laws_b10Most
  simp only [tab_length]
  refine invLoop n (fun i x => Size x (mx v i) s) (fun m i x => laws_b10Most_3 φ n b e (tab n fun i => Q .f32 (v i) s) m x i fun e18 _ => some e18) some ?_ ?_ φ 0 (can .f64 0) (by omega) (by omega) (size_zero s)
  · intro m i x hi hx
    have h1 : (i : Int) < (n : Int) := by omega
    have hb := hv i
    refine ⟨_, ?_, size_step hx (show (v i).natAbs < 16777216 by omega) (show s ≤ 149 by omega)⟩
    conv => lhs; unfold laws_b10Most_3
    rw [wrap_i64 (show -9223372036854775808 ≤ (i : Int) + 1 by omega) (by omega)]
    simp only [decide_eq_true h1, cond_true, tab_length, idx_ok hi, Option.bind_some, tab_get hi, conv_Q (show (v i).natAbs < top .f32 by rw [topf]; omega) (show s ≤ 149 by omega)]
    rfl
  · intro m x _
    have h1 : ¬ (n : Int) < (n : Int) := by omega
    conv => lhs; unfold laws_b10Most_3
    rw [decide_eq_false h1, cond_false]

/-- The same of a part of a table: one number. -/
theorem most1_ok (φ : Nat) (hφ : 2000 ≤ φ) {l : List Nat} {k : Nat} {y : Nat} (hk : l[k]? = some y) (b : Bool) (e : Nat) {z : Nat} (hz : fconv .f32 y .f64 = some z) :
    laws_b10Most_v2 φ k 1 b e l some = some (fmax .f64 (fmax .f64 (can .f64 0) z) (fneg .f64 z)) := by
  unfold laws_b10Most_v2
  obtain ⟨φ', rfl⟩ : ∃ g, φ = g + 2 := ⟨φ - 2, by omega⟩
  rw [show laws_b10Most_v2_3 (φ' + 2) k 1 ((1 : Nat) : Int) b e l (φ' + 2) = laws_b10Most_v2_3 (φ' + 2) k 1 ((1 : Nat) : Int) b e l (φ' + 1 + 1) from rfl]
  unfold laws_b10Most_v2_3
  dsimp only
  have h1 : (0 : Int) < ((1 : Nat) : Int) := by decide
  rw [decide_eq_true h1, cond_true, show idx (0 : Int) 1 = some 0 from by decide]
  simp only [Option.bind_some, Nat.add_zero, hk, hz]
  unfold laws_b10Most_v2_3
  dsimp only
  rw [show IntKind.wrap .i64 ((0 : Int) + 1) = 1 from by rw [wrap_i64 (by decide) (by decide)]; rfl]
  have h2 : ¬ (1 : Int) < ((1 : Nat) : Int) := by decide
  rw [decide_eq_false h2, cond_false]
  rfl

def isNumber (d : Ieee.Datum) : Bool := match d with
  | .number _ _ _ => true
  | _ => false

theorem fin_of {f : Ieee.Format} {w : Nat} (h : isNumber (f.read w) = true) : Fin f w := by
  unfold Fl.Fin
  cases hq : f.read w with
  | number s m e => exact ⟨_, _, _, rfl⟩
  | infinity s => rw [hq] at h; cases h
  | nan s t => rw [hq] at h; cases h

def little : Nat := can .f64 4562254508917369340
def littleV : Int := V FloatKind.f64.format little
def sumW (a : Nat) : Nat := q FloatKind.f64.format ((a : Int) * 2 ^ 1072 + littleV) FloatKind.f64.format.leastPlace

theorem sums_fine : ∀ a : _root_.Fin 9, (isNumber (FloatKind.f64.format.read (sumW a)) && decide (((a : Nat) : Int) * 2 ^ 1072 ≤ V FloatKind.f64.format (sumW a))) = true := by decide +kernel
theorem little_fin : Fin FloatKind.f64.format little := fin_of (by decide +kernel)
theorem little_pos : 0 < littleV := by decide +kernel

theorem sum_ne {x y : Int} (hx : 0 ≤ x) (hy : 0 < y) : x + y ≠ 0 := by omega

theorem fine_sum {y a : Nat} (ha : a ≤ 8) (hy : Size y a 2) : fadd .f64 y little = sumW a := by
  obtain ⟨y1, y2⟩ := hy
  have e : (1074 - 2 : Nat) = 1072 := rfl
  rw [e] at y2
  have hv : V FloatKind.f64.format little = littleV := rfl
  unfold sumW
  rw [fadd_eq y1 little_fin, y2, hv]
  right; right
  rw [y2, hv]
  exact sum_ne (Int.mul_nonneg (Int.natCast_nonneg a) (Int.le_of_lt (pow_pos' 1072))) little_pos

theorem fine_le {a c R : Nat} (hc : c ≤ a * 4 ^ R) (hR : R ≤ 4) (e1 e2 : Nat) (he : 2 * R + e1 = e2) : (c : Int) * 2 ^ e1 ≤ (a : Int) * 2 ^ e2 := by
  have h1 : (c : Int) ≤ (a : Int) * 2 ^ (2 * R) := by
    have : ((a * 4 ^ R : Nat) : Int) = (a : Int) * 2 ^ (2 * R) := by rw [Int.pow_mul]; norm_cast
    rw [← this]; exact Int.ofNat_le.mpr hc
  have h2 := Int.mul_le_mul_of_nonneg_right h1 (Int.le_of_lt (pow_pos' e1))
  rw [Int.mul_assoc, ← Int.pow_add, he] at h2
  exact h2

/-- Smooth numbers are no greater than the trace's, even with a little more. -/
theorem most_fine {x y a : Nat} {R : Nat} (ha : a ≤ 8) (c : Nat) (hc : c ≤ a * 4 ^ R) (hR : R ≤ 4) (hx : Size x c (2 + 2 * R)) (hy : Size y a 2) :
    fgt .f64 x (fadd .f64 y (can .f64 4562254508917369340)) = false := by
  have hs := fine_sum ha hy
  have hg := sums_fine ⟨a, by omega⟩
  rw [Bool.and_eq_true, decide_eq_true_eq] at hg
  obtain ⟨g1, g2⟩ := hg
  have hl := fine_le hc hR (1074 - (2 + 2 * R)) 1072 (by omega)
  obtain ⟨x1, x2⟩ := hx
  show fgt .f64 x (fadd .f64 y little) = false
  rw [hs]
  have hf : Fin FloatKind.f64.format (sumW a) := fin_of g1
  rw [fgt_eq x1 hf, x2, decide_eq_false_iff_not]
  exact Int.not_lt.mpr (Int.le_trans hl g2)

end
end Go.Proofs.Ytedpmhnglbgihaa

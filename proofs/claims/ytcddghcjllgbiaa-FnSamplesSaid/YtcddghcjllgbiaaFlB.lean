/-
  What the operations do to numbers at a scale.
-/
import Derived.Test.YtcddghcjllgbiaaFlA
import Derived.Test.YtcddghcjllgbiaaEvG
namespace Go.Fl
open Ieee Go.Ev
set_option linter.unusedSimpArgs false

theorem V_base {f : Format} {w : Nat} {s : Bool} {m : Nat} {e : Int} (h : f.read w = .number s m e) {b : Int} (hb : f.leastPlace ≤ b) (hbe : b ≤ e) :
    V f w = signed s m (e - b).toNat * 2 ^ (b - f.leastPlace).toNat := by
  rw [V_of h, show (e - f.leastPlace).toNat = (e - b).toNat + (b - f.leastPlace).toNat from by omega, signed_mul]

/-- The same value at the place of its own. -/
theorem q_base (f : Format) (x : Int) {b : Int} (hb : f.leastPlace ≤ b) : q f (x * 2 ^ (b - f.leastPlace).toNat) f.leastPlace = q f x b := by
  have := q_shift f x b (b - f.leastPlace).toNat
  rwa [show b - ((b - f.leastPlace).toNat : Int) = f.leastPlace from by omega] at this

theorem sum_q (f : Format) {s t : Bool} {m n : Nat} {i j : Int} (hi : f.leastPlace ≤ i) (hj : f.leastPlace ≤ j)
    (hz : (s && t) = false ∨ signed s m (i - f.leastPlace).toNat + signed t n (j - f.leastPlace).toNat ≠ 0) :
    ((Datum.number s m i).sum (Datum.number t n j)).map f.write = some (q f (signed s m (i - f.leastPlace).toNat + signed t n (j - f.leastPlace).toNat) f.leastPlace) := by
  simp only [Datum.sum, Option.map_some]
  congr 1
  generalize hb : min i j = b
  have hb1 : b ≤ i := by omega
  have hb2 : b ≤ j := by omega
  have hb3 : f.leastPlace ≤ b := by omega
  have h1 : signed s m (i - f.leastPlace).toNat + signed t n (j - f.leastPlace).toNat = (signed s m (i - b).toNat + signed t n (j - b).toNat) * 2 ^ (b - f.leastPlace).toNat := by
    rw [show (i - f.leastPlace).toNat = (i - b).toNat + (b - f.leastPlace).toNat from by omega, show (j - f.leastPlace).toNat = (j - b).toNat + (b - f.leastPlace).toNat from by omega, signed_mul, signed_mul, Int.add_mul]
  rw [h1, q_base f _ hb3]
  rw [h1] at hz
  generalize signed s m (i - b).toNat + signed t n (j - b).toNat = x at hz ⊢
  show f.nearest _ _ _ = f.nearest _ _ _
  congr 1
  by_cases hx : x = 0
  · subst hx
    rcases hz with hz | hz
    · simp [hz]
    · simp at hz
  · simp [hx]

theorem add_eq {f : Format} {x y : Nat} (hx : Fin f x) (hy : Fin f y) (hz : Pos f x ∨ Pos f y ∨ V f x + V f y ≠ 0) : f.add x y = some (q f (V f x + V f y) f.leastPlace) := by
  obtain ⟨s, m, i, h1⟩ := hx
  obtain ⟨t, n, j, h2⟩ := hy
  unfold Format.add
  rw [V_of h1, V_of h2] at hz ⊢
  rw [h1, h2]
  refine sum_q f (read_place h1) (read_place h2) ?_
  rcases hz with hz | hz | hz
  · left; simp only [Pos, h1, Datum.neg] at hz; simp [hz]
  · left; simp only [Pos, h2, Datum.neg] at hz; simp [hz]
  · exact .inr hz

theorem signed_opposite (t : Bool) (n k : Nat) : signed (!t) n k = - signed t n k := by
  cases t <;> simp [signed]

theorem sub_eq {f : Format} {x y : Nat} (hx : Fin f x) (hy : Fin f y) (hz : Pos f x ∨ ¬ Pos f y ∨ V f x - V f y ≠ 0) : f.sub x y = some (q f (V f x - V f y) f.leastPlace) := by
  obtain ⟨s, m, i, h1⟩ := hx
  obtain ⟨t, n, j, h2⟩ := hy
  unfold Format.sub
  rw [V_of h1, V_of h2] at hz ⊢
  rw [h1, h2]
  have := sum_q f (s := s) (t := !t) (m := m) (n := n) (read_place h1) (read_place h2) (by
    rcases hz with hz | hz | hz
    · left; simp only [Pos, h1, Datum.neg] at hz; simp [hz]
    · left; simp only [Pos, h2, Datum.neg] at hz; simp at hz; simp [hz]
    · right; rw [signed_opposite, ← Int.sub_eq_add_neg]; exact hz)
  rw [signed_opposite, ← Int.sub_eq_add_neg] at this
  exact this

theorem signed_prod (s t : Bool) (m n a b : Nat) : signed s m a * signed t n b = signed (s ^^ t) (m * n) (a + b) := by
  unfold signed
  simp only [Nat.shiftLeft_eq, Nat.pow_add]
  have h : m * 2 ^ a * (n * 2 ^ b) = m * n * (2 ^ a * 2 ^ b) := by
    simp only [Nat.mul_assoc, Nat.mul_left_comm]
  cases s <;> cases t <;> simp only [Bool.false_eq_true, if_false, if_true, Bool.xor_false, Bool.xor_true, Bool.not_false, Bool.not_true, Bool.false_xor, Bool.true_xor, Int.neg_mul, Int.mul_neg, Int.neg_neg, ← Int.natCast_mul, h]

theorem signed_natAbs (s : Bool) (m : Nat) : (signed s m 0).natAbs = m := by
  rw [signed_zero]; cases s <;> simp

theorem mul_eq {f : Format} {x y : Nat} (hx : Fin f x) (hy : Fin f y) (hz : (Pos f x ↔ Pos f y) ∨ V f x * V f y ≠ 0) : f.mul x y = some (q f (V f x * V f y) (2 * f.leastPlace)) := by
  obtain ⟨s, m, i, h1⟩ := hx
  obtain ⟨t, n, j, h2⟩ := hy
  unfold Format.mul
  have p1 := read_place h1
  have p2 := read_place h2
  rw [V_of h1, V_of h2] at hz ⊢
  rw [h1, h2]
  simp only [Datum.product, Option.map_some]
  congr 1
  rw [signed_prod] at hz ⊢
  have hs : signed (s ^^ t) (m * n) ((i - f.leastPlace).toNat + (j - f.leastPlace).toNat) = signed (s ^^ t) (m * n) 0 * 2 ^ ((i - f.leastPlace).toNat + (j - f.leastPlace).toNat) := by
    rw [← signed_mul, Nat.zero_add]
  rw [hs] at hz ⊢
  have hq := q_shift f (signed (s ^^ t) (m * n) 0) (i + j) ((i - f.leastPlace).toNat + (j - f.leastPlace).toNat)
  rw [show i + j - (((i - f.leastPlace).toNat + (j - f.leastPlace).toNat : Nat) : Int) = 2 * f.leastPlace from by omega] at hq
  rw [hq]
  show f.nearest _ _ _ = f.nearest _ _ _
  rw [signed_natAbs]
  congr 1
  rw [signed_zero] at hz ⊢
  cases hst : s ^^ t with
  | false =>
    have : ¬ ((m : Int) * n < 0) := by have := Int.mul_nonneg (Int.natCast_nonneg m) (Int.natCast_nonneg n); omega
    simp [this]
  | true =>
    simp only [if_true]
    rcases hz with hz | hz
    · exfalso
      simp only [Pos, h1, h2, Datum.neg] at hz
      cases s <;> cases t <;> simp at hst hz
    · have : m * n ≠ 0 := by
        intro e; rw [e] at hz; simp at hz
      simp; omega

theorem cmp_lt {a b : Int} (h : a < b) : compare a b = .lt := by simp [compare, compareOfLessAndEq, h]
theorem cmp_eq {a b : Int} (h : a = b) : compare a b = .eq := by subst h; simp [compare, compareOfLessAndEq]
theorem cmp_gt {a b : Int} (h : b < a) : compare a b = .gt := by
  have h1 : ¬ a < b := by omega
  have h2 : a ≠ b := by omega
  simp [compare, compareOfLessAndEq, h1, h2]

theorem compare_mul (a b : Int) (k : Nat) : compare (a * 2 ^ k) (b * 2 ^ k) = compare a b := by
  have hp := pow_pos' k
  rcases Int.lt_trichotomy a b with h | h | h
  · rw [cmp_lt h, cmp_lt (Int.mul_lt_mul_of_pos_right h hp)]
  · subst h; rw [cmp_eq rfl, cmp_eq rfl]
  · rw [cmp_gt h, cmp_gt (Int.mul_lt_mul_of_pos_right h hp)]

theorem order_eq {f : Format} {x y : Nat} (hx : Fin f x) (hy : Fin f y) : f.order x y = some (compare (V f x) (V f y)) := by
  obtain ⟨s, m, i, h1⟩ := hx
  obtain ⟨t, n, j, h2⟩ := hy
  unfold Format.order
  have p1 := read_place h1
  have p2 := read_place h2
  rw [V_base h1 (b := min i j) (by omega) (by omega), V_base h2 (b := min i j) (by omega) (by omega), compare_mul]
  rw [h1, h2]
  rfl

/-! ### The evaluator's operations -/

variable {k : FloatKind} {x y : Nat}

theorem fadd_eq (hx : Fin k.format x) (hy : Fin k.format y) (hz : Pos k.format x ∨ Pos k.format y ∨ V k.format x + V k.format y ≠ 0) : fadd k x y = q k.format (V k.format x + V k.format y) k.format.leastPlace := by
  unfold fadd; rw [add_eq hx hy hz]; rfl
theorem fsub_eq (hx : Fin k.format x) (hy : Fin k.format y) (hz : Pos k.format x ∨ ¬ Pos k.format y ∨ V k.format x - V k.format y ≠ 0) : fsub k x y = q k.format (V k.format x - V k.format y) k.format.leastPlace := by
  unfold fsub; rw [sub_eq hx hy hz]; rfl
theorem fmul_eq (hx : Fin k.format x) (hy : Fin k.format y) (hz : (Pos k.format x ↔ Pos k.format y) ∨ V k.format x * V k.format y ≠ 0) : fmul k x y = q k.format (V k.format x * V k.format y) (2 * k.format.leastPlace) := by
  unfold fmul; rw [mul_eq hx hy hz]; rfl

theorem flt_eq (hx : Fin k.format x) (hy : Fin k.format y) : Ev.flt k x y = decide (V k.format x < V k.format y) := by
  unfold Ev.flt; rw [order_eq hx hy]
  rcases Int.lt_trichotomy (V k.format x) (V k.format y) with h | h | h
  · rw [cmp_lt h]; simp [h]
  · rw [cmp_eq h]; simp [h]
  · rw [cmp_gt h]; simp; omega
theorem fle_eq (hx : Fin k.format x) (hy : Fin k.format y) : fle k x y = decide (V k.format x ≤ V k.format y) := by
  unfold fle; rw [order_eq hx hy]
  rcases Int.lt_trichotomy (V k.format x) (V k.format y) with h | h | h
  · rw [cmp_lt h]; simp; omega
  · rw [cmp_eq h]; simp [h]
  · rw [cmp_gt h]; simp; omega
theorem fgt_eq (hx : Fin k.format x) (hy : Fin k.format y) : fgt k x y = decide (V k.format x > V k.format y) := by
  unfold fgt; rw [order_eq hx hy]
  rcases Int.lt_trichotomy (V k.format x) (V k.format y) with h | h | h
  · rw [cmp_lt h]; simp; omega
  · rw [cmp_eq h]; simp [h]
  · rw [cmp_gt h]; simp; omega
theorem fge_eq (hx : Fin k.format x) (hy : Fin k.format y) : fge k x y = decide (V k.format x ≥ V k.format y) := by
  unfold fge; rw [order_eq hx hy]
  rcases Int.lt_trichotomy (V k.format x) (V k.format y) with h | h | h
  · rw [cmp_lt h]; simp; omega
  · rw [cmp_eq h]; simp [h]
  · rw [cmp_gt h]; simp; omega
theorem feq_eq (hx : Fin k.format x) (hy : Fin k.format y) : feq k x y = decide (V k.format x = V k.format y) := by
  unfold feq; rw [order_eq hx hy]
  rcases Int.lt_trichotomy (V k.format x) (V k.format y) with h | h | h
  · rw [cmp_lt h]; simp; omega
  · rw [cmp_eq h]; simp [h]
  · rw [cmp_gt h]; simp; omega
theorem fne_eq (hx : Fin k.format x) (hy : Fin k.format y) : fne k x y = decide (V k.format x ≠ V k.format y) := by
  have h := feq_eq hx hy
  have e : fne k x y = !(feq k x y) := rfl
  rw [e, h, decide_not]

theorem fmax_eq (hx : Fin k.format x) (hy : Fin k.format y) : Fin k.format (fmax k x y) ∧ V k.format (fmax k x y) = max (V k.format x) (V k.format y) := by
  unfold fmax; rw [order_eq hx hy]
  rcases Int.lt_trichotomy (V k.format x) (V k.format y) with h | h | h
  · rw [cmp_lt h]; exact ⟨hy, by simp only; omega⟩
  · rw [cmp_eq h]
    simp only
    split
    · exact ⟨hy, by omega⟩
    · exact ⟨hx, by omega⟩
  · rw [cmp_gt h]; exact ⟨hx, by simp only; omega⟩

/-- The sign turned. -/
theorem read_neg {f : Format} {w w' : Nat} (h1 : (w' / f.signWeight % 2 == 1) = !(w / f.signWeight % 2 == 1)) (h2 : w' % f.signWeight = w % f.signWeight) {s : Bool} {m : Nat} {e : Int} (hr : f.read w = .number s m e) : f.read w' = .number (!s) m e := by
  unfold Format.read at hr ⊢
  simp only [h1, h2] at hr ⊢
  split at hr
  · rename_i g; rw [if_pos g]; cases hr; rfl
  · rename_i g
    rw [if_neg g]
    split at hr
    · rename_i g2; rw [if_pos g2]; cases hr; rfl
    · split at hr <;> cases hr

theorem xor_bit (x n : Nat) : ((x ^^^ 2 ^ n) / 2 ^ n % 2 == 1) = !(x / 2 ^ n % 2 == 1) := by
  have h1 : ((x ^^^ 2 ^ n).testBit n) = !(x.testBit n) := by
    rw [Nat.testBit_xor, Nat.testBit_two_pow_self]; cases x.testBit n <;> rfl
  rw [Nat.testBit_eq_decide_div_mod_eq, Nat.testBit_eq_decide_div_mod_eq] at h1
  exact h1

theorem xor_low (x n : Nat) : (x ^^^ 2 ^ n) % 2 ^ n = x % 2 ^ n := by
  rw [Nat.xor_mod_two_pow]; simp

theorem notNaN_of_fin (hx : Fin k.format x) : isNaNW k x = false := by
  obtain ⟨s, m, e, h⟩ := hx
  unfold isNaNW; rw [h]; rfl

theorem can_of_fin (hx : Fin k.format x) : can k x = x := can_of_not (notNaN_of_fin hx)

theorem fneg_eq (hx : Fin k.format x) : Fin k.format (fneg k x) ∧ V k.format (fneg k x) = - V k.format x ∧ (Pos k.format (fneg k x) ↔ ¬ Pos k.format x) := by
  have hn := notNaN_of_fin hx
  obtain ⟨s, m, e, h⟩ := hx
  have hw : fneg k x = Op.negFloat k x := by unfold fneg; rw [hn]; rfl
  rw [hw]
  have h2 := read_neg (f := k.format) (w := x) (w' := Op.negFloat k x) (xor_bit _ _) (xor_low _ _) h
  refine ⟨⟨_, _, _, h2⟩, by rw [V_of h2, V_of h, signed_opposite], ?_⟩
  simp only [Pos, h2, h, Datum.neg]; cases s <;> simp

theorem V_zero (f : Format) (hf : 0 < f.infRung) : V f 0 = 0 ∧ Fin f 0 ∧ Pos f 0 := by
  have := read_word f false 0 hf
  rw [show f.word false 0 = 0 from rfl, if_pos (show 0 < f.binade from Nat.two_pow_pos _)] at this
  exact ⟨by rw [V_of this]; simp [signed], ⟨_, _, _, this⟩, by simp [Pos, this, Datum.neg]⟩

theorem itof_eq (n : Int) : itof k n = q k.format n 0 := rfl

end Go.Fl

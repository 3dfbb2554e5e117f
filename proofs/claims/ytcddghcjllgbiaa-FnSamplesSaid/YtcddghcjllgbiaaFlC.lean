/-
  Exact arithmetic: whole numbers at a scale of halves.
-/
import Derived.Test.YtcddghcjllgbiaaFlB
namespace Go.Fl
open Ieee Go.Ev
set_option linter.unusedSimpArgs false

/-- m / 2 ^ s as a word. -/
def Q (k : FloatKind) (m : Int) (s : Nat) : Nat := q k.format m (-(s : Int))

/-- Whole numbers below this are words. -/
def top : FloatKind → Nat
  | .f32 => 16777216
  | .f64 => 9007199254740992

def depth : FloatKind → Nat
  | .f32 => 149
  | .f64 => 1074

theorem least (k : FloatKind) : k.format.leastPlace = -(depth k : Int) := by cases k <;> rfl

theorem V_Q {k : FloatKind} {m : Int} {s : Nat} (hm : m.natAbs < top k) (hs : s ≤ 149) : V k.format (Q k m s) = m * 2 ^ (depth k - s) ∧ Fin k.format (Q k m s) ∧ (Pos k.format (Q k m s) ↔ 0 ≤ m) := by
  have hd : s ≤ depth k := by cases k <;> simp [depth] <;> omega
  have hl : ((-(s : Int)) - k.format.leastPlace).toNat = depth k - s := by rw [least]; omega
  obtain ⟨h1, h2, h3⟩ := V_q k.format m (-(s : Int)) (by cases k <;> exact hm) (by rw [least]; omega) (by rw [hl]; cases k <;> simp [depth, FloatKind.format, single, double] <;> omega)
  rw [hl] at h1
  refine ⟨h1, h2, ?_⟩
  show (k.format.read _).neg = false ↔ _
  unfold Q
  rw [h3, decide_eq_false_iff_not]; omega

theorem q_least (k : FloatKind) (x : Int) (s : Nat) (hs : s ≤ depth k) : q k.format (x * 2 ^ (depth k - s)) k.format.leastPlace = Q k x s := by
  have := q_base k.format x (b := -(s : Int)) (by rw [least]; omega)
  rw [show ((-(s : Int)) - k.format.leastPlace).toNat = depth k - s from by rw [least]; omega] at this
  exact this

variable {k : FloatKind} {m n : Int} {s t : Nat}

theorem le_depth (hs : s ≤ 149) : s ≤ depth k := by cases k <;> simp [depth] <;> omega

theorem add_Q (hm : m.natAbs < top k) (hn : n.natAbs < top k) (hs : s ≤ 149) : fadd k (Q k m s) (Q k n s) = Q k (m + n) s := by
  obtain ⟨a1, a2, a3⟩ := V_Q hm hs
  obtain ⟨b1, b2, b3⟩ := V_Q hn hs
  rw [fadd_eq a2 b2, a1, b1, ← Int.add_mul, q_least k _ s (le_depth hs)]
  rw [a1, b1, a3, b3, ← Int.add_mul]
  by_cases h1 : 0 ≤ m
  · exact .inl h1
  · by_cases h2 : 0 ≤ n
    · exact .inr (.inl h2)
    · right; right
      have := pow_pos' (depth k - s)
      have := Int.mul_neg_of_neg_of_pos (show m + n < 0 by omega) this
      omega

theorem sub_Q (hm : m.natAbs < top k) (hn : n.natAbs < top k) (hs : s ≤ 149) : fsub k (Q k m s) (Q k n s) = Q k (m - n) s := by
  obtain ⟨a1, a2, a3⟩ := V_Q hm hs
  obtain ⟨b1, b2, b3⟩ := V_Q hn hs
  rw [fsub_eq a2 b2, a1, b1, ← Int.sub_mul, q_least k _ s (le_depth hs)]
  rw [a1, b1, a3, b3, ← Int.sub_mul]
  by_cases h1 : 0 ≤ m
  · exact .inl h1
  · by_cases h2 : 0 ≤ n
    · right; right
      have := pow_pos' (depth k - s)
      have := Int.mul_neg_of_neg_of_pos (show m - n < 0 by omega) this
      omega
    · exact .inr (.inl h2)

theorem mul_Q (hm : m.natAbs < top k) (hn : n.natAbs < top k) (hs : s ≤ 149) (ht : t ≤ 149) (hz : (0 ≤ m ↔ 0 ≤ n) ∨ m * n ≠ 0) : fmul k (Q k m s) (Q k n t) = Q k (m * n) (s + t) := by
  obtain ⟨a1, a2, a3⟩ := V_Q hm hs
  obtain ⟨b1, b2, b3⟩ := V_Q hn ht
  have hp : m * 2 ^ (depth k - s) * (n * 2 ^ (depth k - t)) = m * n * 2 ^ ((depth k - s) + (depth k - t)) := by
    rw [Int.pow_add]; simp only [Int.mul_assoc, Int.mul_left_comm]
  have e1 := le_depth (k := k) hs
  have e2 := le_depth (k := k) ht
  rw [fmul_eq a2 b2, a1, b1, hp]
  · have := q_shift k.format (m * n) (-((s + t : Nat) : Int)) ((depth k - s) + (depth k - t))
    rw [show -((s + t : Nat) : Int) - ((((depth k - s) + (depth k - t) : Nat)) : Int) = 2 * k.format.leastPlace from by rw [least]; omega] at this
    exact this
  · rw [a1, b1, a3, b3, hp]
    rcases hz with hz | hz
    · exact .inl hz
    · right
      intro h
      rcases Int.mul_eq_zero.mp h with h | h
      · exact hz h
      · have := pow_pos' ((depth k - s) + (depth k - t)); omega

theorem scale_Q (k : FloatKind) (m : Int) (s j : Nat) : Q k (m * 2 ^ j) (s + j) = Q k m s := by
  have := q_shift k.format m (-(s : Int)) j
  rw [show -(s : Int) - (j : Int) = -((s + j : Nat) : Int) from by omega] at this
  exact this

theorem mul_lt_iff (a b : Int) (j : Nat) : (a * 2 ^ j < b * 2 ^ j) = (a < b) := by
  have hp := pow_pos' j
  exact propext (Int.mul_lt_mul_right hp)
theorem mul_eq_iff (a b : Int) (j : Nat) : (a * 2 ^ j = b * 2 ^ j) = (a = b) := by
  have hp := pow_pos' j
  exact propext ⟨fun h => Int.eq_of_mul_eq_mul_right (by omega) h, fun h => by rw [h]⟩

theorem lt_Q (hm : m.natAbs < top k) (hn : n.natAbs < top k) (hs : s ≤ 149) : Ev.flt k (Q k m s) (Q k n s) = decide (m < n) := by
  obtain ⟨a1, a2, _⟩ := V_Q hm hs
  obtain ⟨b1, b2, _⟩ := V_Q hn hs
  rw [flt_eq a2 b2, a1, b1]; simp only [mul_lt_iff]
theorem gt_Q (hm : m.natAbs < top k) (hn : n.natAbs < top k) (hs : s ≤ 149) : fgt k (Q k m s) (Q k n s) = decide (m > n) := by
  obtain ⟨a1, a2, _⟩ := V_Q hm hs
  obtain ⟨b1, b2, _⟩ := V_Q hn hs
  rw [fgt_eq a2 b2, a1, b1]; simp only [GT.gt, mul_lt_iff]
theorem le_Q (hm : m.natAbs < top k) (hn : n.natAbs < top k) (hs : s ≤ 149) : fle k (Q k m s) (Q k n s) = decide (m ≤ n) := by
  obtain ⟨a1, a2, _⟩ := V_Q hm hs
  obtain ⟨b1, b2, _⟩ := V_Q hn hs
  rw [fle_eq a2 b2, a1, b1, decide_eq_decide]
  have := mul_lt_iff n m (depth k - s)
  rw [← Int.not_lt, this]; omega
theorem eq_Q (hm : m.natAbs < top k) (hn : n.natAbs < top k) (hs : s ≤ 149) : feq k (Q k m s) (Q k n s) = decide (m = n) := by
  obtain ⟨a1, a2, _⟩ := V_Q hm hs
  obtain ⟨b1, b2, _⟩ := V_Q hn hs
  rw [feq_eq a2 b2, a1, b1]; simp only [mul_eq_iff]
theorem ne_Q (hm : m.natAbs < top k) (hn : n.natAbs < top k) (hs : s ≤ 149) : fne k (Q k m s) (Q k n s) = decide (m ≠ n) := by
  obtain ⟨a1, a2, _⟩ := V_Q hm hs
  obtain ⟨b1, b2, _⟩ := V_Q hn hs
  rw [fne_eq a2 b2, a1, b1]; simp only [ne_eq, mul_eq_iff]

theorem itof_Q (n : Int) : itof k n = Q k n 0 := rfl

theorem can_Q (hm : m.natAbs < top k) (hs : s ≤ 149) : can k (Q k m s) = Q k m s := can_of_fin (V_Q hm hs).2.1

theorem zero_Q (k : FloatKind) : can k 0 = Q k 0 0 := by cases k <;> decide +kernel
theorem Q_zero (k : FloatKind) (s : Nat) : Q k 0 s = 0 := by
  have : Q k 0 s = k.format.word false 0 := rfl
  rw [this]; rfl

/-- From single to double. -/
theorem conv_Q (hm : m.natAbs < top .f32) (hs : s ≤ 149) : fconv .f32 (Q .f32 m s) .f64 = some (Q .f64 m s) := by
  obtain ⟨m', e', h1, h2, h3⟩ := read_q Ieee.single m (-(s : Int)) hm (by have := least .f32; show Ieee.single.leastPlace ≤ _; rw [show Ieee.single.leastPlace = -149 from rfl]; omega) (by rw [show Ieee.single.leastPlace = -149 from rfl]; simp [single]; omega)
  have hl : Ieee.single.leastPlace = -149 := rfl
  rw [hl] at h2 h3
  have hq : FloatKind.f64.encode (.number (decide (m < 0)) m' e') = Q .f64 m s := by
    show Ieee.double.nearest _ _ _ = _
    have e1 := nearest_shift Ieee.double (decide (m < 0)) m' e' (e' - -149).toNat
    have e2 := nearest_shift Ieee.double (decide (m < 0)) m.natAbs (-(s : Int)) (-(s : Int) - -149).toNat
    rw [show e' - ((e' - -149).toNat : Int) = -149 from by omega, h3] at e1
    rw [show -(s : Int) - ((-(s : Int) - -149).toNat : Int) = -149 from by omega] at e2
    rw [← e1, e2]; rfl
  have hd : FloatKind.f32.decode (Q .f32 m s) = .number (decide (m < 0)) m' e' := h1
  unfold fconv
  rw [if_neg (by decide), hd]
  simp only
  rw [hq]
  have hm2 : m.natAbs < top .f64 := by have : top .f32 < top .f64 := by decide
                                       omega
  obtain ⟨_, ⟨a, b, c, hf⟩, _⟩ := V_Q (k := .f64) hm2 hs
  have : FloatKind.f64.decode (Q .f64 m s) = .number a b c := hf
  rw [this]
  rfl

end Go.Fl

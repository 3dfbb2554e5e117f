/-
  What lies between two numbers: twice as much, if both are twice as great.
-/
import Derived.Test.YtcddghcjllgbiaaFlD
namespace Go.Fl
open Go.Ev Ieee
set_option linter.unusedSimpArgs false
set_option exponentiation.threshold 600

theorem prod_twice {f : Nat} (hf : Fin single f) (hp : Pos single f) (h1 : 2 ^ 25 ≤ V single f) (h2 : V single f ≤ 2 ^ 149) {d : Int} (hd : d.natAbs ≤ 16) :
    V single (fmul .f32 f (Q .f32 (2 * d) 2)) = V single (fmul .f32 f (Q .f32 d 2)) * 2 ∧ Fin single (fmul .f32 f (Q .f32 d 2)) ∧ Fin single (fmul .f32 f (Q .f32 (2 * d) 2)) ∧ (V single (fmul .f32 f (Q .f32 d 2))).natAbs < 2 ^ 190 := by
  have ht : top .f32 = 16777216 := rfl
  obtain ⟨a1, a2, a3⟩ := V_Q (k := .f32) (m := d) (s := 2) (by rw [ht]; omega) (by decide)
  obtain ⟨b1, b2, b3⟩ := V_Q (k := .f32) (m := 2 * d) (s := 2) (by rw [ht]; omega) (by decide)
  have hk : FloatKind.f32.format = single := rfl
  rw [hk] at a1 a2 a3 b1 b2 b3
  have hdep : depth .f32 - 2 = 147 := rfl
  rw [hdep] at a1 b1
  by_cases h0 : d = 0
  · subst h0
    have e : fmul .f32 f (Q .f32 0 2) = q single 0 (2 * single.leastPlace) := by
      rw [fmul_eq (k := .f32) hf a2 (.inl ⟨fun _ => a3.mpr (Int.le_refl _), fun _ => hp⟩), hk, a1]; simp
    obtain ⟨c1, c2, _⟩ := V_q0 single (2 * single.leastPlace) (by decide)
    rw [show (2 * (0 : Int)) = 0 from rfl, e]
    exact ⟨by rw [c1]; rfl, c2, c2, by rw [c1]; decide⟩
  · have hS : V single f * (d * 2 ^ 147) ≠ 0 := by
      intro h
      rcases Int.mul_eq_zero.mp h with h | h
      · omega
      · rcases Int.mul_eq_zero.mp h with h | h
        · exact h0 h
        · exact absurd h (by decide)
    have hn : (V single f * (d * 2 ^ 147)).natAbs = (V single f).natAbs * (d.natAbs * 2 ^ 147) := by
      rw [Int.natAbs_mul, Int.natAbs_mul]; rfl
    have hlow : 2 ^ 172 ≤ (V single f * (d * 2 ^ 147)).natAbs := by
      rw [hn]
      have := Nat.mul_le_mul (show 2 ^ 25 ≤ (V single f).natAbs by omega) (Nat.mul_le_mul (show 1 ≤ d.natAbs by omega) (Nat.le_refl (2 ^ 147)))
      exact this
    have hhigh : (V single f * (d * 2 ^ 147)).natAbs < 2 ^ 320 := by
      rw [hn]
      refine Nat.lt_of_le_of_lt (Nat.mul_le_mul (show (V single f).natAbs ≤ 2 ^ 149 by omega) (Nat.mul_le_mul hd (Nat.le_refl (2 ^ 147)))) (by decide)
    have e1 : fmul .f32 f (Q .f32 d 2) = q single (V single f * (d * 2 ^ 147)) (2 * single.leastPlace) := by
      rw [fmul_eq (k := .f32) hf a2 (.inr (by rw [hk, a1]; exact hS)), hk, a1]
    have hV2 : V single f * (2 * d * 2 ^ 147) = V single f * (d * 2 ^ 147) * 2 := by
      rw [Int.mul_assoc 2 d, Int.mul_left_comm, Int.mul_comm 2]
    have e2 : fmul .f32 f (Q .f32 (2 * d) 2) = q single (V single f * (d * 2 ^ 147) * 2) (2 * single.leastPlace) := by
      rw [fmul_eq (k := .f32) hf b2 (.inr (by rw [hk, b1, hV2]; omega)), hk, b1, hV2]
    obtain ⟨c1, c2, c3, _, _⟩ := V_prod2 _ hS hlow (Nat.lt_of_lt_of_le hhigh (by decide))
    rw [e1, e2]
    exact ⟨c1, c2, c3, prod_bound _ hS hlow hhigh⟩

/-- A number, and a part of the way to another one. -/
theorem between_twice {f : Nat} (hf : Fin single f) (hp : Pos single f) (h1 : 2 ^ 25 ≤ V single f) (h2 : V single f ≤ 2 ^ 149) {p d : Int} (hpp : p.natAbs ≤ 8) (hd : d.natAbs ≤ 16) :
    fne .f32 (fadd .f32 (Q .f32 (2 * p) 2) (fmul .f32 f (Q .f32 (2 * d) 2))) (fmul .f32 (Q .f32 2 0) (fadd .f32 (Q .f32 p 2) (fmul .f32 f (Q .f32 d 2)))) = false := by
  have ht : top .f32 = 16777216 := rfl
  have hk : FloatKind.f32.format = single := rfl
  obtain ⟨m1, m2, m3, m4⟩ := prod_twice hf hp h1 h2 hd
  obtain ⟨a1, a2, a3⟩ := V_Q (k := .f32) (m := p) (s := 2) (by rw [ht]; omega) (by decide)
  obtain ⟨b1, b2, b3⟩ := V_Q (k := .f32) (m := 2 * p) (s := 2) (by rw [ht]; omega) (by decide)
  obtain ⟨c1, c2, c3⟩ := V_Q (k := .f32) (m := 2) (s := 0) (by decide) (by decide)
  rw [hk] at a1 a2 a3 b1 b2 b3 c1 c2 c3
  have hdep : depth .f32 - 2 = 147 := rfl
  have hdep0 : depth .f32 - 0 = 149 := rfl
  rw [hdep] at a1 b1
  rw [hdep0] at c1
  generalize fmul .f32 f (Q .f32 (2 * d) 2) = M2 at *
  generalize fmul .f32 f (Q .f32 d 2) = M1 at *
  have zz : ∀ {x : Int} {M : Nat} {w : Nat}, (Pos single w ↔ 0 ≤ x) → V single w = x * 2 ^ 147 → Pos single w ∨ Pos single M ∨ V single w + V single M ≠ 0 := by
    intro x M w hx hw
    by_cases q1 : 0 ≤ x
    · exact .inl (hx.mpr q1)
    · by_cases q2 : Pos single M
      · exact .inr (.inl q2)
      · right; right
        have := V_neg q2
        rw [hw]; omega
  have e1 : fadd .f32 (Q .f32 p 2) M1 = q single (p * 2 ^ 147 + V single M1) single.leastPlace := by
    rw [fadd_eq (k := .f32) a2 m2 (zz a3 a1), hk, a1]
  have e2 : fadd .f32 (Q .f32 (2 * p) 2) M2 = q single ((p * 2 ^ 147 + V single M1) * 2) single.leastPlace := by
    rw [fadd_eq (k := .f32) b2 m3 (zz b3 b1), hk, b1, m1]
    congr 1
    omega
  have hS : (p * 2 ^ 147 + V single M1).natAbs < 2 ^ 200 := by omega
  obtain ⟨s1, s2, s3, s4, s5, s6⟩ := V_sum2 _ hS
  rw [e1, e2]
  generalize q single (p * 2 ^ 147 + V single M1) single.leastPlace = A1 at *
  generalize q single ((p * 2 ^ 147 + V single M1) * 2) single.leastPlace = A2 at *
  have hz : (Pos single (Q .f32 2 0) ↔ Pos single A1) ∨ V single (Q .f32 2 0) * V single A1 ≠ 0 := by
    by_cases q1 : p * 2 ^ 147 + V single M1 = 0
    · exact .inl ⟨fun _ => s4 q1, fun _ => c3.mpr (by decide)⟩
    · refine .inr ?_
      intro h
      rcases Int.mul_eq_zero.mp h with h | h
      · rw [c1] at h; exact absurd h (by decide)
      · exact s5 q1 h
  have e3 : fmul .f32 (Q .f32 2 0) A1 = q single (V single A1 * 2) single.leastPlace := by
    rw [fmul_eq (k := .f32) c2 s2 hz, hk, c1]
    have hs := q_shift single (V single A1 * 2) single.leastPlace 149
    rw [show single.leastPlace - ((149 : Nat) : Int) = 2 * single.leastPlace from rfl] at hs
    rw [← hs]
    congr 1
    rw [Int.mul_comm (2 * 2 ^ 149), Int.mul_assoc]
  obtain ⟨t1, t2⟩ := V_twice s2 s6
  rw [e3, fne_eq (k := .f32) s3 t2, hk, s1, t1]
  simp

end Go.Fl

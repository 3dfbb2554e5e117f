/-
  Twice as much, rounded, is twice what is rounded.
-/
import Derived.Test.YtcddghcjllgbiaaFlC
namespace Go.Fl
open Go.Ev Ieee
set_option linter.unusedSimpArgs false

/-- What a rounded number is worth. -/
theorem V_near (f : Format) (x e : Int) (hx : x ≠ 0) (hr : (lastOf f x.natAbs e - f.leastPlace).toNat + 2 < 2 ^ f.exponentBits - 1) :
    V f (q f x e) = signed (decide (x < 0)) (keptOf f (decide (x < 0)) x.natAbs e) (lastOf f x.natAbs e - f.leastPlace).toNat ∧ Fin f (q f x e) ∧ (Pos f (q f x e) ↔ 0 ≤ x) := by
  have hm : x.natAbs ≠ 0 := by omega
  obtain ⟨k1, _⟩ := kept_bounds f (decide (x < 0)) x.natAbs e hm
  have hB : 0 < f.binade := Nat.two_pow_pos _
  have hr2 : (lastOf f x.natAbs e - f.leastPlace).toNat * f.binade + keptOf f (decide (x < 0)) x.natAbs e < f.infRung := by
    unfold Format.infRung
    have h2 := Nat.mul_lt_mul_of_pos_right hr hB
    rw [Nat.add_mul] at h2
    omega
  obtain ⟨m', e', h1, h2, h3⟩ := read_nearest f (decide (x < 0)) x.natAbs e hm hr2
  refine ⟨?_, ⟨_, _, _, h1⟩, ?_⟩
  · show V f (f.nearest _ _ _) = _
    rw [V_of h1]
    unfold signed
    rw [Nat.shiftLeft_eq, h3, Nat.shiftLeft_eq]
  · show (f.read (f.nearest _ _ _)).neg = false ↔ _
    rw [h1]
    show decide (x < 0) = false ↔ _
    rw [decide_eq_false_iff_not]; omega

/-- One place higher. -/
theorem V_up (f : Format) (x e : Int) (hx : x ≠ 0) (hun : f.leastPlace ≤ e + x.natAbs.log2 - f.fractionBits) (hr : (e + x.natAbs.log2 - f.fractionBits + 1 - f.leastPlace).toNat + 2 < 2 ^ f.exponentBits - 1) :
    V f (q f x (e + 1)) = V f (q f x e) * 2 ∧ Fin f (q f x e) ∧ Fin f (q f x (e + 1)) ∧ (Pos f (q f x e) ↔ 0 ≤ x) ∧ (Pos f (q f x (e + 1)) ↔ 0 ≤ x) := by
  have l0 : lastOf f x.natAbs e = e + x.natAbs.log2 - f.fractionBits := by unfold lastOf; omega
  have l1 : lastOf f x.natAbs (e + 1) = e + x.natAbs.log2 - f.fractionBits + 1 := by unfold lastOf; omega
  obtain ⟨a1, a2, a3⟩ := V_near f x e hx (by rw [l0]; omega)
  obtain ⟨b1, b2, b3⟩ := V_near f x (e + 1) hx (by rw [l1]; omega)
  refine ⟨?_, a2, b2, a3, b3⟩
  rw [a1, b1]
  have hk : keptOf f (decide (x < 0)) x.natAbs (e + 1) = keptOf f (decide (x < 0)) x.natAbs e := by
    unfold keptOf
    rw [l0, l1]
    rw [show (e + 1 - (e + x.natAbs.log2 - f.fractionBits + 1)) = e - (e + x.natAbs.log2 - f.fractionBits) from by omega,
      show (e + x.natAbs.log2 - f.fractionBits + 1 - (e + 1)) = e + x.natAbs.log2 - f.fractionBits - e from by omega]
  rw [hk, l0, l1, show (e + x.natAbs.log2 - f.fractionBits + 1 - f.leastPlace).toNat = (e + x.natAbs.log2 - f.fractionBits - f.leastPlace).toNat + 1 from by omega, signed_mul]
  rfl

theorem q_zero (f : Format) (e : Int) : q f 0 e = f.word false 0 := rfl

theorem V_q0 (f : Format) (e : Int) (hf : 0 < f.infRung) : V f (q f 0 e) = 0 ∧ Fin f (q f 0 e) ∧ Pos f (q f 0 e) := by
  have : f.word false 0 = 0 := rfl
  rw [q_zero, this]; exact V_zero f hf

/-- A sum of twice as much. -/
theorem V_sum2 (S : Int) (hS : S.natAbs < 2 ^ 200) :
    V single (q single (S * 2) single.leastPlace) = V single (q single S single.leastPlace) * 2 ∧ Fin single (q single S single.leastPlace) ∧ Fin single (q single (S * 2) single.leastPlace) ∧
    (S = 0 → Pos single (q single S single.leastPlace)) ∧ (S ≠ 0 → V single (q single S single.leastPlace) ≠ 0) ∧ (V single (q single S single.leastPlace)).natAbs < 2 ^ 210 := by
  have hl : single.leastPlace = -149 := rfl
  have hfb : single.fractionBits = 23 := rfl
  have heb : single.exponentBits = 8 := rfl
  by_cases h0 : S = 0
  · subst h0
    obtain ⟨a, b, c⟩ := V_q0 single single.leastPlace (by decide)
    rw [Int.zero_mul]
    exact ⟨by rw [a]; rfl, b, b, fun _ => c, fun h => absurd rfl h, by rw [a]; decide⟩
  · have hm : S.natAbs ≠ 0 := by omega
    rcases Nat.lt_or_ge S.natAbs.log2 23 with g | g
    · have hlt : S.natAbs < 2 ^ 23 := (Nat.log2_lt hm).mp g
      have h1 := V_q single S single.leastPlace (by rw [hfb]; omega) (Int.le_refl _) (by rw [heb]; simp)
      have h2 := V_q single (S * 2) single.leastPlace (by rw [hfb, Int.natAbs_mul, show Int.natAbs 2 = 2 from rfl]; omega) (Int.le_refl _) (by rw [heb]; simp)
      have e0 : (single.leastPlace - single.leastPlace).toNat = 0 := by omega
      rw [e0] at h1 h2
      refine ⟨?_, h1.2.1, h2.2.1, fun h => absurd h h0, fun _ => ?_, ?_⟩
      · rw [h1.1, h2.1]; simp
      · rw [h1.1]; simpa using h0
      · rw [h1.1]; simp only [Int.pow_zero, Int.mul_one]; omega
    · have hlog : S.natAbs.log2 < 200 := (Nat.log2_lt hm).mpr hS
      obtain ⟨a, b, c, _, _⟩ := V_up single S single.leastPlace h0 (by rw [hfb]; omega) (by rw [hfb, heb, hl]; omega)
      have hs := q_shift single S (single.leastPlace + 1) 1
      rw [show single.leastPlace + 1 - ((1 : Nat) : Int) = single.leastPlace from by omega, Int.pow_one] at hs
      rw [hs]
      have hlast : lastOf single S.natAbs single.leastPlace = single.leastPlace + S.natAbs.log2 - single.fractionBits := by unfold lastOf; rw [hfb]; omega
      obtain ⟨k1, _⟩ := kept_bounds single (decide (S < 0)) S.natAbs single.leastPlace hm
      obtain ⟨v1, _, _⟩ := V_near single S single.leastPlace h0 (by rw [hlast, hfb, heb, hl]; omega)
      have k2 : single.binade ≤ keptOf single (decide (S < 0)) S.natAbs single.leastPlace := by
        rcases Nat.eq_or_lt_of_le g with z | z
        · -- the last place is the least one: what is kept is the number
          unfold keptOf
          rw [hlast, hfb, ← z, show (single.leastPlace - (single.leastPlace + ((23 : Nat) : Int) - ((23 : Nat) : Int))).toNat = 0 from by omega, show (single.leastPlace + ((23 : Nat) : Int) - ((23 : Nat) : Int) - single.leastPlace).toNat = 0 from by omega, cut_zero]
          have := Nat.log2_self_le hm
          rw [← z] at this
          rw [Nat.shiftLeft_eq, Nat.pow_zero, Nat.mul_one]; exact this
        · exact (kept_bounds single (decide (S < 0)) S.natAbs single.leastPlace hm).2 (by rw [hlast, hfb]; omega)
      have hnat : (V single (q single S single.leastPlace)).natAbs = keptOf single (decide (S < 0)) S.natAbs single.leastPlace * 2 ^ (lastOf single S.natAbs single.leastPlace - single.leastPlace).toNat := by
        rw [v1]; unfold signed
        split <;> simp [Nat.shiftLeft_eq, Int.natAbs_mul, Int.natAbs_pow]
      have hB : single.binade = 2 ^ 23 := rfl
      refine ⟨a, b, c, fun h => absurd h h0, fun _ hz => ?_, ?_⟩
      · rw [hz] at hnat
        have : 0 < keptOf single (decide (S < 0)) S.natAbs single.leastPlace * 2 ^ (lastOf single S.natAbs single.leastPlace - single.leastPlace).toNat := Nat.mul_pos (by omega) (Nat.two_pow_pos _)
        simp at hnat; omega
      · rw [hnat]
        refine Nat.lt_of_le_of_lt (Nat.mul_le_mul k1 (Nat.pow_le_pow_right (by decide) (show (lastOf single S.natAbs single.leastPlace - single.leastPlace).toNat ≤ 177 by rw [hlast, hfb]; omega))) ?_
        rw [hB]; decide

/-- A product of twice as much. -/
theorem V_prod2 (S : Int) (h0 : S ≠ 0) (h1 : 2 ^ 172 ≤ S.natAbs) (h2 : S.natAbs < 2 ^ 400) :
    V single (q single (S * 2) (2 * single.leastPlace)) = V single (q single S (2 * single.leastPlace)) * 2 ∧ Fin single (q single S (2 * single.leastPlace)) ∧ Fin single (q single (S * 2) (2 * single.leastPlace)) ∧
    (Pos single (q single S (2 * single.leastPlace)) ↔ 0 ≤ S) ∧ (Pos single (q single (S * 2) (2 * single.leastPlace)) ↔ 0 ≤ S) := by
  have hl : single.leastPlace = -149 := rfl
  have hfb : single.fractionBits = 23 := rfl
  have heb : single.exponentBits = 8 := rfl
  have hm : S.natAbs ≠ 0 := by omega
  have g1 : 172 ≤ S.natAbs.log2 := (Nat.le_log2 hm).mpr h1
  have g2 : S.natAbs.log2 < 400 := (Nat.log2_lt hm).mpr h2
  have hs := q_shift single S (2 * single.leastPlace + 1) 1
  rw [show 2 * single.leastPlace + 1 - ((1 : Nat) : Int) = 2 * single.leastPlace from by omega, Int.pow_one] at hs
  rw [hs]
  exact V_up single S (2 * single.leastPlace) h0 (by rw [hfb, hl]; omega) (by rw [hfb, heb, hl]; omega)

theorem prod_bound (S : Int) (h0 : S ≠ 0) (h1 : 2 ^ 172 ≤ S.natAbs) (h2 : S.natAbs < 2 ^ 320) : (V single (q single S (2 * single.leastPlace))).natAbs < 2 ^ 190 := by
  have hl : single.leastPlace = -149 := rfl
  have hfb : single.fractionBits = 23 := rfl
  have heb : single.exponentBits = 8 := rfl
  have hm : S.natAbs ≠ 0 := by omega
  have g1 : 172 ≤ S.natAbs.log2 := (Nat.le_log2 hm).mpr h1
  have g2 : S.natAbs.log2 < 320 := (Nat.log2_lt hm).mpr h2
  have hlast : lastOf single S.natAbs (2 * single.leastPlace) = 2 * single.leastPlace + S.natAbs.log2 - single.fractionBits := by unfold lastOf; rw [hfb, hl]; omega
  obtain ⟨k1, _⟩ := kept_bounds single (decide (S < 0)) S.natAbs (2 * single.leastPlace) hm
  obtain ⟨v1, _, _⟩ := V_near single S (2 * single.leastPlace) h0 (by rw [hlast, hfb, heb, hl]; omega)
  have hnat : (V single (q single S (2 * single.leastPlace))).natAbs = keptOf single (decide (S < 0)) S.natAbs (2 * single.leastPlace) * 2 ^ (lastOf single S.natAbs (2 * single.leastPlace) - single.leastPlace).toNat := by
    rw [v1]; unfold signed
    split <;> simp [Nat.shiftLeft_eq, Int.natAbs_mul, Int.natAbs_pow]
  rw [hnat]
  refine Nat.lt_of_le_of_lt (Nat.mul_le_mul k1 (Nat.pow_le_pow_right (by decide) (show (lastOf single S.natAbs (2 * single.leastPlace) - single.leastPlace).toNat ≤ 148 by rw [hlast, hfb, hl]; omega))) ?_
  rw [show single.binade = 2 ^ 23 from rfl]; decide

theorem read_mant {f : Format} {w : Nat} {s : Bool} {m : Nat} {e : Int} (h : f.read w = .number s m e) : m < 2 * f.binade := by
  have hB : 0 < f.binade := Nat.two_pow_pos _
  unfold Format.read at h
  simp only at h
  split at h
  · cases h; omega
  · split at h
    · cases h
      have := Nat.mod_lt (w % f.signWeight) hB
      omega
    · split at h <;> cases h

/-- Twice a word is a word. -/
theorem V_twice {w : Nat} (hw : Fin single w) (hb : (V single w).natAbs < 2 ^ 210) : V single (q single (V single w * 2) single.leastPlace) = V single w * 2 ∧ Fin single (q single (V single w * 2) single.leastPlace) := by
  obtain ⟨s, m, e, hr⟩ := hw
  have hp := read_place hr
  have hm := read_mant hr
  have hB : single.binade = 2 ^ 23 := rfl
  have hV := V_of hr
  by_cases h0 : m = 0
  · have : V single w = 0 := by rw [hV, h0]; unfold signed; cases s <;> simp
    rw [this]
    obtain ⟨a, b, _⟩ := V_q0 single single.leastPlace (by decide)
    rw [Int.zero_mul]; exact ⟨by rw [a], b⟩
  · have hnat : (V single w).natAbs = m * 2 ^ (e - single.leastPlace).toNat := by
      rw [hV]; unfold signed
      cases s <;> simp [Nat.shiftLeft_eq, Int.natAbs_mul, Int.natAbs_pow]
    have he : (e - single.leastPlace).toNat < 210 := by
      have h1 : 2 ^ (e - single.leastPlace).toNat ≤ (V single w).natAbs := by rw [hnat]; exact Nat.le_mul_of_pos_left _ (by omega)
      exact (Nat.pow_lt_pow_iff_right (by decide)).mp (Nat.lt_of_le_of_lt h1 hb)
    have hx : V single w = signed s m 0 * 2 ^ (e - single.leastPlace).toNat := by
      rw [hV]; have := signed_mul s m 0 (e - single.leastPlace).toNat
      rw [Nat.zero_add] at this; exact this
    have hsn : (signed s m 0).natAbs = m := signed_natAbs s m
    have h2 : V single w * 2 = signed s m 0 * 2 ^ ((e + 1) - single.leastPlace).toNat := by
      rw [hx, show ((e + 1) - single.leastPlace).toNat = (e - single.leastPlace).toNat + 1 from by omega, Int.pow_succ, Int.mul_assoc]
    rw [h2, q_base single _ (b := e + 1) (by omega)]
    obtain ⟨a, b, _⟩ := V_q single (signed s m 0) (e + 1) (by rw [hsn]; show m < 2 ^ 24; omega) (by omega) (by show _ + 2 < 2 ^ 8 - 1; omega)
    exact ⟨a, b⟩

theorem signed_le (s : Bool) (m d : Nat) (h : s = true) : signed s m d ≤ 0 := by
  subst h; unfold signed; simp only [if_true]; have := Int.natCast_nonneg (m <<< d); omega

theorem V_neg {f : Format} {w : Nat} (h : ¬ Pos f w) : V f w ≤ 0 := by
  unfold V
  unfold Pos at h
  split
  · rename_i s m e hr
    rw [hr] at h
    refine signed_le _ _ _ ?_
    cases s with
    | true => rfl
    | false => exact absurd rfl h
  · exact Int.le_refl _

end Go.Fl

/-
  Floats as whole numbers at a scale: what a word stands for, and how a number is written.
-/
import Derived.Test.YtcddghcjllgbiaaEvA
namespace Go.Fl
open Ieee
set_option linter.unusedSimpArgs false

/-! ### Cutting digits off -/

theorem log2_mul {n : Nat} (hn : n ≠ 0) (k : Nat) : (n * 2 ^ k).log2 = n.log2 + k := by
  have hp : 0 < 2 ^ k := Nat.two_pow_pos k
  rw [Nat.log2_eq_iff (by rw [Nat.mul_ne_zero_iff]; omega)]
  constructor
  · rw [Nat.pow_add]; exact Nat.mul_le_mul_right _ (Nat.log2_self_le hn)
  · rw [show n.log2 + k + 1 = (n.log2 + 1) + k from by omega, Nat.pow_add]
    exact Nat.mul_lt_mul_of_pos_right Nat.lt_log2_self hp

theorem cut_zero (neg : Bool) (n : Nat) : Toward.even.cut neg n 0 = n := by
  simp [Toward.cut, Nat.mod_one]

theorem cut_shift (neg : Bool) (n k d : Nat) (hn : n ≠ 0) : Toward.even.cut neg (n * 2 ^ k) (d + k) = Toward.even.cut neg n d := by
  have hp : 0 < 2 ^ k := Nat.two_pow_pos k
  have hg : 1 <<< min (d + k) ((n * 2 ^ k).log2 + 2) = (1 <<< min d (n.log2 + 2)) * 2 ^ k := by
    rw [log2_mul hn, show n.log2 + k + 2 = (n.log2 + 2) + k from by omega, Nat.add_min_add_right, Nat.shiftLeft_eq, Nat.shiftLeft_eq, Nat.one_mul, Nat.one_mul, Nat.pow_add]
  unfold Toward.cut
  simp only [hg, Nat.mul_div_mul_right _ _ hp, Nat.mul_mod_mul_right]
  generalize 1 <<< min d (n.log2 + 2) = g
  generalize n % g = r
  have h1 : (decide (g * 2 ^ k < 2 * (r * 2 ^ k))) = decide (g < 2 * r) := by
    rw [← Nat.mul_assoc]
    have : g * 2 ^ k < 2 * r * 2 ^ k ↔ g < 2 * r := Nat.mul_lt_mul_right hp
    simp only [this]
  have h2 : (g * 2 ^ k == 2 * (r * 2 ^ k)) = (g == 2 * r) := by
    rw [← Nat.mul_assoc, Bool.eq_iff_iff, beq_iff_eq, beq_iff_eq]
    exact ⟨fun h => Nat.eq_of_mul_eq_mul_right hp h, fun h => by rw [h]⟩
  rw [h1, h2]

/-- What is kept is nearest, to half a unit. -/
theorem cut_bounds (neg : Bool) (n d : Nat) (_hn : n ≠ 0) : 2 * n ≤ 2 * (Toward.even.cut neg n d * 2 ^ d) + 2 ^ d ∧ 2 * (Toward.even.cut neg n d * 2 ^ d) ≤ 2 * n + 2 ^ d := by
  have hlt : n < 2 ^ (n.log2 + 1) := Nat.lt_log2_self
  by_cases hd : d ≤ n.log2 + 2
  · unfold Toward.cut
    simp only [Nat.min_eq_left hd, Nat.shiftLeft_eq, Nat.one_mul]
    have hp : 0 < 2 ^ d := Nat.two_pow_pos d
    generalize 2 ^ d = g at hp ⊢
    have h1 := Nat.div_add_mod n g
    have h2 := Nat.mod_lt n hp
    generalize n / g = low at h1 ⊢
    generalize n % g = rest at h1 h2 ⊢
    cases hm : (decide (g < 2 * rest) || g == 2 * rest && low % 2 == 1) with
    | true =>
      have h3 : g ≤ 2 * rest := by
        simp only [Bool.or_eq_true, decide_eq_true_eq, Bool.and_eq_true, beq_iff_eq] at hm
        omega
      simp only [Bool.toNat_true, Nat.add_mul, Nat.one_mul]
      rw [Nat.mul_comm] at h1
      omega
    | false =>
      have h3 : 2 * rest ≤ g := by
        simp only [Bool.or_eq_false_iff, decide_eq_false_iff_not] at hm
        omega
      simp only [Bool.toNat_false, Nat.add_zero]
      rw [Nat.mul_comm] at h1
      omega
  · have hmin : min d (n.log2 + 2) = n.log2 + 2 := by omega
    have hle : 2 ^ (n.log2 + 2) ≤ 2 ^ d := Nat.pow_le_pow_right (by decide) (by omega)
    have h4 : 2 ^ (n.log2 + 2) = 2 * 2 ^ (n.log2 + 1) := by rw [Nat.pow_succ]; omega
    have h0 : Toward.even.cut neg n d = 0 := by
      unfold Toward.cut
      simp only [hmin, Nat.shiftLeft_eq, Nat.one_mul]
      have hlow : n / 2 ^ (n.log2 + 2) = 0 := Nat.div_eq_of_lt (by omega)
      have hrest : n % 2 ^ (n.log2 + 2) = n := Nat.mod_eq_of_lt (by omega)
      rw [hlow, hrest]
      have e1 : decide (2 ^ (n.log2 + 2) < 2 * n) = false := by simp; omega
      have e2 : (2 ^ (n.log2 + 2) == 2 * n) = false := by simp; omega
      rw [e1, e2]; rfl
    rw [h0]
    omega

/-! ### Writing -/

/-- A number at a scale, written. -/
def q (f : Format) (x e : Int) : Nat := f.nearest (decide (x < 0)) x.natAbs e

theorem nearest_shift (f : Format) (neg : Bool) (mag : Nat) (e : Int) (k : Nat) : f.nearest neg (mag * 2 ^ k) (e - k) = f.nearest neg mag e := by
  by_cases hm : mag = 0
  · subst hm; simp [Format.nearest]
  have hp : 0 < 2 ^ k := Nat.two_pow_pos k
  have hm' : mag * 2 ^ k ≠ 0 := by rw [Nat.mul_ne_zero_iff]; omega
  unfold Format.nearest
  simp only [if_neg hm, if_neg hm']
  have hlast : max (e - k + ((mag * 2 ^ k).log2 : Nat) - f.fractionBits) f.leastPlace = max (e + (mag.log2 : Nat) - f.fractionBits) f.leastPlace := by
    rw [log2_mul hm]; congr 1; omega
  rw [hlast]
  generalize max (e + (mag.log2 : Nat) - f.fractionBits) f.leastPlace = last
  have hk : Toward.even.cut neg ((mag * 2 ^ k) <<< (e - k - last).toNat) (last - (e - k)).toNat = Toward.even.cut neg (mag <<< (e - last).toNat) (last - e).toNat := by
    rw [Nat.shiftLeft_eq, Nat.shiftLeft_eq]
    by_cases h1 : last ≤ e - k
    · have a1 : (last - (e - k)).toNat = 0 := by omega
      have a2 : (last - e).toNat = 0 := by omega
      have a3 : (e - last).toNat = k + (e - k - last).toNat := by omega
      rw [a1, a2, a3, Nat.pow_add, Nat.mul_assoc]
    · have a1 : (e - k - last).toNat = 0 := by omega
      rw [a1, Nat.pow_zero, Nat.mul_one]
      by_cases h2 : last ≤ e
      · have a2 : (last - e).toNat = 0 := by omega
        have a3 : k = (last - (e - k)).toNat + (e - last).toNat := by omega
        rw [a2, cut_zero]
        conv => lhs; rw [show mag * 2 ^ k = (mag * 2 ^ (e - last).toNat) * 2 ^ (last - (e - k)).toNat from by rw [Nat.mul_assoc, ← Nat.pow_add, Nat.add_comm, ← a3]]
        rw [show (last - (e - k)).toNat = 0 + (last - (e - k)).toNat from by omega, Nat.zero_add]
        have := cut_shift neg (mag * 2 ^ (e - last).toNat) (last - (e - k)).toNat 0 (by rw [Nat.mul_ne_zero_iff]; exact ⟨hm, Nat.pos_iff_ne_zero.mp (Nat.two_pow_pos _)⟩)
        rw [Nat.zero_add, cut_zero] at this
        exact this
      · have a2 : (e - last).toNat = 0 := by omega
        have a3 : (last - (e - k)).toNat = (last - e).toNat + k := by omega
        rw [a2, a3, Nat.pow_zero, Nat.mul_one, cut_shift neg mag k _ hm]
  rw [hk]

theorem natAbs_mul_pow (x : Int) (k : Nat) : (x * 2 ^ k).natAbs = x.natAbs * 2 ^ k := by
  rw [Int.natAbs_mul, Int.natAbs_pow]; rfl

theorem pow_pos' (k : Nat) : (0 : Int) < 2 ^ k := Int.pow_pos (by decide)

theorem neg_mul_pow (x : Int) (k : Nat) : decide (x * 2 ^ k < 0) = decide (x < 0) := by
  have hp := pow_pos' k
  rw [decide_eq_decide]
  constructor
  · intro h
    rcases Int.lt_or_le x 0 with g | g
    · exact g
    · have := Int.mul_nonneg g (Int.le_of_lt hp); omega
  · intro h; exact Int.mul_neg_of_neg_of_pos h hp

theorem q_shift (f : Format) (x e : Int) (k : Nat) : q f (x * 2 ^ k) (e - k) = q f x e := by
  unfold q
  rw [natAbs_mul_pow, neg_mul_pow, nearest_shift]

/-! ### Reading -/

/-- What a word stands for, in units of the least place. -/
def V (f : Format) (w : Nat) : Int := match f.read w with
  | .number s m e => signed s m (e - f.leastPlace).toNat
  | _ => 0

def Fin (f : Format) (w : Nat) : Prop := ∃ s m e, f.read w = .number s m e
/-- No minus. -/
def Pos (f : Format) (w : Nat) : Prop := (f.read w).neg = false

theorem signed_mul (s : Bool) (m a b : Nat) : signed s m (a + b) = signed s m a * 2 ^ b := by
  unfold signed
  rw [Nat.shiftLeft_eq, Nat.shiftLeft_eq, Nat.pow_add, ← Nat.mul_assoc]
  cases s <;> simp [Int.neg_mul]

theorem signed_zero (s : Bool) (m : Nat) : signed s m 0 = if s then -(m : Int) else m := by
  unfold signed; simp

theorem read_place {f : Format} {w : Nat} {s : Bool} {m : Nat} {e : Int} (h : f.read w = .number s m e) : f.leastPlace ≤ e := by
  unfold Format.read at h
  simp only at h
  split at h
  · cases h; omega
  · split at h
    · cases h; omega
    · split at h <;> cases h

theorem V_of {f : Format} {w : Nat} {s : Bool} {m : Nat} {e : Int} (h : f.read w = .number s m e) : V f w = signed s m (e - f.leastPlace).toNat := by
  unfold V; rw [h]

theorem infRung_lt (f : Format) : f.infRung < f.signWeight := by
  unfold Format.infRung Format.signWeight Format.binade
  rw [Nat.pow_add]
  exact Nat.mul_lt_mul_of_pos_right (by have := Nat.two_pow_pos f.exponentBits; omega) (Nat.two_pow_pos _)

/-- A word of a sign and a rung below infinity. -/
theorem read_word (f : Format) (neg : Bool) (rung : Nat) (h : rung < f.infRung) :
    f.read (f.word neg rung) = if rung < f.binade then .number neg rung f.leastPlace else .number neg (f.binade + rung % f.binade) (f.leastPlace + (rung / f.binade - 1 : Nat)) := by
  have hs := infRung_lt f
  have hsp : 0 < f.signWeight := by omega
  have h1 : (f.word neg rung / f.signWeight % 2 == 1) = neg := by
    unfold Format.word
    cases neg with
    | true =>
      simp only [if_true]
      rw [Nat.add_div_left _ hsp, Nat.div_eq_of_lt (by omega)]; rfl
    | false =>
      simp only [Bool.false_eq_true, if_false]
      rw [Nat.div_eq_of_lt (by omega)]; rfl
  have h2 : f.word neg rung % f.signWeight = rung := by
    unfold Format.word
    cases neg with
    | true => simp only [if_true]; rw [Nat.add_mod_left, Nat.mod_eq_of_lt (by omega)]
    | false => simp only [Bool.false_eq_true, if_false]; rw [Nat.mod_eq_of_lt (by omega)]
  unfold Format.read
  simp only [h1, h2]
  by_cases hb : rung < f.binade
  · simp only [hb, if_true]
  · simp only [hb, if_false, h, if_true]

/-- The place of the last digit that is kept. -/
def lastOf (f : Format) (mag : Nat) (e : Int) : Int := max (e + mag.log2 - f.fractionBits) f.leastPlace
def keptOf (f : Format) (neg : Bool) (mag : Nat) (e : Int) : Nat := Toward.even.cut neg (mag <<< (e - lastOf f mag e).toNat) (lastOf f mag e - e).toNat

theorem kept_bounds (f : Format) (neg : Bool) (mag : Nat) (e : Int) (hm : mag ≠ 0) :
    keptOf f neg mag e ≤ 2 * f.binade ∧ (f.leastPlace < lastOf f mag e → f.binade ≤ keptOf f neg mag e) := by
  have hL1 : 2 ^ mag.log2 ≤ mag := Nat.log2_self_le hm
  have hL2 : mag < 2 ^ (mag.log2 + 1) := Nat.lt_log2_self
  have hlast : lastOf f mag e = e + mag.log2 - f.fractionBits ∨ (lastOf f mag e = f.leastPlace ∧ e + mag.log2 - f.fractionBits ≤ lastOf f mag e) := by unfold lastOf; omega
  have hge : e + mag.log2 - f.fractionBits ≤ lastOf f mag e := by unfold lastOf; omega
  unfold keptOf
  have hb : f.binade = 2 ^ f.fractionBits := rfl
  have hb2 : 2 * f.binade = 2 ^ (f.fractionBits + 1) := by rw [hb, Nat.pow_succ]; omega
  generalize hl : lastOf f mag e = last at *
  rw [Nat.shiftLeft_eq]
  by_cases hc : last ≤ e
  · have a1 : (last - e).toNat = 0 := by omega
    rw [a1, cut_zero]
    generalize hs : (e - last).toNat = s
    have hsp : s + mag.log2 ≤ f.fractionBits := by omega
    constructor
    · rw [hb2]
      have h1 : mag * 2 ^ s < 2 ^ (mag.log2 + 1) * 2 ^ s := Nat.mul_lt_mul_of_pos_right hL2 (Nat.two_pow_pos _)
      rw [← Nat.pow_add] at h1
      have h2 : 2 ^ (mag.log2 + 1 + s) ≤ 2 ^ (f.fractionBits + 1) := Nat.pow_le_pow_right (by decide) (by omega)
      omega
    · intro hgt
      have hs2 : s + mag.log2 = f.fractionBits := by omega
      rw [hb, ← hs2, Nat.add_comm, Nat.pow_add]
      exact Nat.mul_le_mul_right _ hL1
  · have a1 : (e - last).toNat = 0 := by omega
    rw [a1, Nat.pow_zero, Nat.mul_one]
    generalize hd : (last - e).toNat = d
    obtain ⟨b1, b2⟩ := cut_bounds neg mag d hm
    have hp : 0 < 2 ^ d := Nat.two_pow_pos d
    generalize Toward.even.cut neg mag d = kept at *
    constructor
    · rw [hb2]
      have h1 : 2 ^ (mag.log2 + 1) ≤ 2 ^ (f.fractionBits + 1 + d) := Nat.pow_le_pow_right (by decide) (by omega)
      rw [Nat.pow_add 2 (f.fractionBits + 1)] at h1
      rcases Nat.lt_or_ge (2 ^ (f.fractionBits + 1)) kept with g | g
      · have := Nat.mul_le_mul_right (2 ^ d) (show 2 ^ (f.fractionBits + 1) + 1 ≤ kept from g)
        rw [Nat.add_mul] at this
        omega
      · exact g
    · intro hgt
      have hd2 : mag.log2 = f.fractionBits + d := by omega
      rw [hb]
      have h1 : 2 ^ f.fractionBits * 2 ^ d ≤ mag := by rw [← Nat.pow_add, ← hd2]; exact hL1
      rcases Nat.lt_or_ge kept (2 ^ f.fractionBits) with g | g
      · have := Nat.mul_le_mul_right (2 ^ d) (show kept + 1 ≤ 2 ^ f.fractionBits from g)
        rw [Nat.add_mul] at this
        omega
      · exact g

/-- What is written is read back as what has been kept. -/
theorem read_nearest (f : Format) (neg : Bool) (mag : Nat) (e : Int) (hm : mag ≠ 0) (hr : (lastOf f mag e - f.leastPlace).toNat * f.binade + keptOf f neg mag e < f.infRung) :
    ∃ m' e', f.read (f.nearest neg mag e) = .number neg m' e' ∧ f.leastPlace ≤ e' ∧ m' * 2 ^ (e' - f.leastPlace).toNat = keptOf f neg mag e * 2 ^ (lastOf f mag e - f.leastPlace).toNat := by
  obtain ⟨k1, k2⟩ := kept_bounds f neg mag e hm
  have hw : f.nearest neg mag e = f.word neg ((lastOf f mag e - f.leastPlace).toNat * f.binade + keptOf f neg mag e) := by
    show (if mag = 0 then _ else f.word neg (min ((lastOf f mag e - f.leastPlace).toNat * f.binade + keptOf f neg mag e) f.infRung)) = _
    rw [if_neg hm, Nat.min_eq_left (by omega)]
  rw [hw, read_word f neg _ hr]
  have hlast : f.leastPlace ≤ lastOf f mag e := by unfold lastOf; omega
  have hB : 0 < f.binade := Nat.two_pow_pos _
  have hk2 : (lastOf f mag e - f.leastPlace).toNat ≠ 0 → f.binade ≤ keptOf f neg mag e := fun h => k2 (by omega)
  generalize keptOf f neg mag e = kept at *
  generalize (lastOf f mag e - f.leastPlace).toNat = d at *
  by_cases hlt : d * f.binade + kept < f.binade
  · rw [if_pos hlt]
    have hd : d = 0 := by
      rcases Nat.eq_zero_or_pos d with h | h
      · exact h
      · have := Nat.mul_le_mul_right f.binade (show 1 ≤ d from h); omega
    subst hd
    exact ⟨_, _, rfl, by omega, by simp⟩
  · rw [if_neg hlt]
    have hkB : f.binade ≤ kept := by
      rcases Nat.eq_zero_or_pos d with h | h
      · subst h; omega
      · exact hk2 (by omega)
    refine ⟨_, _, rfl, by omega, ?_⟩
    have hsub : (f.leastPlace + (((d * f.binade + kept) / f.binade - 1 : Nat) : Int) - f.leastPlace).toNat = (d * f.binade + kept) / f.binade - 1 := by omega
    rw [hsub, Nat.add_comm (d * f.binade), Nat.add_mul_div_right _ _ hB, Nat.add_mul_mod_self_right]
    rcases Nat.lt_or_ge kept (2 * f.binade) with g | g
    · have h1 : kept / f.binade = 1 := by
        apply Nat.div_eq_of_lt_le <;> omega
      have h2 : kept % f.binade = kept - f.binade := by rw [Nat.mod_eq_sub_mod hkB, Nat.mod_eq_of_lt (by omega)]
      rw [h1, h2]
      congr 1
      · omega
      · congr 1; omega
    · have hke : kept = 2 * f.binade := by omega
      subst hke
      rw [Nat.mul_div_cancel _ hB, Nat.mul_mod_left]
      rw [show 2 + d - 1 = d + 1 from by omega, Nat.pow_succ]
      simp only [Nat.add_zero]
      rw [Nat.mul_comm (2 ^ d) 2, ← Nat.mul_assoc, Nat.mul_comm f.binade 2]

/-- A number that the format has, in range. -/
theorem read_q (f : Format) (x e : Int) (hx : x.natAbs < 2 ^ (f.fractionBits + 1)) (he : f.leastPlace ≤ e) (hf : (e - f.leastPlace).toNat + 2 < 2 ^ f.exponentBits - 1) :
    ∃ m' e', f.read (q f x e) = .number (decide (x < 0)) m' e' ∧ f.leastPlace ≤ e' ∧ m' * 2 ^ (e' - f.leastPlace).toNat = x.natAbs * 2 ^ (e - f.leastPlace).toNat := by
  unfold q
  have hB : 0 < f.binade := Nat.two_pow_pos _
  by_cases hm : x.natAbs = 0
  · have hx0 : x = 0 := by omega
    subst hx0
    have hi : 0 < f.infRung := by
      unfold Format.infRung
      exact Nat.mul_pos (by omega) hB
    refine ⟨0, f.leastPlace, ?_, by omega, by simp⟩
    have : f.nearest (decide ((0 : Int) < 0)) (0 : Int).natAbs e = f.word false 0 := rfl
    rw [this, read_word f false 0 hi, if_pos hB]; rfl
  · have hL : x.natAbs.log2 ≤ f.fractionBits := by
      have := (Nat.log2_lt hm).mpr hx
      omega
    have hlast : lastOf f x.natAbs e ≤ e := by unfold lastOf; omega
    have hlast2 : f.leastPlace ≤ lastOf f x.natAbs e := by unfold lastOf; omega
    obtain ⟨k1, _⟩ := kept_bounds f (decide (x < 0)) x.natAbs e hm
    have hr : (lastOf f x.natAbs e - f.leastPlace).toNat * f.binade + keptOf f (decide (x < 0)) x.natAbs e < f.infRung := by
      unfold Format.infRung
      have h1 : (lastOf f x.natAbs e - f.leastPlace).toNat + 2 < 2 ^ f.exponentBits - 1 := by omega
      have h2 := Nat.mul_lt_mul_of_pos_right h1 hB
      rw [Nat.add_mul] at h2
      omega
    obtain ⟨m', e', h1, h2, h3⟩ := read_nearest f _ _ _ hm hr
    refine ⟨m', e', h1, h2, ?_⟩
    rw [h3]
    unfold keptOf
    rw [show (lastOf f x.natAbs e - e).toNat = 0 from by omega, cut_zero, Nat.shiftLeft_eq, Nat.mul_assoc, ← Nat.pow_add]
    congr 2; omega

theorem V_q (f : Format) (x e : Int) (hx : x.natAbs < 2 ^ (f.fractionBits + 1)) (he : f.leastPlace ≤ e) (hf : (e - f.leastPlace).toNat + 2 < 2 ^ f.exponentBits - 1) :
    V f (q f x e) = x * 2 ^ (e - f.leastPlace).toNat ∧ Fin f (q f x e) ∧ (f.read (q f x e)).neg = decide (x < 0) := by
  obtain ⟨m', e', h1, h2, h3⟩ := read_q f x e hx he hf
  refine ⟨?_, ⟨_, _, _, h1⟩, by rw [h1]; rfl⟩
  rw [V_of h1]
  unfold signed
  rw [Nat.shiftLeft_eq, h3]
  rcases Int.lt_or_le x 0 with g | g
  · simp only [g, decide_true, if_true]
    rw [Int.natCast_mul, Int.natCast_pow, ← Int.neg_mul]
    congr 1; omega
  · simp only [show ¬ x < 0 from by omega, decide_false, Bool.false_eq_true, if_false]
    rw [Int.natCast_mul, Int.natCast_pow]
    congr 1; omega

end Go.Fl

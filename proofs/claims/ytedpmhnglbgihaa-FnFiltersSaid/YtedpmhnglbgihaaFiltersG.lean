/-
  The law: what is smooth and what is rough, waves, notches and the rest, all together.
-/
import Derived.Test.YtedpmhnglbgihaaFiltersF
namespace Go.Proofs.Ytedpmhnglbgihaa
open Go.Ev Go.Fl
set_option linter.unusedSimpArgs false
set_option linter.unusedVariables false

theorem add_zero_Q {m : Int} (hm : m.natAbs < top .f32) : fadd .f32 0 (Q .f32 m 2) = Q .f32 m 2 := by
  have := add_Q (k := .f32) (m := 0) (n := m) (s := 2) (by decide) hm (by omega)
  rwa [Q_zero, Int.zero_add] at this

section
variable {ρ : Type}

/-- One number of a taper is no greater than the trace's. -/
theorem taper_fine {n c : Nat} (hn : n ≤ 12) (hc : 2 * c ≤ n) {v : Nat → Int} (hv : ∀ i, (v i).natAbs ≤ 8) {j : Nat} (hj : j < n) :
    noMore (taperF n c (fun i => Q .f32 (v i) 2) j) (Q .f32 (v j) 2) = true := by
  have hb := hv j
  obtain ⟨a, ha, ha2⟩ : ∃ a : Nat, a < 17 ∧ v j = (a : Int) - 8 := ⟨(v j + 8).toNat, by omega, by omega⟩
  have hq : Q .f32 (v j) 2 = quarterW a := by unfold quarterW; rw [ha2]
  have tp : ∀ k, k < c → noMore (taperW (quarterW a) k c) (quarterW a) = true := by
    intro k hk
    rcases tapers_fine ⟨a, ha⟩ ⟨k, by omega⟩ ⟨c, by omega⟩ with h | h
    · exact h
    · have h' : c ≤ k := h
      omega
  unfold taperF
  simp only [hq]
  split
  · exact tp j (by omega)
  · split
    · exact tp (n - 1 - j) (by omega)
    · exact same_fine ⟨a, ha⟩

theorem most_part {n j : Nat} (hj : j < n) {f g : Nat → Nat} (h : noMore (f j) (g j) = true) (b c : Bool) (e d : Nat) :
    ∃ x y, laws_b10Most_v2 fuelF j 1 b e (tab n f) some = some x ∧ laws_b10Most_v2 fuelF j 1 c d (tab n g) some = some y ∧ fgt .f64 x y = false := by
  unfold noMore most1 at h
  cases h1 : fconv .f32 (f j) .f64 with
  | none => rw [h1] at h; cases h
  | some z =>
    cases h2 : fconv .f32 (g j) .f64 with
    | none => rw [h1, h2] at h; cases h
    | some y =>
      rw [h1, h2] at h
      refine ⟨_, _, most1_ok fuelF (by unfold fuelF; omega) (tab_get hj) b e h1, most1_ok fuelF (by unfold fuelF; omega) (tab_get hj) c d h2, ?_⟩
      simpa using h

theorem last_loop {n p r c : Nat} (hn0 : 3 ≤ n) (hn : n ≤ 12) (hr : p + r ≤ n) (hc : 2 * c ≤ n) {v : Nat → Int} (hv : ∀ i, (v i).natAbs ≤ 8) (b1 b2 : Bool) (e1 e2 : Nat) (l m : List Int) (k0 k1 : Int → Option ρ) :
    laws_FnFilters_36 fuelF p ((p + r : Nat) : Int) n b1 e1 l b2 e2 m (tab n fun i => Q .f32 (v i) 2) (tab n fun i => if p ≤ i ∧ i < p + r then 0 else Q .f32 (v i) 2) (tab n (taperF n c fun i => Q .f32 (v i) 2)) (tab n fun i => ownW (v i)) fuelF 0 k0 k1 = k1 n := by
  refine allLoop n (fun m' i => laws_FnFilters_36 fuelF p ((p + r : Nat) : Int) n b1 e1 l b2 e2 m (tab n fun i => Q .f32 (v i) 2) (tab n fun i => if p ≤ i ∧ i < p + r then 0 else Q .f32 (v i) 2) (tab n (taperF n c fun i => Q .f32 (v i) 2)) (tab n fun i => ownW (v i)) m' i k0 k1) (k1 n) 0 ?_ ?_ fuelF 0 (by omega) (by omega) (by unfold fuelF; omega)
  · intro m' i _ hi
    have hlt : (i : Int) < (n : Int) := by omega
    have hb := hv i
    have hm : (v i).natAbs < top .f32 := by rw [topf]; omega
    -- the last look
    have c41 : ∀ (k2 k3 : Option ρ), laws_FnFilters_c41 fuelF p ((p + r : Nat) : Int) i n i b1 e1 l b2 e2 m (tab n fun i => Q .f32 (v i) 2) (tab n fun i => if p ≤ i ∧ i < p + r then 0 else Q .f32 (v i) 2) (tab n (taperF n c fun i => Q .f32 (v i) 2)) (tab n fun i => ownW (v i)) k2 k3 = k3 := by
      intro k2 k3
      unfold laws_FnFilters_c41
      have hz : can .f32 0 = Q .f32 0 2 := by rw [can_zero]; exact (Q_zero .f32 2).symm
      simp only [tab_length, idx_ok hi, Option.bind_some, tab_get hi]
      by_cases h0 : v i = 0
      · have e0 : feq .f32 (Q .f32 (v i) 2) (can .f32 0) = true := by rw [hz, eq_Q hm (by decide) (by omega)]; simp [h0]
        have e3 : fne .f32 (Q .f32 (v i) 2) (can .f32 0) = false := by rw [hz, ne_Q hm (by decide) (by omega)]; simp [h0]
        rw [e0, cond_true, e3]
        have e4 : fne .f32 (ownW (v i)) (can .f32 0) = false := by rw [h0]; exact own_zero
        rw [e4, cond_false, cond_false]
      · have e0 : feq .f32 (Q .f32 (v i) 2) (can .f32 0) = false := by rw [hz, eq_Q hm (by decide) (by omega)]; simp [h0]
        have e3 : fne .f32 (Q .f32 (v i) 2) (can .f32 0) = true := by rw [hz, ne_Q hm (by decide) (by omega)]; simp [h0]
        rw [e0, cond_false, e3, cond_true]
        obtain ⟨a, ha, ha2⟩ : ∃ a : Nat, a < 17 ∧ v i = (a : Int) - 8 := ⟨(v i + 8).toNat, by omega, by omega⟩
        have hu : unitOk (v i) = true := by
          rcases units_fine ⟨a, ha⟩ with h | h
          · have h' : a = 8 := h
            omega
          · rw [ha2]; exact h
        unfold unitOk at hu
        cases hx : fconv .f32 (fmul .f32 (ownW (v i)) (ownW (v i))) .f64 with
        | none => rw [hx] at hu; cases hu
        | some z =>
          rw [hx] at hu
          simp only [Option.bind_some] at hu ⊢
          cases hg : laws_b10Gap fuelF z (can .f64 4607182418800017408) some with
          | none => rw [hg] at hu; cases hu
          | some g =>
            rw [hg] at hu
            simp only [Option.bind_some] at hu ⊢
            have : fgt .f64 g (can .f64 4562254508917369340) = false := by simpa using hu
            rw [this, cond_false]
    -- the first looks
    obtain ⟨x, y, hx, hy, hxy⟩ := most_part hi (f := taperF n c fun i => Q .f32 (v i) 2) (g := fun i => Q .f32 (v i) 2) (taper_fine hn hc hv hi) true true 34 34
    have gen : ∀ (b : Bool) (e : Nat) (g : Nat → Nat), laws_b10Most_v2 fuelF i 1 b e (tab n g) some = laws_b10Most_v2 fuelF i 1 b e (tab n g) some := fun _ _ _ => rfl
    have c39 : ∀ (q : Bool) (k2 k3 k4 : Option ρ), (q = decide (p ≤ i ∧ i < p + r)) → laws_FnFilters_c39 fuelF p ((p + r : Nat) : Int) i q n i b1 e1 l b2 e2 m (tab n fun i => Q .f32 (v i) 2) (tab n fun i => if p ≤ i ∧ i < p + r then 0 else Q .f32 (v i) 2) (tab n (taperF n c fun i => Q .f32 (v i) 2)) (tab n fun i => ownW (v i)) k2 k3 k4 = k4 := by
      intro q k2 k3 k4 hq
      unfold laws_FnFilters_c39
      have w4 : IntKind.wrap .i64 ((i : Int) + 1) = ((i + 1 : Nat) : Int) := by rw [wrap_i64 (by omega) (by omega)]; omega
      simp only [w4, tab_length, idx_ok hi, Option.bind_some, tab_get hi, upto_ok (show i + 1 ≤ n by omega), upto_ok (show i ≤ i + 1 by omega), show i + 1 - i = 1 from by omega, c41]
      first
        | rw [hx, hy]
        | skip
      cases q with
      | true =>
        have hin : p ≤ i ∧ i < p + r := by simpa using hq
        rw [if_pos hin]
        have e3 : fne .f32 0 (can .f32 0) = false := by decide +kernel
        simp only [e3, cond_true, cond_false, Bool.not_true, Option.bind_some, hx, hy, hxy]
      | false =>
        have hin : ¬ (p ≤ i ∧ i < p + r) := by simpa using hq
        rw [if_neg hin]
        have e3 : fne .f32 (Q .f32 (v i) 2) (Q .f32 (v i) 2) = false := by rw [ne_Q hm hm (by omega)]; simp
        simp only [e3, cond_true, cond_false, Bool.not_false, Option.bind_some, hx, hy, hxy]
    conv => lhs; unfold laws_FnFilters_36
    rw [wrap_i64 (show -9223372036854775808 ≤ (i : Int) + 1 by omega) (by omega)]
    simp only [decide_eq_true hlt, cond_true]
    by_cases hp : (i : Int) ≥ (p : Int)
    · rw [decide_eq_true hp, cond_true, c39 _ _ _ _ (by rw [decide_eq_decide]; omega)]
      rfl
    · rw [decide_eq_false hp, cond_false, c39 _ _ _ _ (by symm; rw [decide_eq_false_iff_not]; omega)]
      rfl
  · intro m'
    have h1 : ¬ (n : Int) < (n : Int) := by omega
    conv => lhs; unfold laws_FnFilters_36
    rw [decide_eq_false h1, cond_false]

end

set_option maxRecDepth 100000 in
theorem filters_true (l m : List Int) (hl : Bytes l) (hm : Bytes m) (b c : Bool) (e d : Nat) : laws_FnFilters fuelF b e l c d m some = some true := by
  have hφ : 2000 ≤ fuelF := Nat.le_refl _
  unfold laws_FnFilters
  cases hlong : laws_b10Long fuelF b e l c d m some with
  | none =>
    exfalso
    unfold laws_b10Long at hlong
    revert hlong
    cases decide ((l.length : Int) > 1048576) <;> simp
  | some q =>
    simp only [Option.bind_some]
    cases q with
    | true => rfl
    | false =>
      simp only [cond_false]
      obtain ⟨z, z0, z1, hz⟩ := at_ok hl fuelF (i := 0) (by omega) (n := 10) (by decide) (by decide) b e
      obtain ⟨n', rfl⟩ := Int.eq_ofNat_of_zero_le z0
      have hz' : laws_b10At fuelF 0 10 b e l some = some (n' : Int) := hz
      rw [hz']
      simp only [Option.bind_some]
      rw [wrap_i64 (by omega) (by omega), show (3 : Int) + (n' : Int) = ((n' + 3 : Nat) : Int) from by omega]
      obtain ⟨n, hn⟩ : ∃ n, n = n' + 3 := ⟨_, rfl⟩
      rw [← hn]
      obtain ⟨v, hv, ht⟩ := trace_ok hl fuelF n (by omega) hφ b e
      rw [ht]
      simp only [Option.bind_some]
      obtain ⟨R', r0, r1, hR⟩ := at_ok hm fuelF (i := 0) (by omega) (n := 5) (by decide) (by decide) c d
      obtain ⟨R, rfl⟩ := Int.eq_ofNat_of_zero_le r0
      have hR' : laws_b10At fuelF 0 5 c d m some = some (R : Int) := hR
      rw [hR']
      simp only [Option.bind_some]
      have h8R : 8 * 4 ^ R ≤ 1000000 := by
        have : (4 : Nat) ^ R ≤ 4 ^ 4 := Nat.pow_le_pow_right (by decide) (by omega)
        omega
      obtain ⟨q1, q2⟩ := it_Q n R v 8 2 hv h8R (by omega)
      rw [SmoothTrace_ok fuelF hφ (by omega) (by omega) R (by omega), RoughTrace_ok fuelF hφ (by omega) (by omega) R (by omega), q1]
      simp only [Option.bind_some]
      rw [AddTraces_ok fuelF hφ (by omega) (by omega), DifferTrace_ok fuelF hφ (by omega) (by omega)]
      simp only [Option.bind_some]
      have hback : (tab n fun i => fadd .f32 (Q .f32 (itv n R v i) (2 + 2 * R)) (fsub .f32 (Q .f32 (v i) 2) (Q .f32 (itv n R v i) (2 + 2 * R)))) = tab n fun i => Q .f32 (v i) 2 := by
        apply tab_congr
        intro i _
        exact back_Q (by omega) (hv i) (q2 i)
      rw [hback]
      rw [IntegrateTrace_ok fuelF hφ (by omega) (by omega) _ _ (fun i => if i = 0 then Q .f32 (v 0) 2 else fsub .f32 (Q .f32 (v i) 2) (Q .f32 (v (i - 1)) 2)) (fun i => Q .f32 (v i) 2)
        (by
          have := hv 0
          simp only [if_true, can_zero]
          exact add_zero_Q (by rw [topf]; omega))
        (by
          intro i _
          have h1 := hv i
          have h2 := hv (i + 1)
          simp only [show ¬ i + 1 = 0 from by omega, if_false, Nat.add_sub_cancel]
          rw [sub_Q (by rw [topf]; omega) (by rw [topf]; omega) (by omega), add_Q (by rw [topf]; omega) (by rw [topf]; omega) (by omega)]
          congr 1; omega)]
      simp only [Option.bind_some, Bool.not_true, cond_false]
      have hv6 : ∀ i, (v i).natAbs ≤ 1000000 := fun i => by have := hv i; omega
      rw [alike_same fuelF hφ (by omega) hv6 (by omega) (by decide +kernel)]
      simp only [Option.bind_some, Bool.not_true, cond_false]
      have hw6 : ∀ i, (itv n R v i).natAbs ≤ 1000000 := fun i => by
        have := q2 i
        have h4 : (4 : Nat) ^ R ≤ 4 ^ 4 := Nat.pow_le_pow_right (by decide) (by omega)
        omega
      obtain ⟨x, hx1, hx2⟩ := most_ok fuelF hφ (n := n) (by omega) hw6 (s := 2 + 2 * R) (by omega) true 34
      obtain ⟨y, hy1, hy2⟩ := most_ok fuelF hφ (n := n) (by omega) hv6 (s := 2) (by omega) true 34
      first
        | rw [hx1, hy1]
        | skip
      simp only [Option.bind_some]
      have hmx : mx (itv n R v) n ≤ mx v n * 4 ^ R := by
        have hin : ∀ i, (ext n v i).natAbs ≤ mx v n := by
          intro i
          unfold ext
          split
          · exact mx_ge v n _ (by omega)
          · simp
        have hv' : ∀ i, ((fun j : Nat => if j < n then v j else 0) i).natAbs ≤ mx v n := by
          intro i
          show (if i < n then v i else 0).natAbs ≤ _
          split
          · rename_i g; exact mx_ge v n i g
          · simp
        have hcong : ∀ (R : Nat) (v w : Nat → Int), (∀ i, i < n → v i = w i) → ∀ i, i < n → itv n R v i = itv n R w i := by
          intro R
          induction R with
          | zero => intro v w h i hi; exact h i hi
          | succ R ih =>
            intro v w h i hi
            refine ih _ _ (fun j hj => ?_) i hi
            have he : ∀ j, ext n v j = ext n w j := by
              intro j; unfold ext; split
              · exact h _ (by omega)
              · rfl
            unfold smv
            rw [he, he, h j hj]
        refine mx_le n (fun i hi => ?_)
        rw [hcong R v (fun j => if j < n then v j else 0) (fun j hj => by simp [hj]) i hi]
        have h8 : mx v n ≤ 8 := mx_le n (fun i _ => hv i)
        exact (it_Q n R (fun j => if j < n then v j else 0) (mx v n) 2 hv' (by
          have h4 : (4 : Nat) ^ R ≤ 4 ^ 4 := Nat.pow_le_pow_right (by decide) (by omega)
          have := Nat.mul_le_mul h8 h4
          omega) (by omega)).2 i
      have hfine := most_fine (mx_le n (fun i _ => hv i)) _ hmx (by omega) hx2 hy2
      simp only [hfine, cond_false]
      -- waves
      unfold laws_FnFilters_c13
      obtain ⟨t', t0, t1, htt⟩ := at_ok hm fuelF (i := 1) (by omega) (n := 17) (by decide) (by decide) c d
      obtain ⟨t, rfl⟩ := Int.eq_ofNat_of_zero_le t0
      have htt' : laws_b10At fuelF 1 17 c d m some = some (t : Int) := htt
      rw [htt']
      simp only [Option.bind_some]
      have hw : fdiv .f32 (itof .f32 (t : Int)) (can .f32 1107296256) = turnW t := rfl
      rw [hw, wave_loop (by omega) (by omega)]
      rw [notch_ok (by omega) (by omega) (by omega)]
      simp only [Option.bind_some, Bool.not_true, cond_false]
      rw [still_loop (by omega) (by omega) (by omega)]
      obtain ⟨p', p0, p1, hp⟩ := at_ok hm fuelF (i := 2) (by omega) (n := (n : Int)) (by omega) (by omega) c d
      obtain ⟨p, rfl⟩ := Int.eq_ofNat_of_zero_le p0
      have hp' : laws_b10At fuelF 2 (n : Int) c d m some = some (p : Int) := hp
      rw [hp']
      simp only [Option.bind_some]
      rw [wrap_i64 (show -9223372036854775808 ≤ (n : Int) - (p : Int) by omega) (by omega), wrap_i64 (show -9223372036854775808 ≤ (n : Int) - (p : Int) + 1 by omega) (by omega)]
      obtain ⟨s', s0, s1, hs⟩ := at_ok hm fuelF (i := 3) (by omega) (n := (n : Int) - (p : Int) + 1) (by omega) (by omega) c d
      obtain ⟨s, rfl⟩ := Int.eq_ofNat_of_zero_le s0
      have hs' : laws_b10At fuelF 3 ((n : Int) - (p : Int) + 1) c d m some = some (s : Int) := hs
      rw [hs']
      simp only [Option.bind_some]
      rw [wrap_i64 (show -9223372036854775808 ≤ (p : Int) + (s : Int) by omega) (by omega), show (p : Int) + (s : Int) = ((p + s : Nat) : Int) from by omega]
      rw [mute_ok (by omega) (by omega) (show p + s ≤ n by omega), nonzero_ok (show (2 : Int) ≠ 0 by decide)]
      simp only [Option.bind_some]
      have hd : IntKind.wrap .i64 (Int.tdiv (n : Int) 2) = ((n / 2 : Nat) : Int) := by
        rw [show Int.tdiv (n : Int) 2 = ((n / 2 : Nat) : Int) from rfl]; exact wrap_i64 (by omega) (by omega)
      rw [hd, wrap_i64 (show -9223372036854775808 ≤ ((n / 2 : Nat) : Int) + 1 by omega) (by omega)]
      obtain ⟨c', c0, c1, hc⟩ := at_ok hm fuelF (i := 4) (by omega) (n := ((n / 2 : Nat) : Int) + 1) (by omega) (by omega) c d
      obtain ⟨k, rfl⟩ := Int.eq_ofNat_of_zero_le c0
      have hc' : laws_b10At fuelF 4 (((n / 2 : Nat) : Int) + 1) c d m some = some (k : Int) := hc
      rw [hc']
      simp only [Option.bind_some]
      rw [taper_ok (by omega) (by omega) (show 2 * k ≤ n by omega)]
      simp only [Option.bind_some]
      obtain ⟨u', u0, u1, hu⟩ := at_ok hm fuelF (i := 5) (by omega) (n := 4) (by decide) (by decide) c d
      obtain ⟨u, rfl⟩ := Int.eq_ofNat_of_zero_le u0
      have hu' : laws_b10At fuelF 5 4 c d m some = some (u : Int) := hu
      rw [hu']
      simp only [Option.bind_some]
      obtain ⟨out, ho1, ho2⟩ := gain_len (n := n) (R := u) (by omega) (by omega) (by omega) hv true 34
      first
        | rw [ho1]
        | skip
      have hown := gain_own (n := n) (by omega) (by omega) hv true 34
      rw [show ((0 : Nat) : Int) = 0 from rfl] at hown
      first
        | rw [hown]
        | skip
      simp only [Option.bind_some, Bool.not_true, cond_false, ho2, tab_length, bne_self_eq_false]
      unfold laws_FnFilters_c35
      simp only [tab_length]
      rw [last_loop (by omega) (by omega) (by omega) (by omega) hv]

theorem FnFilters_true (l m : List Int) (hl : ∀ z ∈ l, 0 ≤ z ∧ z ≤ 255) (hm : ∀ z ∈ m, 0 ≤ z ∧ z ≤ 255) :
    ∃ φ, S_laws_FnFilters φ [.whole 0, .whole 1] [.vec false 5 (.int .u8) l, .vec false 5 (.int .u8) m] = some true :=
  ⟨fuelF, filters_true l m hl hm false false 5 5⟩

end Go.Proofs.Ytedpmhnglbgihaa

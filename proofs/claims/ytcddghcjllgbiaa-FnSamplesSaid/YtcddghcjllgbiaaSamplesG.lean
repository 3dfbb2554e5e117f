/-
  The law of samples.
-/
import Derived.Test.YtcddghcjllgbiaaSamplesF
set_option maxRecDepth 100000
namespace Go.Proofs.Ytcddghcjllgbiaa
open Go.Ev Go.Fl Ieee
set_option linter.unusedSimpArgs false
set_option linter.unusedVariables false

theorem samples_true (l m : List Int) (hl : Bytes l) (hm : Bytes m) (b : Bool) (e : Nat) (c : Bool) (d : Nat) : laws_FnSamples fuelS b e l c d m some = some true := by
  unfold laws_FnSamples
  obtain ⟨q, hq⟩ : ∃ q, laws_r8Long fuelS b e l c d m some = some q := by
    unfold laws_r8Long
    cases decide (((l.length : Nat) : Int) > 48) <;> exact ⟨_, rfl⟩
  rw [hq]
  simp only [Option.bind_some]
  cases q with
  | true => rfl
  | false =>
    simp only [cond_false]
    obtain ⟨r, r1, hr⟩ := at_ok hm fuelS (i := 0) (by omega) (n := 10) (by decide) (by decide) c d
    have hr' : laws_r8At fuelS 0 10 c d m some = some (r : Int) := hr
    rw [hr']
    simp only [Option.bind_some]
    rw [wrap_i64 (show -9223372036854775808 ≤ (2 : Int) + (r : Int) by omega) (by omega), show (2 : Int) + (r : Int) = ((r + 2 : Nat) : Int) from by omega]
    have hr10 : r < 10 := by omega
    obtain ⟨v, hv, hlist⟩ := list_ok hl fuelS (r + 2) (by omega) (by decide) b e
    rw [hlist]
    simp only [Option.bind_some]
    rw [wrap_i64 (show -9223372036854775808 ≤ ((r + 2 : Nat) : Int) - 1 by omega) (by omega), show ((r + 2 : Nat) : Int) - 1 = ((r + 1 : Nat) : Int) from by omega]
    obtain ⟨k, k1, hk⟩ := at_ok hm fuelS (i := 1) (by omega) (n := ((r + 1 : Nat) : Int)) (by omega) (by omega) c d
    have hk' : laws_r8At fuelS 1 ((r + 1 : Nat) : Int) c d m some = some (k : Int) := hk
    rw [hk']
    simp only [Option.bind_some]
    have hkr : k < r + 1 := by omega
    change _ = _
    have hn : (fun i => Q .f32 (v i) 2) = nums v := rfl
    rw [hn]
    have e1 := between_ok fuelS _ true 27 (r + 2) (nums v) (by omega) (by omega) (whole_use (n := r + 2) (k := k) (by omega) (by omega) true 27 v)
    have e2 := between_ok fuelS _ true 27 (r + 2) (nums v) (by omega) (by omega) (half_use (n := r + 2) (k := k) (by omega) (by omega) true 27 v)
    have e3 := correct_ok fuelS (can .f32 0) (can .f32 1065353216) true 27 (r + 2) (nums v) (nums v) (by omega) (by omega) (by decide) fin_0 pos_1 (fun i hi => ⟨_, (same_use (by omega)).1, whole_use hi (by omega) true 27 v⟩)
    have e4 := bend_ok fuelS (can .f32 0) (can .f32 1065353216) true 27 (r + 2) (nums v) (nums v) (by omega) (by omega) (by decide) fin_0 pos_1 (fun i hi => ⟨_, (same_use (by omega)).2.1, whole_use hi (by omega) true 27 v⟩)
    have e5 := move_ok fuelS (can .f32 0) true 27 (r + 2) (nums v) (nums v) (by omega) (by omega) (by decide) (fun i hi => by rw [(same_use (by omega)).2.2]; exact whole_use hi (by omega) true 27 v)
    rw [e1, e2, e3, e4, e5]
    have self : ∀ i, fne .f32 (nums v i) (nums v i) = false := fun i => ne_self (by have := hv i; omega) (by decide)
    have eqs := equal_ok fuelS true 27 true 27 (r + 2) (nums v) (nums v) (by omega) (by decide) (fun i _ => self i)
    have hw : IntKind.wrap .i64 ((k : Int) + 1) = ((k + 1 : Nat) : Int) := by rw [wrap_i64 (by omega) (by omega)]; omega
    have hhalf : fne .f32 (fadd .f32 (nums v k) (fmul .f32 (can .f32 1056964608) (fsub .f32 (nums v (k + 1)) (nums v k)))) (fadd .f32 (nums v k) (fmul .f32 (can .f32 1056964608) (fsub .f32 (nums v (k + 1)) (nums v k)))) = false := by
      have ht : top .f32 = 16777216 := rfl
      have a1 := hv k
      have a2 := hv (k + 1)
      unfold nums
      rw [sub_Q (by rw [ht]; omega) (by rw [ht]; omega) (by decide), half_Q, mul_Q (by rw [ht]; decide) (by rw [ht]; omega) (by decide) (by decide) (by
        by_cases q : 0 ≤ v (k + 1) - v k
        · exact .inl ⟨fun _ => q, fun _ => by decide⟩
        · exact .inr (by omega)), ← scale_Q .f32 (v k) 2 1]
      rw [show (2 + 1 : Nat) = 1 + 2 from rfl, add_Q (by rw [ht]; omega) (by rw [ht]; omega) (by decide)]
      exact ne_self (by omega) (by decide)
    simp only [Option.bind_some, Bool.not_true, cond_false, tab_length, idx_ok (show k < r + 2 by omega), tab_get (show k < r + 2 by omega), self, hw, idx_ok (show k + 1 < r + 2 by omega), tab_get (show k + 1 < r + 2 by omega), hhalf, eqs]
    unfold laws_FnSamples_c13
    rw [twice_ok fuelS (r + 2) (k : Int) b e l c d m (nums v) (by omega) (by decide)]
    obtain ⟨p, p1, hp⟩ := at_ok hm fuelS (i := 2) (by omega) (n := 12) (by decide) (by decide) c d
    have hp' : laws_r8At fuelS 2 12 c d m some = some (p : Int) := hp
    have htw : (tab (r + 2) fun i => fmul .f32 (can .f32 1073741824) (nums v i)) = tab (r + 2) fun i => Q .f32 (2 * v i) 2 := tab_congr (fun i _ => twice_Q (by have := hv i; omega))
    rw [htw, hp']
    obtain ⟨a, g, f1, f2, f3⟩ := both_ok (n := r + 2) (p := p) (by omega) (by omega) (by omega) true 27 true 27 v hv
    unfold placeW at f1 f2
    simp only [Option.bind_some, f1, f2, Bool.not_true, cond_false, tab_length, bne_self_eq_false]
    unfold laws_FnSamples_c23
    have hev := ev_use (r := r) (k := k) (p := p) hr10 hkr (by omega) b e l c d m
    unfold evPart placeW at hev
    rw [compare_ok fuelS (r + 2) (k : Int) _ b e l c d m a g (by omega) (by decide) f3]
    exact hev

theorem FnSamples_true (l m : List Int) (hl : ∀ z ∈ l, 0 ≤ z ∧ z ≤ 255) (hm : ∀ z ∈ m, 0 ≤ z ∧ z ≤ 255) :
    ∃ φ, S_laws_FnSamples φ [.whole 0, .whole 1] [.vec false 5 (.int .u8) l, .vec false 5 (.int .u8) m] = some true :=
  ⟨fuelS, samples_true l m hl hm false 5 false 5⟩

end Go.Proofs.Ytcddghcjllgbiaa

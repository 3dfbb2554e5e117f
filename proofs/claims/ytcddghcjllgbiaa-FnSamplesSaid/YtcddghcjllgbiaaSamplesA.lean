/-
  What is drawn: bytes, numbers below a bound, lists of quarters.
-/
import Derived.Test.YtcddghcjllgbiaaXD1
import Derived.Test.YtcddghcjllgbiaaFlL
namespace Go.Proofs.Ytcddghcjllgbiaa
open Go.Ev Go.Fl
set_option linter.unusedSimpArgs false
set_option linter.unusedVariables false

/-- Bytes. -/
def Bytes (l : List Int) : Prop := ∀ z ∈ l, 0 ≤ z ∧ z ≤ 255

theorem Bytes.get {l : List Int} (h : Bytes l) {i : Nat} (hi : i < l.length) : ∃ z, l[i]? = some z ∧ 0 ≤ z ∧ z ≤ 255 :=
  ⟨l[i], List.getElem?_eq_getElem hi, h _ (List.getElem_mem hi)⟩

theorem next_ok {l : List Int} (hl : Bytes l) (φ : Nat) (p : Nat) (hp : p < 1000000000) (seed : Int) (b : Bool) (e : Nat) :
    ∃ z seed', 0 ≤ z ∧ z ≤ 255 ∧ spec_l00Src_next φ p seed b e l some = some (z, ((p + 1 : Nat) : Int), seed') := by
  have hw : IntKind.wrap .i64 ((p : Int) + 1) = ((p + 1 : Nat) : Int) := by rw [wrap_i64 (by omega) (by omega)]; omega
  unfold spec_l00Src_next spec_l00Src_next_c4
  rw [hw]
  by_cases h1 : (p : Int) < (l.length : Int)
  · simp only [decide_eq_true h1, cond_true, idx_ok (show p < l.length by omega), Option.bind_some]
    obtain ⟨z, hz, z0, z1⟩ := hl.get (show p < l.length by omega)
    have h2 : ((p + 1 : Nat) : Int) ≤ (l.length : Int) := by omega
    simp only [hz, Option.bind_some, decide_eq_true h2, cond_true, wrap_i64 (show (-9223372036854775808 : Int) ≤ z by omega) (by omega)]
    exact ⟨z, _, z0, z1, rfl⟩
  · have h2 : ¬ ((p + 1 : Nat) : Int) ≤ (l.length : Int) := by omega
    simp only [decide_eq_false h1, decide_eq_false h2, cond_false, show nonneg (40 : Int) = some 40 from rfl, Option.bind_some]
    generalize hx : IntKind.wrap .u64 (IntKind.wrap .u64 (IntKind.wrap .u64 (seed * 6364136223846793005) + IntKind.wrap .u64 0) + 1442695040888963407) = x
    obtain ⟨x0, x1⟩ : 0 ≤ x ∧ x < 18446744073709551616 := by rw [← hx]; exact wrap_u64 _
    have hd : ∃ a : Nat, a < 18446744073709551616 ∧ Int.fdiv x ((2 : Int) ^ (min 40 (IntKind.bits .u64))) = (a : Int) := by
      obtain ⟨y, rfl⟩ := Int.eq_ofNat_of_zero_le x0
      refine ⟨y / 2 ^ 40, Nat.lt_of_le_of_lt (Nat.div_le_self _ _) (by omega), ?_⟩
      rw [Int.fdiv_eq_ediv_of_nonneg _ (by decide)]
      rfl
    obtain ⟨a, ha, hd⟩ := hd
    rw [hd]
    have hb := bits_and_u64_nat a 255 ha (by decide)
    rw [show (255 : Int) = ((255 : Nat) : Int) from rfl, hb]
    have hle : a &&& 255 ≤ 255 := Nat.and_le_right
    rw [wrap_i64 (by omega) (by omega)]
    exact ⟨_, _, by omega, by omega, rfl⟩

theorem tmod_small {a m : Int} (ha : 0 ≤ a) (hm : 0 < m) : 0 ≤ Int.tmod a m ∧ Int.tmod a m < m :=
  ⟨Int.tmod_nonneg _ ha, Int.tmod_lt_of_pos _ hm⟩

/-- A number below a bound that is not great. -/
theorem pick_ok {l : List Int} (hl : Bytes l) (φ : Nat) {m : Int} (hm : 1 < m) (hm2 : m ≤ 200) (p : Nat) (hp : p < 1000000000) (seed : Int) (b : Bool) (e : Nat) :
    ∃ z seed', 0 ≤ z ∧ z < m ∧ spec_l00Src_pick φ m p seed b e l some = some (z, ((p + 1 : Nat) : Int), seed') := by
  obtain ⟨z, s', z0, z1, h⟩ := next_ok hl φ p hp seed b e
  unfold spec_l00Src_pick
  have h1 : ¬ m ≤ 1 := by omega
  have h2 : ¬ m > 200 := by omega
  simp only [decide_eq_false h1, cond_false, h, Option.bind_some, decide_eq_false h2, nonzero_ok (show m ≠ 0 by omega)]
  obtain ⟨t0, t1⟩ := tmod_small z0 (show (0 : Int) < m by omega)
  exact ⟨_, _, t0, t1, rfl⟩

/-- A quarter of a small number, as it is drawn. -/
theorem quarter {z : Int} (h0 : 0 ≤ z) (h1 : z < 17) : fdiv .f32 (itof .f32 (IntKind.wrap .i64 (z - 8))) (can .f32 1082130432) = Q .f32 (z - 8) 2 := by
  rw [wrap_i64 (by omega) (by omega)]
  obtain ⟨n, rfl⟩ := Int.eq_ofNat_of_zero_le h0
  have : ∀ n : Fin 17, fdiv .f32 (itof .f32 (((n : Nat) : Int) - 8)) (can .f32 1082130432) = Q .f32 (((n : Nat) : Int) - 8) 2 := by decide +kernel
  exact this ⟨n, by omega⟩

theorem list_ok {l : List Int} (hl : Bytes l) (φ : Nat) (n : Nat) (hn : n ≤ 50) (hφ : 60 ≤ φ) (b : Bool) (e : Nat) :
    ∃ v : Nat → Int, (∀ i, (v i).natAbs ≤ 8) ∧ spec_R8List φ n b e l some = some (tab n fun i => Q .f32 (v i) 2) := by
  unfold spec_R8List spec_l00From
  simp only [Option.bind_some]
  have key : ∀ (d : Nat) (c : Nat) (seed : Int) (v : Nat → Int) (f : Nat), c + d = n → d < f → (∀ i, (v i).natAbs ≤ 8) →
      ∃ v' : Nat → Int, (∀ i, (v' i).natAbs ≤ 8) ∧ spec_R8List_3 φ b e l f d c seed (tab c fun i => Q .f32 (v i) 2) (fun _ _ _ e20 => some e20) = some (tab n fun i => Q .f32 (v' i) 2) := by
    intro d
    induction d with
    | zero =>
      intro c seed v f hc hf hv
      obtain ⟨f, rfl⟩ : ∃ g, f = g + 1 := ⟨f - 1, by omega⟩
      refine ⟨v, hv, ?_⟩
      unfold spec_R8List_3
      have : c = n := by omega
      subst this
      have h0 : ¬ (((0 : Nat) : Int) > 0) := by omega
      rw [decide_eq_false h0, cond_false]
    | succ d ih =>
      intro c seed v f hc hf hv
      obtain ⟨f, rfl⟩ : ∃ g, f = g + 1 := ⟨f - 1, by omega⟩
      unfold spec_R8List_3
      have h1 : (((d + 1 : Nat) : Int) > 0) := by omega
      obtain ⟨z, s', z0, z1, hpick⟩ := pick_ok hl φ (m := 17) (by decide) (by decide) c (by omega) seed b e
      simp only [decide_eq_true h1, cond_true, hpick, Option.bind_some, tab_length]
      rw [room_ok (by show (Nat.add c 0 + 1) * 4 ≤ _; have : Nat.add c 0 = c := rfl; omega) (by have : Nat.add c 0 = c := rfl; omega)]
      simp only [Option.bind_some]
      rw [quarter z0 z1, wrap_i64 (by omega) (by omega), show ((d + 1 : Nat) : Int) - 1 = (d : Int) from by omega]
      have ht : (tab c fun i => Q .f32 (v i) 2) ++ [Q .f32 (z - 8) 2] = tab (c + 1) fun i => Q .f32 (if i = c then z - 8 else v i) 2 := by
        rw [tab_succ]
        congr 1
        · apply tab_congr; intro i hi; rw [if_neg (by omega)]
        · simp
      rw [ht]
      exact ih (c + 1) s' (fun i => if i = c then z - 8 else v i) f (by omega) (by omega) (fun i => by
        show (if i = c then z - 8 else v i).natAbs ≤ 8
        split
        · omega
        · exact hv i)
  exact key n 0 0 (fun _ => 0) φ (by omega) (by omega) (fun _ => by decide)

/-- A number that is chosen by a byte. -/
theorem at_ok {l : List Int} (hl : Bytes l) (φ : Nat) {i : Nat} (hi : i < 1000000) {n : Int} (hn : 1 ≤ n) (hn2 : n ≤ 1000000) (b : Bool) (e : Nat) :
    ∃ z : Nat, (z : Int) < n ∧ laws_r8At φ i n b e l some = some (z : Int) := by
  unfold laws_r8At laws_r8At_c3
  by_cases h1 : n ≤ 1
  · simp only [decide_eq_true h1, cond_true]
    exact ⟨0, by omega, rfl⟩
  · simp only [decide_eq_false h1, cond_false]
    by_cases h2 : (i : Int) ≥ (l.length : Int)
    · simp only [decide_eq_true h2, cond_true]
      exact ⟨0, by omega, rfl⟩
    · obtain ⟨z, hz, z0, z1⟩ := hl.get (show i < l.length by omega)
      simp only [decide_eq_false h2, cond_false, idx_ok (show i < l.length by omega), Option.bind_some, hz, nonzero_ok (show n ≠ 0 by omega), wrap_i64 (show (-9223372036854775808 : Int) ≤ z by omega) (by omega)]
      obtain ⟨t0, t1⟩ := tmod_small z0 (show (0 : Int) < n by omega)
      exact ⟨(Int.tmod z n).toNat, by omega, by congr 1; omega⟩

end Go.Proofs.Ytcddghcjllgbiaa

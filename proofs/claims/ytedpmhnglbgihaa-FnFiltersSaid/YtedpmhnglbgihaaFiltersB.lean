/-
  Smoothing, sums and differences: what the program's functions make of tables.
-/
import Derived.Test.YtedpmhnglbgihaaFiltersA
namespace Go.Proofs.Ytedpmhnglbgihaa
open Go.Ev Go.Fl
set_option linter.unusedSimpArgs false
set_option linter.unusedVariables false

theorem within_ok (φ : Nat) {a b c : Int} (h1 : b ≤ a) (h2 : a ≤ c) : impl_within φ a b c some = some true := by
  unfold impl_within
  simp only [decide_eq_true h1, cond_true, decide_eq_true h2]

theorem isTrace_ok (φ : Nat) (b : Bool) (e : Nat) {l : List Nat} (h1 : 1 ≤ l.length) (h2 : l.length ≤ 128) : impl_IsTrace φ b e l some = some true := by
  unfold impl_IsTrace impl_length_float32 impl_isCount
  simp only [Option.bind_some, within_ok φ (show (1 : Int) ≤ (l.length : Int) by omega) (show (l.length : Int) ≤ 128 by omega)]

theorem clone_ok (φ : Nat) (b : Bool) (e : Nat) {l : List Nat} (h1 : 1 ≤ l.length) (h2 : l.length ≤ 1000) : slices_Clone_float32_float32 φ b e l some = some l := by
  unfold slices_Clone_float32_float32
  have h : l.isEmpty = false := by cases l with | nil => simp at h1 | cons => rfl
  rw [h, cond_false, room_ok (by omega) (by omega)]
  rfl

/-- A number of a table, or nought. -/
def atT (n : Nat) (f : Nat → Nat) (i : Int) : Nat := if 0 ≤ i ∧ i < n then f i.toNat else 0

theorem can_zero : can .f32 0 = 0 := by decide

theorem at_tab (φ : Nat) {n : Nat} {f : Nat → Nat} (hn : n ≤ 1000) {i : Int} (h1 : -1000 ≤ i) (h2 : i ≤ 2000) (b : Bool) (e : Nat) : impl_at φ i b e (tab n f) some = some (atT n f i) := by
  unfold impl_at impl_length_float32 impl_within atT
  simp only [Option.bind_some, tab_length]
  rw [wrap_i64 (by omega) (by omega)]
  by_cases h : 0 ≤ i ∧ i < n
  · have h3 : i ≤ (n : Int) - 1 := by omega
    have hi : idx i n = some i.toNat := idx_int h.1 h.2
    simp only [decide_eq_true h.1, cond_true, decide_eq_true h3, Option.bind_some, Bool.not_true, cond_false, hi, tab_get (show i.toNat < n by omega), if_pos h]
  · rw [if_neg h]
    by_cases h0 : 0 ≤ i
    · have h3 : ¬ i ≤ (n : Int) - 1 := by omega
      simp only [decide_eq_true h0, cond_true, decide_eq_false h3, Option.bind_some, Bool.not_false, can_zero]
    · simp only [decide_eq_false h0, cond_false, Option.bind_some, Bool.not_false, cond_true, can_zero]

/-- One round of smoothing. -/
def sm (n : Nat) (f : Nat → Nat) (i : Nat) : Nat :=
  fmul .f32 (can .f32 1048576000) (fadd .f32 (fadd .f32 (fadd .f32 (atT n f ((i : Int) - 1)) (f i)) (f i)) (atT n f ((i : Int) + 1)))

section
variable {ρ : Type}

theorem smooth_5_ok (φ : Nat) {n : Nat} (hn : n ≤ 1000) (f : Nat → Nat) (n7 n8 : Int) (b : Bool) (e : Nat) (k0 : Int → List Nat → Option ρ) {fuel : Nat} (hf : n < fuel) :
    impl_smooth_5 φ n7 n8 n b e (tab n f) fuel 0 (List.replicate n 0) k0 = k0 n (tab n (sm n f)) := by
  rw [replicate_tab]
  refine setLoop n (fun _ => 0) (sm n f) (fun m i out => impl_smooth_5 φ n7 n8 n b e (tab n f) m i out k0) (fun out => k0 n out) 0 (fun j hj => by omega) (by omega) ?_ ?_ fuel (by omega)
  · intro m i _ hi out ho
    have h1 : (i : Int) < (n : Int) := by omega
    have hlen : out.length = n := by rw [ho, tab_length]
    conv => lhs; unfold impl_smooth_5
    rw [wrap_i64 (show -9223372036854775808 ≤ (i : Int) - 1 by omega) (by omega), wrap_i64 (show -9223372036854775808 ≤ (i : Int) + 1 by omega) (by omega)]
    have hout : ∃ x, out[i]? = some x := ⟨out[i], List.getElem?_eq_getElem (by omega)⟩
    obtain ⟨x, hx⟩ := hout
    simp only [decide_eq_true h1, cond_true, tab_length, hlen, idx_ok hi, Option.bind_some, tab_get hi, at_tab φ hn (show -1000 ≤ (i : Int) - 1 by omega) (show (i : Int) - 1 ≤ 2000 by omega), at_tab φ hn (show -1000 ≤ (i : Int) + 1 by omega) (show (i : Int) + 1 ≤ 2000 by omega), hx]
    rfl
  · intro m out _
    have h1 : ¬ (n : Int) < (n : Int) := by omega
    conv => lhs; unfold impl_smooth_5
    rw [decide_eq_false h1, cond_false]

theorem smooth_5_1_ok (φ : Nat) {n : Nat} (hn : n ≤ 1000) (f : Nat → Nat) (n7 n8 : Int) (b : Bool) (e : Nat) (l : List Nat) (k0 : Int → List Nat → Option ρ) {fuel : Nat} (hf : n < fuel) :
    impl_smooth_5_1 φ n7 n8 n b e l (tab n f) fuel 0 (List.replicate n 0) k0 = k0 n (tab n (sm n f)) := by
  rw [replicate_tab]
  refine setLoop n (fun _ => 0) (sm n f) (fun m i out => impl_smooth_5_1 φ n7 n8 n b e l (tab n f) m i out k0) (fun out => k0 n out) 0 (fun j hj => by omega) (by omega) ?_ ?_ fuel (by omega)
  · intro m i _ hi out ho
    have h1 : (i : Int) < (n : Int) := by omega
    have hlen : out.length = n := by rw [ho, tab_length]
    conv => lhs; unfold impl_smooth_5_1
    rw [wrap_i64 (show -9223372036854775808 ≤ (i : Int) - 1 by omega) (by omega), wrap_i64 (show -9223372036854775808 ≤ (i : Int) + 1 by omega) (by omega)]
    have hout : ∃ x, out[i]? = some x := ⟨out[i], List.getElem?_eq_getElem (by omega)⟩
    obtain ⟨x, hx⟩ := hout
    simp only [decide_eq_true h1, cond_true, tab_length, hlen, idx_ok hi, Option.bind_some, tab_get hi, at_tab φ hn (show -1000 ≤ (i : Int) - 1 by omega) (show (i : Int) - 1 ≤ 2000 by omega), at_tab φ hn (show -1000 ≤ (i : Int) + 1 by omega) (show (i : Int) + 1 ≤ 2000 by omega), hx]
    rfl
  · intro m out _
    have h1 : ¬ (n : Int) < (n : Int) := by omega
    conv => lhs; unfold impl_smooth_5_1
    rw [decide_eq_false h1, cond_false]

def it (g : (Nat → Nat) → Nat → Nat) : Nat → (Nat → Nat) → Nat → Nat
  | 0, f => f
  | d + 1, f => it g d (g f)

theorem smooth_2_ok (φ : Nat) (hφ : 2000 ≤ φ) {n : Nat} (hn : n ≤ 1000) (R : Nat) (hR : R ≤ 100) (b : Bool) (e : Nat) (l : List Nat) (k0 : Int → List Nat → Option ρ) :
    ∀ (d i : Nat) (f : Nat → Nat) (fuel : Nat), i + d = R → d < fuel → impl_smooth_2 φ R b e l fuel i (tab n f) k0 = k0 R (tab n (it (sm n) d f)) := by
  intro d
  induction d with
  | zero =>
    intro i f fuel hi hf
    obtain ⟨fuel, rfl⟩ : ∃ g, fuel = g + 1 := ⟨fuel - 1, by omega⟩
    have : i = R := by omega
    subst this
    have h1 : ¬ (i : Int) < (i : Int) := by omega
    conv => lhs; unfold impl_smooth_2
    rw [decide_eq_false h1, cond_false]
    rfl
  | succ d ih =>
    intro i f fuel hi hf
    obtain ⟨fuel, rfl⟩ : ∃ g, fuel = g + 1 := ⟨fuel - 1, by omega⟩
    have h1 : (i : Int) < (R : Int) := by omega
    conv => lhs; unfold impl_smooth_2
    simp only [decide_eq_true h1, cond_true, tab_length, making_ok (show 4 * n ≤ 140737488355328 by omega) (by omega), Option.bind_some, upto_ok (Nat.le_refl n), List.length_replicate]
    rw [smooth_5_1_ok φ hn f _ _ b e l _ (by omega), wrap_i64 (by omega) (by omega)]
    exact ih (i + 1) (sm n f) fuel (by omega) (by omega)

theorem smooth_ok (φ : Nat) (hφ : 2000 ≤ φ) {n : Nat} (hn0 : 1 ≤ n) (hn : n ≤ 1000) (R : Nat) (hR : R ≤ 100) (b : Bool) (e : Nat) (f : Nat → Nat) :
    impl_smooth φ R b e (tab n f) some = some (tab n (it (sm n) R f)) := by
  unfold impl_smooth
  obtain ⟨φ', hφ'⟩ : ∃ g, φ = g + 1 := ⟨φ - 1, by omega⟩
  have hu : ∀ (k0 : Int → List Nat → Option (List Nat)) (k1 : Option (List Nat)), impl_smooth_2_1 φ R 0 b e (tab n f) φ k0 k1 = impl_smooth_2_1 φ R 0 b e (tab n f) (φ' + 1) k0 k1 := by
    intro k0 k1; rw [← hφ']
  rw [hu]
  unfold impl_smooth_2_1
  dsimp only
  have hc : ∀ b e (g : Nat → Nat), slices_Clone_float32_float32 φ b e (tab n g) some = some (tab n g) := fun b e g => clone_ok φ b e (by rw [tab_length]; exact hn0) (by rw [tab_length]; exact hn)
  cases R with
  | zero =>
    have h1 : ¬ (0 : Int) < ((0 : Nat) : Int) := by omega
    rw [decide_eq_false h1, cond_false, hc]
    rfl
  | succ R =>
    have h1 : (0 : Int) < ((R + 1 : Nat) : Int) := by omega
    simp only [decide_eq_true h1, cond_true, tab_length, making_ok (show 4 * n ≤ 140737488355328 by omega) (by omega), Option.bind_some, upto_ok (Nat.le_refl n), List.length_replicate]
    rw [smooth_5_ok φ hn f _ _ b e _ (by omega)]
    have := smooth_2_ok φ hφ hn (R + 1) hR b e (tab n f) (fun e75 e76 => (slices_Clone_float32_float32 φ true 0 e76 some).bind fun r90 => some r90) R 1 (sm n f) φ' (by omega) (by omega)
    rw [wrap_i64 (by omega) (by omega)]
    first
      | (rw [show (0 : Int) + 1 = ((1 : Nat) : Int) from rfl]
         rw [smooth_2_ok φ hφ hn (R + 1) hR b e (tab n f) _ R 1 (sm n f) φ' (by omega) (by omega), hc]
         rfl)

theorem SmoothTrace_ok (φ : Nat) (hφ : 2000 ≤ φ) {n : Nat} (hn0 : 1 ≤ n) (hn : n ≤ 128) (R : Nat) (hR : R ≤ 16) (b : Bool) (e : Nat) (f : Nat → Nat) :
    impl_SmoothTrace φ R b e (tab n f) some = some (true, tab n (it (sm n) R f)) := by
  unfold impl_SmoothTrace impl_isSmooth
  rw [isTrace_ok φ b e (by rw [tab_length]; exact hn0) (by rw [tab_length]; exact hn)]
  simp only [Option.bind_some, cond_true, within_ok φ (show (0 : Int) ≤ (R : Int) by omega) (show (R : Int) ≤ 16 by omega), Bool.not_true, cond_false, smooth_ok φ hφ hn0 (show n ≤ 1000 by omega) R (by omega)]

theorem less_ok (φ : Nat) (hφ : 2000 ≤ φ) {n : Nat} (hn0 : 1 ≤ n) (hn : n ≤ 128) (b c : Bool) (e d : Nat) (f g : Nat → Nat) :
    impl_lessTraces φ b e (tab n f) c d (tab n g) some = some (tab n fun i => fsub .f32 (f i) (g i)) := by
  unfold impl_lessTraces
  rw [clone_ok φ b e (by rw [tab_length]; exact hn0) (by rw [tab_length]; omega)]
  simp only [Option.bind_some, tab_length]
  refine setLoop n f (fun i => fsub .f32 (f i) (g i)) (fun m i out => impl_lessTraces_3 φ n b e (tab n f) c d (tab n g) m i out fun _ e26 => some e26) some 0 (fun j hj => by omega) (by omega) ?_ ?_ φ (by omega)
  · intro m i _ hi out ho
    have h1 : (i : Int) < (n : Int) := by omega
    have hlen : out.length = n := by rw [ho, tab_length]
    have hx : out[i]? = some (f i) := by rw [ho, tab_get hi, if_neg (by omega)]
    conv => lhs; unfold impl_lessTraces_3
    rw [wrap_i64 (show -9223372036854775808 ≤ (i : Int) + 1 by omega) (by omega)]
    simp only [decide_eq_true h1, cond_true, tab_length, hlen, idx_ok hi, Option.bind_some, tab_get hi, hx]
    rfl
  · intro m out _
    have h1 : ¬ (n : Int) < (n : Int) := by omega
    conv => lhs; unfold impl_lessTraces_3
    rw [decide_eq_false h1, cond_false]

theorem RoughTrace_ok (φ : Nat) (hφ : 2000 ≤ φ) {n : Nat} (hn0 : 1 ≤ n) (hn : n ≤ 128) (R : Nat) (hR : R ≤ 16) (b : Bool) (e : Nat) (f : Nat → Nat) :
    impl_RoughTrace φ R b e (tab n f) some = some (true, tab n fun i => fsub .f32 (f i) (it (sm n) R f i)) := by
  unfold impl_RoughTrace impl_isSmooth
  rw [isTrace_ok φ b e (by rw [tab_length]; exact hn0) (by rw [tab_length]; exact hn)]
  simp only [Option.bind_some, cond_true, within_ok φ (show (0 : Int) ≤ (R : Int) by omega) (show (R : Int) ≤ 16 by omega), Bool.not_true, cond_false, smooth_ok φ hφ hn0 (show n ≤ 1000 by omega) R (by omega), less_ok φ hφ hn0 hn]

theorem AddTraces_ok (φ : Nat) (hφ : 2000 ≤ φ) {n : Nat} (hn0 : 1 ≤ n) (hn : n ≤ 128) (b c : Bool) (e d : Nat) (f g : Nat → Nat) :
    impl_AddTraces φ b e (tab n f) c d (tab n g) some = some (true, tab n fun i => fadd .f32 (f i) (g i)) := by
  unfold impl_AddTraces impl_areEven
  rw [isTrace_ok φ b e (by rw [tab_length]; exact hn0) (by rw [tab_length]; exact hn)]
  simp only [Option.bind_some, cond_true, tab_length, beq_self_eq_true, Bool.not_true, cond_false, clone_ok φ b e (show 1 ≤ (tab n f).length by rw [tab_length]; exact hn0) (show (tab n f).length ≤ 1000 by rw [tab_length]; omega)]
  refine setLoop n f (fun i => fadd .f32 (f i) (g i)) (fun m i out => impl_AddTraces_5 φ n b e (tab n f) c d (tab n g) m i out fun _ e27 => some (true, e27)) (fun out => some (true, out)) 0 (fun j hj => by omega) (by omega) ?_ ?_ φ (by omega)
  · intro m i _ hi out ho
    have h1 : (i : Int) < (n : Int) := by omega
    have hlen : out.length = n := by rw [ho, tab_length]
    have hx : out[i]? = some (f i) := by rw [ho, tab_get hi, if_neg (by omega)]
    conv => lhs; unfold impl_AddTraces_5
    rw [wrap_i64 (show -9223372036854775808 ≤ (i : Int) + 1 by omega) (by omega)]
    simp only [decide_eq_true h1, cond_true, tab_length, hlen, idx_ok hi, Option.bind_some, tab_get hi, hx]
    rfl
  · intro m out _
    have h1 : ¬ (n : Int) < (n : Int) := by omega
    conv => lhs; unfold impl_AddTraces_5
    rw [decide_eq_false h1, cond_false]

theorem DifferTrace_ok (φ : Nat) (hφ : 2000 ≤ φ) {n : Nat} (hn0 : 1 ≤ n) (hn : n ≤ 128) (b : Bool) (e : Nat) (f : Nat → Nat) :
    impl_DifferTrace φ b e (tab n f) some = some (true, tab n fun i => if i = 0 then f 0 else fsub .f32 (f i) (f (i - 1))) := by
  unfold impl_DifferTrace
  rw [isTrace_ok φ b e (by rw [tab_length]; exact hn0) (by rw [tab_length]; exact hn)]
  simp only [Option.bind_some, Bool.not_true, cond_false, clone_ok φ b e (show 1 ≤ (tab n f).length by rw [tab_length]; exact hn0) (show (tab n f).length ≤ 1000 by rw [tab_length]; omega)]
  have hs1 : ∀ j, j < 1 → f j = if j = 0 then f 0 else fsub .f32 (f j) (f (j - 1)) := by
    intro j hj
    have : j = 0 := by omega
    subst this; simp
  refine setLoop n f (fun i => if i = 0 then f 0 else fsub .f32 (f i) (f (i - 1))) (fun m i out => impl_DifferTrace_5 φ b e (tab n f) m i out fun _ e19 => some (true, e19)) (fun out => some (true, out)) 1 hs1 hn0 ?_ ?_ φ (by omega)
  · intro m i hi0 hi out ho
    have h1 : (i : Int) < (n : Int) := by omega
    have hlen : out.length = n := by rw [ho, tab_length]
    have hx : out[i]? = some (f i) := by rw [ho, tab_get hi, if_neg (by omega)]
    conv => lhs; unfold impl_DifferTrace_5
    rw [wrap_i64 (show -9223372036854775808 ≤ (i : Int) + 1 by omega) (by omega), wrap_i64 (show -9223372036854775808 ≤ (i : Int) - 1 by omega) (by omega), show (i : Int) - 1 = ((i - 1 : Nat) : Int) from by omega]
    simp only [tab_length, decide_eq_true h1, cond_true, hlen, idx_ok hi, idx_ok (show i - 1 < n by omega), Option.bind_some, tab_get hi, tab_get (show i - 1 < n by omega), hx, if_neg (show ¬ i = 0 by omega)]
    rfl
  · intro m out _
    have h1 : ¬ (n : Int) < (n : Int) := by omega
    conv => lhs; unfold impl_DifferTrace_5
    rw [tab_length, decide_eq_false h1, cond_false]

/-- Sums of the differences. -/
theorem IntegrateTrace_ok (φ : Nat) (hφ : 2000 ≤ φ) {n : Nat} (hn0 : 1 ≤ n) (hn : n ≤ 128) (b : Bool) (e : Nat) (d f : Nat → Nat) (h0 : fadd .f32 (can .f32 0) (d 0) = f 0) (h1 : ∀ i, i + 1 < n → fadd .f32 (f i) (d (i + 1)) = f (i + 1)) :
    impl_IntegrateTrace φ b e (tab n d) some = some (true, tab n f) := by
  unfold impl_IntegrateTrace
  rw [isTrace_ok φ b e (by rw [tab_length]; exact hn0) (by rw [tab_length]; exact hn)]
  simp only [Option.bind_some, Bool.not_true, cond_false, tab_length]
  have key : ∀ (r i fuel : Nat), i + r = n → r < fuel → impl_IntegrateTrace_6 φ n b e (tab n d) fuel (if i = 0 then can .f32 0 else f (i - 1)) i (tab i f) (fun _ _ e20 => some (true, e20)) = some (true, tab n f) := by
    intro r
    induction r with
    | zero =>
      intro i fuel hi hf
      obtain ⟨fuel, rfl⟩ : ∃ g, fuel = g + 1 := ⟨fuel - 1, by omega⟩
      have : i = n := by omega
      subst this
      have h1 : ¬ (i : Int) < (i : Int) := by omega
      conv => lhs; unfold impl_IntegrateTrace_6
      rw [decide_eq_false h1, cond_false]
    | succ r ih =>
      intro i fuel hi hf
      obtain ⟨fuel, rfl⟩ : ∃ g, fuel = g + 1 := ⟨fuel - 1, by omega⟩
      have hlt : (i : Int) < (n : Int) := by omega
      have hs : fadd .f32 (if i = 0 then can .f32 0 else f (i - 1)) (d i) = f i := by
        by_cases hz : i = 0
        · subst hz; simpa using h0
        · have := h1 (i - 1) (by omega)
          rw [if_neg hz]
          rwa [show i - 1 + 1 = i from by omega] at this
      conv => lhs; unfold impl_IntegrateTrace_6
      rw [wrap_i64 (show -9223372036854775808 ≤ (i : Int) + 1 by omega) (by omega)]
      simp only [decide_eq_true hlt, cond_true, tab_length, idx_ok (show i < n by omega), Option.bind_some, tab_get (show i < n by omega), hs]
      rw [room_ok (by have : Nat.add i 0 = i := rfl; omega) (by have : Nat.add i 0 = i := rfl; omega)]
      simp only [Option.bind_some, ← tab_succ]
      have := ih (i + 1) fuel (by omega) (by omega)
      rw [if_neg (by omega), show i + 1 - 1 = i from by omega] at this
      exact this
  exact key n 0 φ (by omega) (by omega)
end
end Go.Proofs.Ytedpmhnglbgihaa

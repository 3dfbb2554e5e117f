/-
  Loops by their rounds; lists as tables; bounds.
-/
import Derived.Test.YtcddghcjllgbiaaFlC
import Derived.Laws.Bits64b
namespace Go.Fl
open Go.Ev
set_option linter.unusedSimpArgs false

theorem wrap_i64 {x : Int} (h1 : -9223372036854775808 ≤ x) (h2 : x ≤ 9223372036854775807) : IntKind.wrap .i64 x = x := by
  have e : IntKind.wrap .i64 x = if (decide (x % 18446744073709551616 ≥ 9223372036854775808)) = true then x % 18446744073709551616 - 18446744073709551616 else x % 18446744073709551616 := rfl
  rw [e]
  by_cases h : x % 18446744073709551616 ≥ 9223372036854775808
  · rw [if_pos (decide_eq_true h)]; omega
  · rw [if_neg (by simpa using h)]; omega

theorem wrap_u64 (x : Int) : 0 ≤ IntKind.wrap .u64 x ∧ IntKind.wrap .u64 x < 18446744073709551616 := by
  have e : IntKind.wrap .u64 x = x % 18446744073709551616 := rfl
  rw [e]
  omega

theorem idx_ok {i n : Nat} (h : i < n) : idx (i : Int) n = some i := by
  unfold idx; rw [if_pos (by omega)]; simp
theorem idx_int {i : Int} {n : Nat} (h0 : 0 ≤ i) (h : i < n) : idx i n = some i.toNat := by
  unfold idx; rw [if_pos ⟨h0, h⟩]
theorem upto_ok {i n : Nat} (h : i ≤ n) : upto (i : Int) n = some i := by
  unfold upto; rw [if_pos (by omega)]; simp
theorem upto_int {i : Int} {n : Nat} (h0 : 0 ≤ i) (h : i ≤ n) : upto i n = some i.toNat := by
  unfold upto; rw [if_pos ⟨h0, h⟩]
theorem room_ok {n b : Nat} (h : n * b ≤ 140737488355328) (h2 : n ≤ 9223372036854775807) : room n b = some () := by
  unfold room; rw [if_pos ⟨h, h2⟩]
theorem making_ok {n b : Nat} (h : b * n ≤ 140737488355328) (h2 : n ≤ 9223372036854775807) : making (n : Int) b = some n := by
  unfold making
  rw [if_pos ⟨by omega, by rw [← Int.natCast_mul]; omega, by omega⟩]; simp
theorem nonzero_ok {y : Int} (h : y ≠ 0) : nonzero y = some () := by unfold nonzero; rw [if_neg h]

/-! ### Lists as tables -/

def tab {α : Type} (n : Nat) (f : Nat → α) : List α := (List.range n).map f

variable {α : Type}

theorem tab_length (n : Nat) (f : Nat → α) : (tab n f).length = n := by simp [tab]
theorem tab_get {n : Nat} {f : Nat → α} {i : Nat} (h : i < n) : (tab n f)[i]? = some (f i) := by simp [tab, h]
theorem tab_congr {n : Nat} {f g : Nat → α} (h : ∀ i, i < n → f i = g i) : tab n f = tab n g := by
  apply List.ext_getElem?
  intro i
  by_cases hi : i < n
  · rw [tab_get hi, tab_get hi, h i hi]
  · rw [List.getElem?_eq_none (by rw [tab_length]; omega), List.getElem?_eq_none (by rw [tab_length]; omega)]
theorem tab_set {n : Nat} {f : Nat → α} {i : Nat} {x : α} : (tab n f).set i x = tab n (fun j => if j = i then x else f j) := by
  apply List.ext_getElem?
  intro j
  by_cases hj : j < n
  · rw [tab_get hj]
    by_cases e : j = i
    · subst e; rw [List.getElem?_set_self (by rw [tab_length]; exact hj)]; simp
    · rw [List.getElem?_set_ne (Ne.symm e), tab_get hj]; simp [e]
  · rw [List.getElem?_eq_none (by simp [tab_length]; omega), List.getElem?_eq_none (by rw [tab_length]; omega)]
theorem tab_succ (n : Nat) (f : Nat → α) : tab (n + 1) f = tab n f ++ [f n] := by simp [tab, List.range_succ]
theorem tab_zero (f : Nat → α) : tab 0 f = [] := rfl
theorem replicate_tab (n : Nat) (x : α) : List.replicate n x = tab n (fun _ => x) := by
  apply List.ext_getElem?
  intro i
  by_cases hi : i < n
  · rw [tab_get hi]; simp [hi]
  · rw [List.getElem?_eq_none (by simp; omega), List.getElem?_eq_none (by rw [tab_length]; omega)]
theorem tab_isEmpty {n : Nat} {f : Nat → α} (h : 0 < n) : (tab n f).isEmpty = false := by
  cases n with
  | zero => omega
  | succ n => rw [tab_succ]; simp

/-! ### Loops -/

/-- A loop that goes on to its end, with what holds at each round. -/
theorem invLoop {σ ρ : Type} (len : Nat) (P : Nat → σ → Prop) (body : Nat → Nat → σ → Option ρ) (fin : σ → Option ρ)
    (hstep : ∀ n i s, i < len → P i s → ∃ s', body (n + 1) i s = body n (i + 1) s' ∧ P (i + 1) s')
    (hend : ∀ n s, P len s → body (n + 1) len s = fin s) :
    ∀ n i s, i ≤ len → len - i < n → P i s → ∃ s', body n i s = fin s' ∧ P len s' := by
  intro n
  induction n with
  | zero => intro i s _ h; omega
  | succ n ih =>
    intro i s hi hn hp
    by_cases h : i < len
    · obtain ⟨s', h1, h2⟩ := hstep n i s h hp
      obtain ⟨s2, h3, h4⟩ := ih (i + 1) s' (by omega) (by omega) h2
      exact ⟨s2, h1.trans h3, h4⟩
    · have : i = len := by omega
      subst this
      exact ⟨s, hend n s hp, hp⟩

/-- A loop that passes every round. -/
theorem allLoop {ρ : Type} (len : Nat) (body : Nat → Nat → Option ρ) (fin : Option ρ) (start : Nat)
    (hstep : ∀ n i, start ≤ i → i < len → body (n + 1) i = body n (i + 1)) (hend : ∀ n, body (n + 1) len = fin) :
    ∀ n i, start ≤ i → i ≤ len → len - i < n → body n i = fin := by
  intro n
  induction n with
  | zero => intro i _ _ h; omega
  | succ n ih =>
    intro i hs hi hn
    by_cases h : i < len
    · rw [hstep n i hs h]; exact ih (i + 1) (by omega) (by omega) (by omega)
    · have : i = len := by omega
      subst this; exact hend n

/-- A loop that sets each element of a table. -/
theorem setLoop {ρ : Type} (len : Nat) (f G : Nat → Nat) (body : Nat → Nat → List Nat → Option ρ) (fin : List Nat → Option ρ) (start : Nat)
    (hs : ∀ j, j < start → f j = G j) (hsl : start ≤ len)
    (hstep : ∀ n i, start ≤ i → i < len → ∀ out, out = tab len (fun j => if j < i then G j else f j) → body (n + 1) i out = body n (i + 1) (out.set i (G i)))
    (hend : ∀ n out, out = tab len G → body (n + 1) len out = fin out) :
    ∀ n, len - start < n → body n start (tab len f) = fin (tab len G) := by
  have key : ∀ n i out, start ≤ i → i ≤ len → len - i < n → out = tab len (fun j => if j < i then G j else f j) → body n i out = fin (tab len G) := by
    intro n
    induction n with
    | zero => intro i out _ _ h; omega
    | succ n ih =>
      intro i out h0 hi hn ho
      by_cases h : i < len
      · rw [hstep n i h0 h out ho]
        refine ih (i + 1) _ (by omega) (by omega) (by omega) ?_
        rw [ho, tab_set]
        apply tab_congr
        intro j _
        by_cases e : j = i
        · subst e; simp
        · rw [if_neg e]
          by_cases g : j < i
          · rw [if_pos g, if_pos (by omega)]
          · rw [if_neg g, if_neg (by omega)]
      · have : i = len := by omega
        subst this
        have ho' : out = tab i G := by rw [ho]; apply tab_congr; intro j hj; rw [if_pos hj]
        rw [hend n out ho', ho']
  intro n hn
  refine key n start _ (Nat.le_refl _) hsl hn ?_
  apply tab_congr
  intro j _
  by_cases g : j < start
  · rw [if_pos g, hs j g]
  · rw [if_neg g]

/-- A loop that appends. -/
theorem appLoop {ρ : Type} (len : Nat) (G : Nat → α) (body : Nat → Nat → List α → Option ρ) (fin : List α → Option ρ)
    (hstep : ∀ n i, i < len → body (n + 1) i (tab i G) = body n (i + 1) (tab i G ++ [G i]))
    (hend : ∀ n, body (n + 1) len (tab len G) = fin (tab len G)) :
    ∀ n, len < n → body n 0 [] = fin (tab len G) := by
  have key : ∀ n i, i ≤ len → len - i < n → body n i (tab i G) = fin (tab len G) := by
    intro n
    induction n with
    | zero => intro i _ h; omega
    | succ n ih =>
      intro i hi hn
      by_cases h : i < len
      · rw [hstep n i h, ← tab_succ]; exact ih (i + 1) (by omega) (by omega)
      · have : i = len := by omega
        subst this; exact hend n
  intro n hn
  exact key n 0 (by omega) (by omega)

end Go.Fl

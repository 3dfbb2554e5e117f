/-
  Arithmetic and comparison: what the machine does with numbers is what the plain functions say.
-/
import Derived.Test.YtcddghcjllgbiaaEvF
import Derived.WalkLawsBesides
namespace Go.Ev
open Go.RowKit

/-- The same but for draws. -/
structure WS (w w' : World) : Prop where
  heap : w'.heap = w.heap
  os : w'.os = w.os
  tape : w'.tape = w.tape
  output : w'.output = w.output

theorem WS.refl (w : World) : WS w w := ⟨rfl, rfl, rfl, rfl⟩
theorem WS.trans {a b c : World} (h : WS a b) (k : WS b c) : WS a c := ⟨k.heap.trans h.heap, k.os.trans h.os, k.tape.trans h.tape, k.output.trans h.output⟩
theorem WS.drew (w : World) (n : Nat) : WS w { w with drawn := n } := ⟨rfl, rfl, rfl, rfl⟩

/-! ### Not-a-numbers -/

theorem isNaNW_f32 (x : Nat) : isNaNW .f32 x = decide (2139095040 < x % 2147483648) := by
  have e : isNaNW .f32 x = (if x % 2147483648 < 8388608 then false else if x % 2147483648 < 2139095040 then false else if x % 2147483648 = 2139095040 then false else true) := by
    show (Ieee.Format.read Ieee.single x).isNaN = _
    unfold Ieee.Format.read
    simp only [show Ieee.single.signWeight = 2147483648 from rfl, show Ieee.single.binade = 8388608 from rfl, show Ieee.single.infRung = 2139095040 from rfl]
    by_cases h1 : x % 2147483648 < 8388608
    · rw [if_pos h1, if_pos h1]; rfl
    · rw [if_neg h1, if_neg h1]
      by_cases h2 : x % 2147483648 < 2139095040
      · rw [if_pos h2, if_pos h2]; rfl
      · rw [if_neg h2, if_neg h2]
        by_cases h3 : x % 2147483648 = 2139095040
        · rw [if_pos h3, if_pos h3]; rfl
        · rw [if_neg h3, if_neg h3]; rfl
  rw [e]
  by_cases h : 2139095040 < x % 2147483648
  · rw [if_neg (by omega), if_neg (by omega), if_neg (by omega), decide_eq_true h]
  · rw [decide_eq_false h]
    by_cases h1 : x % 2147483648 < 8388608
    · rw [if_pos h1]
    · rw [if_neg h1]
      by_cases h2 : x % 2147483648 < 2139095040
      · rw [if_pos h2]
      · rw [if_neg h2, if_pos (by omega)]

theorem isNaNW_f64 (x : Nat) : isNaNW .f64 x = decide (9218868437227405312 < x % 9223372036854775808) := by
  have e : isNaNW .f64 x = (if x % 9223372036854775808 < 4503599627370496 then false else if x % 9223372036854775808 < 9218868437227405312 then false else if x % 9223372036854775808 = 9218868437227405312 then false else true) := by
    show (Ieee.Format.read Ieee.double x).isNaN = _
    unfold Ieee.Format.read
    simp only [show Ieee.double.signWeight = 9223372036854775808 from rfl, show Ieee.double.binade = 4503599627370496 from rfl, show Ieee.double.infRung = 9218868437227405312 from rfl]
    by_cases h1 : x % 9223372036854775808 < 4503599627370496
    · rw [if_pos h1, if_pos h1]; rfl
    · rw [if_neg h1, if_neg h1]
      by_cases h2 : x % 9223372036854775808 < 9218868437227405312
      · rw [if_pos h2, if_pos h2]; rfl
      · rw [if_neg h2, if_neg h2]
        by_cases h3 : x % 9223372036854775808 = 9218868437227405312
        · rw [if_pos h3, if_pos h3]; rfl
        · rw [if_neg h3, if_neg h3]; rfl
  rw [e]
  by_cases h : 9218868437227405312 < x % 9223372036854775808
  · rw [if_neg (by omega), if_neg (by omega), if_neg (by omega), decide_eq_true h]
  · rw [decide_eq_false h]
    by_cases h1 : x % 9223372036854775808 < 4503599627370496
    · rw [if_pos h1]
    · rw [if_neg h1]
      by_cases h2 : x % 9223372036854775808 < 9218868437227405312
      · rw [if_pos h2]
      · rw [if_neg h2, if_pos (by omega)]

theorem isNaNW_nanW (k : FloatKind) : isNaNW k (nanW k) = true := by
  cases k
  · rw [isNaNW_f32]; rfl
  · rw [isNaNW_f64]; rfl

theorem read_nan {k : FloatKind} {x : Nat} (h : isNaNW k x = true) : ∃ s t, k.format.read x = .nan s t := by
  unfold isNaNW at h
  cases e : k.format.read x <;> rw [e] at h <;> first | (cases h; done) | exact ⟨_, _, rfl⟩

theorem can_of_nan {k : FloatKind} {x : Nat} (h : isNaNW k x = true) : can k x = nanW k := by simp [can, h]
theorem can_of_not {k : FloatKind} {x : Nat} (h : isNaNW k x = false) : can k x = x := by simp [can, h]
theorem can_can (k : FloatKind) (x : Nat) : can k (can k x) = can k x := by
  cases h : isNaNW k x
  · rw [can_of_not h, can_of_not h]
  · rw [can_of_nan h, can_of_nan (isNaNW_nanW k)]

theorem rung_notNaN (k : FloatKind) (neg : Bool) (rung : Nat) (h : rung ≤ k.format.infRung) : isNaNW k (k.format.word neg rung) = false := by
  cases k
  · have h' : rung ≤ 2139095040 := h
    rw [isNaNW_f32]
    refine decide_eq_false ?_
    have e : FloatKind.f32.format.word neg rung = if neg then 2147483648 + rung else rung := rfl
    rw [e]
    cases neg
    · simp only [Bool.false_eq_true, if_false]; omega
    · simp only [if_true]; omega
  · have h' : rung ≤ 9218868437227405312 := h
    rw [isNaNW_f64]
    refine decide_eq_false ?_
    have e : FloatKind.f64.format.word neg rung = if neg then 9223372036854775808 + rung else rung := rfl
    rw [e]
    cases neg
    · simp only [Bool.false_eq_true, if_false]; omega
    · simp only [if_true]; omega

theorem write_notNaN (k : FloatKind) (d : Ieee.Datum) (h : d.isNaN = false) : isNaNW k (k.format.write d) = false := by
  cases d with
  | nan s t => cases h
  | infinity s => exact rung_notNaN k s _ (Nat.le_refl _)
  | number s m e =>
    simp only [Ieee.Format.write, Ieee.Format.nearest]
    split
    · exact rung_notNaN k s 0 (Nat.zero_le _)
    · exact rung_notNaN k s _ (Nat.min_le_right _ _)

theorem sum_notNaN {x y d : Ieee.Datum} (h : x.sum y = some d) : d.isNaN = false := by
  unfold Ieee.Datum.sum at h
  split at h <;> first | (cases h; done) | skip
  · split at h <;> cases h; rfl
  · cases h; rfl
  · cases h; rfl
  · cases h; rfl

theorem product_notNaN {x y d : Ieee.Datum} (h : x.product y = some d) : d.isNaN = false := by
  unfold Ieee.Datum.product at h
  split at h <;> first | (cases h; done) | skip
  · cases h; rfl
  · split at h <;> cases h; rfl
  · split at h <;> cases h; rfl
  · cases h; rfl

theorem quotient_notNaN {n : Nat} {x y d : Ieee.Datum} (h : Ieee.Datum.quotient n x y = some d) : d.isNaN = false := by
  unfold Ieee.Datum.quotient at h
  split at h <;> first | (cases h; done) | skip
  · cases h; rfl
  · cases h; rfl
  · split at h
    · split at h <;> cases h; rfl
    · cases h; rfl

theorem root_notNaN {n : Nat} {x d : Ieee.Datum} (h : Ieee.Datum.root n x = some d) : d.isNaN = false := by
  unfold Ieee.Datum.root at h
  split at h <;> first | (cases h; done) | skip
  · split at h <;> cases h; rfl
  · split at h
    · cases h; rfl
    · split at h
      · cases h
      · cases h; rfl

/-- The four operations on words, none for an invalid one. -/
def arith (op : BinOp) (k : FloatKind) (x y : Nat) : Option Nat :=
  match op with
  | .add => k.format.add x y
  | .sub => k.format.sub x y
  | .mul => k.format.mul x y
  | .quo => k.format.div x y
  | _ => none

theorem arith_nan_left (op : BinOp) {k : FloatKind} {x : Nat} (h : isNaNW k x = true) (y : Nat) : arith op k x y = none := by
  obtain ⟨s, t, e⟩ := read_nan h
  cases op <;> simp only [arith, Ieee.Format.add, Ieee.Format.sub, Ieee.Format.mul, Ieee.Format.div, e] <;> rfl

theorem arith_nan_right (op : BinOp) {k : FloatKind} {y : Nat} (h : isNaNW k y = true) (x : Nat) : arith op k x y = none := by
  obtain ⟨s, t, e⟩ := read_nan h
  cases op <;> simp only [arith, Ieee.Format.add, Ieee.Format.sub, Ieee.Format.mul, Ieee.Format.div, e, Ieee.Datum.opposite] <;> first | rfl | (cases k.format.read x <;> rfl)

theorem arith_can (op : BinOp) (k : FloatKind) (x y : Nat) : arith op k (can k x) (can k y) = arith op k x y := by
  cases h : isNaNW k x
  · cases g : isNaNW k y
    · rw [can_of_not h, can_of_not g]
    · rw [can_of_nan g, arith_nan_right op (isNaNW_nanW k), arith_nan_right op g]
  · rw [can_of_nan h, arith_nan_left op (isNaNW_nanW k), arith_nan_left op h]

theorem arith_notNaN {op : BinOp} {k : FloatKind} {x y r : Nat} (h : arith op k x y = some r) : isNaNW k r = false := by
  cases op <;> simp only [arith, Ieee.Format.add, Ieee.Format.sub, Ieee.Format.mul, Ieee.Format.div, Option.map_eq_some_iff] at h <;> first | (cases h; done) | skip
  all_goals (obtain ⟨d, hd, rfl⟩ := h)
  · exact write_notNaN k d (sum_notNaN hd)
  · exact write_notNaN k d (sum_notNaN hd)
  · exact write_notNaN k d (product_notNaN hd)
  · exact write_notNaN k d (quotient_notNaN hd)

theorem cut32 (t : Nat) : 2139095040 < ((t % 2) * 2 ^ 31 + 0x7f800000 + 1 + (t / 2) % (2 ^ 23 - 1)) % 2147483648 := by
  have h1 : (t / 2) % (2 ^ 23 - 1) < 8388607 := Nat.mod_lt _ (by decide)
  generalize (t / 2) % (2 ^ 23 - 1) = r at *
  rcases Nat.mod_two_eq_zero_or_one t with h | h <;> rw [h] <;> omega
theorem cut64 (t : Nat) : 9218868437227405312 < ((t % 2) * 2 ^ 63 + 0x7ff0000000000000 + 1 + (t / 2) % (2 ^ 52 - 1)) % 9223372036854775808 := by
  have h1 : (t / 2) % (2 ^ 52 - 1) < 4503599627370495 := Nat.mod_lt _ (by decide)
  generalize (t / 2) % (2 ^ 52 - 1) = r at *
  rcases Nat.mod_two_eq_zero_or_one t with h | h <;> rw [h] <;> omega

theorem cut_nanBits (k : FloatKind) (x y t : Nat) : isNaNW k ((Question.nanBits k x y).cut t) = true := by
  cases k
  · rw [isNaNW_f32]; refine decide_eq_true ?_; exact cut32 t
  · rw [isNaNW_f64]; refine decide_eq_true ?_; exact cut64 t
theorem cut_nanConv (k : FloatKind) (x t : Nat) : isNaNW k ((Question.nanConv k x).cut t) = true := by
  cases k
  · rw [isNaNW_f32]; refine decide_eq_true ?_; exact cut32 t
  · rw [isNaNW_f64]; refine decide_eq_true ?_; exact cut64 t
theorem cut_nanMinMax (k : FloatKind) (m : Bool) (x y t : Nat) : isNaNW k ((Question.nanMinMax k m x y).cut t) = true := by
  cases k
  · rw [isNaNW_f32]; refine decide_eq_true ?_; exact cut32 t
  · rw [isNaNW_f64]; refine decide_eq_true ?_; exact cut64 t

section
variable {P : Program} {w : World}

/-- A float operation of the machine. -/
theorem run_arith (op : BinOp) (hop : op = .add ∨ op = .sub ∨ op = .mul ∨ op = .quo) (k : FloatKind) (x y : Nat) :
    ∃ r w', (Op.floatArith op k x y).run P w = .ok (.float k r) w' ∧ WS w w' ∧ can k r = orNaN k (arith op k (can k x) (can k y)) := by
  rw [arith_can]
  have e : (Op.floatArith op k x y).run P w = (match arith op k x y with | some r => (pure (.float k r) : Sem Value) | none => do pure (.float k (← choose (.nanBits k x y)))).run P w := by
    rcases hop with rfl | rfl | rfl | rfl <;> rfl
  rw [e]
  cases h : arith op k x y with
  | some r => exact ⟨r, w, rfl, WS.refl w, by rw [can_of_not (arith_notNaN h)]; rfl⟩
  | none =>
    refine ⟨(Question.nanBits k x y).cut (w.tape w.drawn (.nanBits k x y)), { w with drawn := w.drawn + 1 }, ?_, WS.drew w _, ?_⟩
    · simp [choose, Sem.run, Question.forced]
    · rw [can_of_nan (cut_nanBits ..)]; rfl

theorem order_can (k : FloatKind) (x y : Nat) : k.format.order (can k x) (can k y) = k.format.order x y := by
  have l : ∀ {x : Nat}, isNaNW k x = true → ∀ y, k.format.order x y = none := by
    intro x h y
    obtain ⟨s, t, e⟩ := read_nan h
    simp only [Ieee.Format.order, e]; rfl
  have r : ∀ {y : Nat}, isNaNW k y = true → ∀ x, k.format.order x y = none := by
    intro y h x
    obtain ⟨s, t, e⟩ := read_nan h
    simp only [Ieee.Format.order, e]; cases k.format.read x <;> rfl
  cases h : isNaNW k x
  · cases g : isNaNW k y
    · rw [can_of_not h, can_of_not g]
    · rw [can_of_nan g, r (isNaNW_nanW k), r g]
  · rw [can_of_nan h, l (isNaNW_nanW k), l h]

theorem fltBin_sound {op : BinOp} {k : FloatKind} {x y : Nat} {K : AV → Option Out} {out : Out} {ι : List Value} (t : TypeId)
    (h : fltBin op k (can k x) (can k y) K = some out) :
    ∃ r z w', (binOp op t (.float k x) (.float k y)).run P w = .ok z w' ∧ WS w w' ∧ AVR ι r z ∧ K r = some out := by
  have A : ∀ op, (op = .add ∨ op = .sub ∨ op = .mul ∨ op = .quo) → K (.flt k (orNaN k (arith op k (can k x) (can k y)))) = some out →
      ∃ r z w', (binOp op t (.float k x) (.float k y)).run P w = .ok z w' ∧ WS w w' ∧ AVR ι r z ∧ K r = some out := by
    intro op hop hK
    obtain ⟨r, w', h1, h2, h3⟩ := run_arith (P := P) (w := w) op hop k x y
    have e : (binOp op t (.float k x) (.float k y)).run P w = (Op.floatArith op k x y).run P w := by
      rcases hop with rfl | rfl | rfl | rfl <;> simp [binOp]
    exact ⟨.flt k (can k r), .float k r, w', e.trans h1, h2, .flt _ _, by rw [h3]; exact hK⟩
  have C : ∀ (op : BinOp) (b : Bool), (binOp op t (.float k x) (.float k y)).run P w = .ok (.bool b) w → K (.bool b) = some out →
      ∃ r z w', (binOp op t (.float k x) (.float k y)).run P w = .ok z w' ∧ WS w w' ∧ AVR ι r z ∧ K r = some out :=
    fun op b h1 h2 => ⟨.bool b, .bool b, w, h1, WS.refl w, .bool _, h2⟩
  cases op <;> simp only [fltBin, feq, fne, flt, fle, fgt, fge, order_can] at h <;> first | (cases h; done) | skip
  · exact A .add (by simp) h
  · exact A .sub (by simp) h
  · exact A .mul (by simp) h
  · exact A .quo (by simp) h
  all_goals (refine C _ _ ?_ h; simp [binOp, Op.floatCmp])

end
end Go.Ev

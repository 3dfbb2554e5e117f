/-
  Functions without a body.
-/
import Derived.Test.YtcddghcjllgbiaaEvV
import GoSem.Extern.MathFloatBits
import GoSem.Extern.MathFloor
import GoSem.Extern.MathSqrt
namespace Go.Ev

section
variable {P : Program}

theorem run_extern {f : FuncId} {fn : Func} {e : Array Value → Sem Value} (hf : P.funcs[f]? = some fn) (hname : (fn.name == "runtime.NumGoroutine") = false)
    (hb : fn.body.isNone = true) (hn : (Extern.findNext fn).isNone = true) (he : Extern.find fn = some e) (args : Array Value) {w w' : World} {u : Value} (hr : (e args).run P w = .ok u w') :
    (callFunc f args).run P w = .ok (.value u) w' := by
  have h1 : fn.name ≠ "runtime.NumGoroutine" := by simpa using hname
  have h2 : fn.body = none := by simpa using hb
  have h3 : Extern.findNext fn = none := by simpa using hn
  simp only [callFunc, Sem.run_bind, run_program, Result.andThen_ok, hf, h1, h2, beq_iff_eq, Option.isNone_none, h3, he, run_mark, ↓reduceIte, hr, Sem.run_pure]

theorem ext_ok {f : FuncId} {fn : Func} {e : Array Value → Sem Value} (hf : P.funcs[f]? = some fn) (hname : (fn.name == "runtime.NumGoroutine") = false)
    (hb : fn.body.isNone = true) (hn : (Extern.findNext fn).isNone = true) (he : Extern.find fn = some e) {R : Type} {S : List AV → Option R} {val : R → AV}
    (h : ∀ vs r, S vs = some r → ∀ ι us, AVRs ι vs us → ∀ w, ∃ u, (e us.toArray).run P w = .ok u w ∧ AVR ι (val r) u) : SumOk P f (.ext S val) := by
  intro vs r hs ι us hv w
  obtain ⟨u, h1, h2⟩ := h vs r hs ι us hv w
  exact ⟨u, w, run_extern hf hname hb hn he _ h1, WS.refl w, h2⟩

/-- The bits of a number that is one. -/
def x_f32bits (x : Nat) : Option Nat := bif Nat.beq x (nanW .f32) then none else some x
def S_f32bits : List AV → Option Nat
  | [.flt .f32 x] => x_f32bits x
  | _ => none
def f32bits_val (r : Nat) : AV := .int .u32 r

def x_f64bits (x : Nat) : Option Nat := bif Nat.beq x (nanW .f64) then none else some x
def S_f64bits : List AV → Option Nat
  | [.flt .f64 x] => x_f64bits x
  | _ => none
def f64bits_val (r : Nat) : AV := .int .u64 r

def x_f32frombits (n : Int) : Option Nat := some (can .f32 n.toNat)
def S_f32frombits : List AV → Option Nat
  | [.int .u32 n] => x_f32frombits n
  | _ => none
def f32frombits_val (r : Nat) : AV := .flt .f32 r

def x_f64frombits (n : Int) : Option Nat := some (can .f64 n.toNat)
def S_f64frombits : List AV → Option Nat
  | [.int .u64 n] => x_f64frombits n
  | _ => none
def f64frombits_val (r : Nat) : AV := .flt .f64 r

theorem can_ne {k : FloatKind} {b : Nat} (h : Nat.beq (can k b) (nanW k) = false) : can k b = b := by
  unfold can at h ⊢
  split
  · rename_i q; rw [if_pos q] at h; simp at h
  · rfl

theorem f32bits_spec : ∀ vs r, S_f32bits vs = some r → ∀ ι us, AVRs ι vs us → ∀ w, ∃ u, (Extern.MathFloatBits.float32bits us.toArray).run P w = .ok u w ∧ AVR ι (f32bits_val r) u := by
  intro vs r hs ι us hv w
  unfold S_f32bits at hs
  split at hs
  · rename_i x
    cases hv with | cons _ u _ t hu ht => ?_
    cases ht
    cases hu with | flt k b => ?_
    cases hq : Nat.beq (can .f32 b) (nanW .f32) with
    | true => simp only [x_f32bits] at hs; rw [hq] at hs; cases hs
    | false =>
      simp only [x_f32bits] at hs
      rw [hq] at hs
      simp only [cond_false, Option.some.injEq] at hs
      subst hs
      refine ⟨.int .u32 b, rfl, ?_⟩
      rw [can_ne hq]; exact .int _ _
  · cases hs

theorem f64bits_spec : ∀ vs r, S_f64bits vs = some r → ∀ ι us, AVRs ι vs us → ∀ w, ∃ u, (Extern.MathFloatBits.float64bits us.toArray).run P w = .ok u w ∧ AVR ι (f64bits_val r) u := by
  intro vs r hs ι us hv w
  unfold S_f64bits at hs
  split at hs
  · rename_i x
    cases hv with | cons _ u _ t hu ht => ?_
    cases ht
    cases hu with | flt k b => ?_
    cases hq : Nat.beq (can .f64 b) (nanW .f64) with
    | true => simp only [x_f64bits] at hs; rw [hq] at hs; cases hs
    | false =>
      simp only [x_f64bits] at hs
      rw [hq] at hs
      simp only [cond_false, Option.some.injEq] at hs
      subst hs
      refine ⟨.int .u64 b, rfl, ?_⟩
      rw [can_ne hq]; exact .int _ _
  · cases hs

theorem f32frombits_spec : ∀ vs r, S_f32frombits vs = some r → ∀ ι us, AVRs ι vs us → ∀ w, ∃ u, (Extern.MathFloatBits.float32frombits us.toArray).run P w = .ok u w ∧ AVR ι (f32frombits_val r) u := by
  intro vs r hs ι us hv w
  unfold S_f32frombits at hs
  split at hs
  · rename_i n
    cases hv with | cons _ u _ t hu ht => ?_
    cases ht
    cases hu
    cases hs
    exact ⟨.float .f32 n.toNat, rfl, .flt _ _⟩
  · cases hs

theorem f64frombits_spec : ∀ vs r, S_f64frombits vs = some r → ∀ ι us, AVRs ι vs us → ∀ w, ∃ u, (Extern.MathFloatBits.float64frombits us.toArray).run P w = .ok u w ∧ AVR ι (f64frombits_val r) u := by
  intro vs r hs ι us hv w
  unfold S_f64frombits at hs
  split at hs
  · rename_i n
    cases hv with | cons _ u _ t hu ht => ?_
    cases ht
    cases hu
    cases hs
    exact ⟨.float .f64 n.toNat, rfl, .flt _ _⟩
  · cases hs

theorem can_eq_of {k : FloatKind} {b : Nat} (h : isNaNW k (can k b) = false) : can k b = b := by
  cases q : isNaNW k b with
  | false => exact can_of_not q
  | true => rw [can_of_nan q, isNaNW_nanW] at h; cases h

/-- Rounded to an integer, one way or another. -/
def fround (way : Ieee.Toward) (x : Nat) : Nat := FloatKind.f64.encode ((FloatKind.f64.decode x).integral way)

def x_fround (way : Ieee.Toward) (x : Nat) : Option Nat := bif isNaNW .f64 x then none else some (fround way x)
def S_fround (way : Ieee.Toward) : List AV → Option Nat
  | [.flt .f64 x] => x_fround way x
  | _ => none
def fround_val (r : Nat) : AV := .flt .f64 r

theorem fround_spec (name : String) (way : Ieee.Toward) : ∀ vs r, S_fround way vs = some r → ∀ ι us, AVRs ι vs us → ∀ w, ∃ u, (Extern.MathFloor.toIntegral name way us.toArray).run P w = .ok u w ∧ AVR ι (fround_val r) u := by
  intro vs r hs ι us hv w
  unfold S_fround at hs
  split at hs
  · rename_i x
    cases hv with | cons _ u _ t hu ht => ?_
    cases ht
    cases hu with | flt k b => ?_
    cases hq : isNaNW .f64 (can .f64 b) with
    | true => simp only [x_fround] at hs; rw [hq] at hs; cases hs
    | false =>
      simp only [x_fround] at hs
      rw [hq] at hs
      simp only [cond_false, Option.some.injEq] at hs
      subst hs
      have hb := can_eq_of hq
      rw [hb] at hq ⊢
      have hd : (FloatKind.f64.decode b).isNaN = false := hq
      have hi : ((FloatKind.f64.decode b).integral way).isNaN = false := by
        cases hx : FloatKind.f64.decode b with
        | nan s t => rw [hx] at hd; cases hd
        | infinity n => rfl
        | number n m e => rfl
      refine ⟨.float .f64 (fround way b), ?_, ?_⟩
      · unfold fround
        show (Extern.MathFloor.toIntegral name way #[.float .f64 b]).run P w = _
        conv in (Extern.MathFloor.toIntegral _ _ _) => whnf
        cases hx : FloatKind.f64.decode b with
        | nan s t => rw [hx] at hd; cases hd
        | infinity n => rfl
        | number n m e => rfl
      · have := AVR.flt (ι := ι) .f64 (fround way b)
        rw [show can .f64 (fround way b) = fround way b from can_write hi] at this
        exact this
  · cases hs

def x_sqrt (x : Nat) : Option Nat := bif isNaNW .f64 x then none else some (fsqrt x)
def S_sqrt : List AV → Option Nat
  | [.flt .f64 x] => x_sqrt x
  | _ => none
def sqrt_val (r : Nat) : AV := .flt .f64 r

theorem cut_nanBits' (x : Nat) (t : Nat) : isNaNW .f64 ((Question.nanBits .f64 x x).cut t) = true := cut_nanBits _ _ _ _

theorem sqrt_spec : ∀ vs r, S_sqrt vs = some r → ∀ ι us, AVRs ι vs us → ∀ w, ∃ u w', (Extern.MathSqrt.sqrt us.toArray).run P w = .ok u w' ∧ WS w w' ∧ AVR ι (sqrt_val r) u := by
  intro vs r hs ι us hv w
  unfold S_sqrt at hs
  split at hs
  · rename_i x
    cases hv with | cons _ u _ t hu ht => ?_
    cases ht
    cases hu with | flt k b => ?_
    cases hq : isNaNW .f64 (can .f64 b) with
    | true => simp only [x_sqrt] at hs; rw [hq] at hs; cases hs
    | false =>
      simp only [x_sqrt] at hs
      rw [hq] at hs
      simp only [cond_false, Option.some.injEq] at hs
      subst hs
      have hb := can_eq_of hq
      rw [hb]
      unfold fsqrt
      cases hr : FloatKind.f64.format.sqrt b with
      | some r =>
        refine ⟨.float .f64 r, w, ?_, WS.refl w, ?_⟩
        · show (Extern.MathSqrt.sqrt #[.float .f64 b]).run P w = _
          conv in (Extern.MathSqrt.sqrt _) => whnf
          rw [hr]; rfl
        · have hn : isNaNW .f64 r = false := by
            unfold Ieee.Format.sqrt at hr
            rw [Option.map_eq_some_iff] at hr
            obtain ⟨d, hroot, rfl⟩ := hr
            exact write_notNaN .f64 d (root_notNaN hroot)
          have := AVR.flt (ι := ι) .f64 r
          rw [can_of_not hn] at this
          exact this
      | none =>
        refine ⟨.float .f64 ((Question.nanBits .f64 b b).cut (w.tape w.drawn (.nanBits .f64 b b))), { w with drawn := w.drawn + 1 }, ?_, WS.drew w _, ?_⟩
        · show (Extern.MathSqrt.sqrt #[.float .f64 b]).run P w = _
          conv in (Extern.MathSqrt.sqrt _) => whnf
          rw [hr]
          simp [choose, Sem.run, Question.forced]
        · have := AVR.flt (ι := ι) .f64 ((Question.nanBits .f64 b b).cut (w.tape w.drawn (.nanBits .f64 b b)))
          rw [can_of_nan (cut_nanBits' _ _)] at this
          exact this
  · cases hs

theorem run_extern' {f : FuncId} {fn : Func} {e : Array Value → Sem Value} (hf : P.funcs[f]? = some fn) (hname : (fn.name == "runtime.NumGoroutine") = false)
    (hb : fn.body.isNone = true) (hn : (Extern.findNext fn).isNone = true) (he : Extern.find fn = some e) (args : Array Value) {w w' : World} {u : Value} (hr : (e args).run P w = .ok u w') :
    (callFunc f args).run P w = .ok (.value u) w' := run_extern hf hname hb hn he args hr

theorem ext_ok' {f : FuncId} {fn : Func} {e : Array Value → Sem Value} (hf : P.funcs[f]? = some fn) (hname : (fn.name == "runtime.NumGoroutine") = false)
    (hb : fn.body.isNone = true) (hn : (Extern.findNext fn).isNone = true) (he : Extern.find fn = some e) {R : Type} {S : List AV → Option R} {val : R → AV}
    (h : ∀ vs r, S vs = some r → ∀ ι us, AVRs ι vs us → ∀ w, ∃ u w', (e us.toArray).run P w = .ok u w' ∧ WS w w' ∧ AVR ι (val r) u) : SumOk P f (.ext S val) := by
  intro vs r hs ι us hv w
  obtain ⟨u, w', h1, h2, h3⟩ := h vs r hs ι us hv w
  exact ⟨u, w', run_extern hf hname hb hn he _ h1, h2, h3⟩

end
end Go.Ev

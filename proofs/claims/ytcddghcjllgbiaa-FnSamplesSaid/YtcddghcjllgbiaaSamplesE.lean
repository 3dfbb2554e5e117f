/-
  The event in three traces: all places, numbers and lengths, one after another.
-/
import Derived.Test.YtcddghcjllgbiaaSamplesA
import Derived.KernelRfl
set_option maxRecDepth 100000
namespace Go.Proofs.Ytcddghcjllgbiaa
open Go.Ev Go.Fl

def fuelS : Nat := 60

/-- Half of a number that is drawn. -/
noncomputable def placeW (z : Int) : Nat := fdiv .f32 (itof .f32 z) (can .f32 1073741824)

/-- What the law does behind the lists: with what it goes on when it fails, and with its last answer. -/
noncomputable def evPart (φ : Nat) (n k : Int) (x : Nat) (b : Bool) (e : Nat) (l : List Int) (b' : Bool) (e' : Nat) (l' : List Int) : Option Bool :=
  Option.bind (impl_FlatGather φ n Bool.true 27 [(can .f32 0), (can .f32 1065353216), x] some) fun r114 =>
  Option.bind (impl_AddEvent φ r114.1 (itof .f32 k) (can .f32 1065353216) (can .f32 1077936128) Bool.true 27 r114.2.2.1 Bool.true 25 r114.2.2.2 some) fun r115 =>
  bif (!r114.2.1) then
    some false
  else
    bif (!r115.2.1) then
      some false
    else
      Option.bind (impl_ValidGather φ r115.1 Bool.true 27 r115.2.2.1 Bool.true 25 r115.2.2.2 some) fun r116 =>
      bif (!r116) then
        some false
      else
        bif ((((List.length r115.2.2.2) : Nat) : Int) != (3 : Int)) then
          some false
        else
          laws_FnSamples_c32 φ n k b e l b' e' l' r115.2.2.1 r115.2.2.2 r115.1 some

def yes : Option Bool → Bool
  | some true => true
  | _ => false

theorem yes_iff {x : Option Bool} (h : yes x = true) : x = some true := by
  unfold yes at h
  split at h
  · rfl
  · cases h

noncomputable def evAll (r : Nat) (b : Bool) (e : Nat) (l : List Int) (b' : Bool) (e' : Nat) (l' : List Int) : Bool :=
  (List.range (r + 1)).all fun k => (List.range 12).all fun p => yes (evPart fuelS ((r + 2 : Nat) : Int) (k : Int) (placeW (p : Int)) b e l b' e' l')

theorem evAll_0 (b : Bool) (e : Nat) (l : List Int) (b' : Bool) (e' : Nat) (l' : List Int) : evAll 0 b e l b' e' l' = true := by kernel_rfl
theorem evAll_1 (b : Bool) (e : Nat) (l : List Int) (b' : Bool) (e' : Nat) (l' : List Int) : evAll 1 b e l b' e' l' = true := by kernel_rfl
theorem evAll_2 (b : Bool) (e : Nat) (l : List Int) (b' : Bool) (e' : Nat) (l' : List Int) : evAll 2 b e l b' e' l' = true := by kernel_rfl
theorem evAll_3 (b : Bool) (e : Nat) (l : List Int) (b' : Bool) (e' : Nat) (l' : List Int) : evAll 3 b e l b' e' l' = true := by kernel_rfl
theorem evAll_4 (b : Bool) (e : Nat) (l : List Int) (b' : Bool) (e' : Nat) (l' : List Int) : evAll 4 b e l b' e' l' = true := by kernel_rfl
theorem evAll_5 (b : Bool) (e : Nat) (l : List Int) (b' : Bool) (e' : Nat) (l' : List Int) : evAll 5 b e l b' e' l' = true := by kernel_rfl
theorem evAll_6 (b : Bool) (e : Nat) (l : List Int) (b' : Bool) (e' : Nat) (l' : List Int) : evAll 6 b e l b' e' l' = true := by kernel_rfl
theorem evAll_7 (b : Bool) (e : Nat) (l : List Int) (b' : Bool) (e' : Nat) (l' : List Int) : evAll 7 b e l b' e' l' = true := by kernel_rfl
theorem evAll_8 (b : Bool) (e : Nat) (l : List Int) (b' : Bool) (e' : Nat) (l' : List Int) : evAll 8 b e l b' e' l' = true := by kernel_rfl
theorem evAll_9 (b : Bool) (e : Nat) (l : List Int) (b' : Bool) (e' : Nat) (l' : List Int) : evAll 9 b e l b' e' l' = true := by kernel_rfl

end Go.Proofs.Ytcddghcjllgbiaa

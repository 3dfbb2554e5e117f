/-
  From a law's summary to its call: two rows of bytes come in, true comes out, nothing that was there is turned.
-/
import Derived.Test.YtcddghcjllgbiaaEvW
import Derived.Below
namespace Go.Ev
open Go.RowKit

/-- A row of bytes that came in. -/
def ByteRow (w : World) (a : Option Addr) (len cap : Nat) (l : List Int) : Prop :=
  l.length = len ∧ len ≤ cap ∧ cap ≤ maxLen ∧ (len ≠ 0 → ∃ b o, a = some ⟨b, o, none⟩ ∧ ∀ j (_ : j < l.length), w.cell? ⟨b, o + j, none⟩ = some (.int .u8 l[j]))

theorem law_walk {P : Program} {n : FuncId} {e : TypeId} {l m : List Int} {R : Type} {S : List AV → List Blk → Option R} {val : R → AV} {r : R} (hs : SumOk P n (.rd S val))
    (hr : S [.whole 0, .whole 1] [.vec false e (.int .u8) l, .vec false e (.int .u8) m] = some r) (hv : val r = .bool true)
    {w : World} {a0 a1 : Option Addr} {len0 cap0 len1 cap1 : Nat} (h0 : ByteRow w a0 len0 cap0 l) (h1 : ByteRow w a1 len1 cap1 m) :
    Calls P n #[.slice a0 len0 cap0, .slice a1 len1 cap1] w fun e w' => e = .returned (.bool true) ∧ Below w.heap.size w w' := by
  have hrw : ∀ k, ¬ RW [.slice a0 len0 cap0, .slice a1 len1 cap1] [.vec false e (.int .u8) l, .vec false e (.int .u8) m] k := by
    rintro k ⟨id, b, u, hb, hr, _, _⟩
    match id, hb with
    | 0, hb => cases hb; cases hr
    | 1, hb => cases hb; cases hr
    | n + 2, hb => simp at hb
  have hrow : ∀ {a : Option Addr} {len cap : Nat} {l : List Int} {A : Nat → Prop}, (∀ k, ¬ A k) → ByteRow w a len cap l → DR w A (.slice (.int .u8)) l [.slice a len cap] := by
    rintro a len cap l A hA ⟨rfl, h2, h3, h4⟩
    refine ⟨a, cap, rfl, h2, h3, by decide, fun hne => ?_⟩
    obtain ⟨b, o, rfl, hc⟩ := h4 hne
    refine ⟨b, o, rfl, hA b, fun i hi => ⟨[.int .u8 l[i]], rfl, fun j v hj => ?_, rfl⟩⟩
    match j, hj with
    | 0, hj =>
      cases hj
      have := hc i hi
      simpa [Ty.size] using this
    | j + 1, hj => simp at hj
  have sat : Sat w (RW [.slice a0 len0 cap0, .slice a1 len1 cap1] [.vec false e (.int .u8) l, .vec false e (.int .u8) m]) (fun _ => False) [.slice a0 len0 cap0, .slice a1 len1 cap1] [.slice a0 len0 cap0, .slice a1 len1 cap1] [.vec false e (.int .u8) l, .vec false e (.int .u8) m] w := by
    refine ⟨rfl, ⟨[], rfl⟩, ?_, ?_, fun k hk => absurd hk (hrw k), fun _ _ _ => rfl, Nat.le_refl _, rfl, rfl, rfl, fun k hk => hk.elim⟩
    · intro id b u hb hu
      match id, hb, hu with
      | 0, hb, hu => cases hb; cases hu; exact hrow (fun k hk => hk.elim _root_.id (hrw k)) h0
      | 1, hb, hu => cases hb; cases hu; exact hrow (fun k hk => hk.elim _root_.id (hrw k)) h1
      | n + 2, hb, _ => simp at hb
    · intro id id' b b' u u' k hb _ hr _ hu _ hk _
      exact absurd ⟨id, b, u, hb, hr, hu, hk⟩ (hrw k)
  have hok := hs.2 _ _ _ hr
  rw [hv] at hok
  have hargs : AVRs [.slice a0 len0 cap0, .slice a1 len1 cap1] [.whole 0, .whole 1] [.slice a0 len0 cap0, .slice a1 len1 cap1] :=
    .cons _ _ _ _ (.whole 0 _ _ _ rfl) (.cons _ _ _ _ (.whole 1 _ _ _ rfl) .nil)
  refine (hok w _ _ _ sat hargs).mono ?_
  rintro ex w' ⟨u, r', rfl, s', hu⟩
  cases hu
  exact ⟨rfl, s'.os, s'.tape, s'.output, s'.size, fun k hk => s'.frame k hk (hrw k)⟩

end Go.Ev

/-
  What an abstract state says of a world; what stays true of it when the world goes on.
-/
import Derived.Test.YtcddghcjllgbiaaEvB
import Derived.Below
namespace Go.Ev
open Go.RowKit

theorem nth_eq {α : Type} (l : List α) (n : Nat) : nth l n = l[n]? := by
  induction l generalizing n with
  | nil => simp [nth]
  | cons x r ih => cases n <;> simp [nth, ih]

theorem setNth_eq {α : Type} (l : List α) (n : Nat) (v : α) : setNth l n v = l.set n v := by
  induction l generalizing n with
  | nil => simp [setNth]
  | cons x r ih => cases n <;> simp [setNth, ih]

/-! ### Values -/

mutual
inductive AVR (ι : List Value) : AV → Value → Prop
  | any (u : Value) : AVR ι .any u
  | bool (b : Bool) : AVR ι (.bool b) (.bool b)
  | int (k : IntKind) (n : Int) : AVR ι (.int k n) (.int k n)
  | flt (k : FloatKind) (b : Nat) : AVR ι (.flt k (can k b)) (.float k b)
  | cpx (k : FloatKind) (a b : Nat) : AVR ι (.cpx k (can k a) (can k b)) (.complex k a b)
  | str (s : ByteArray) : AVR ι (.str s) (.string s)
  | val (v : Value) : AVR ι (.val v) v
  | ptr (id off b : Nat) : ι[id]? = some (.pointer (some ⟨b, 0, none⟩)) → AVR ι (.ptr id off) (.pointer (some ⟨b, off, none⟩))
  | elt (id i size off b o n c : Nat) : ι[id]? = some (.slice (some ⟨b, o, none⟩) n c) → AVR ι (.elt id i size off) (.pointer (some ⟨b, o + i * size + off, none⟩))
  | whole (id : Nat) (a : Option Addr) (n c : Nat) : ι[id]? = some (.slice a n c) → AVR ι (.whole id) (.slice a n c)
  | sub (id lo len size : Nat) (a a' : Option Addr) (n c c' : Nat) : ι[id]? = some (.slice a n c) → lo + len ≤ n → len ≤ c' → c' ≤ maxLen →
      (len ≠ 0 → ∃ b o, a = some ⟨b, o, none⟩ ∧ a' = some ⟨b, o + lo * size, none⟩) → AVR ι (.sub id lo len size) (.slice a' len c')
  | nocap (a : Option Addr) : AVR ι .nocap (.slice a 0 0)
  | fn (f : FuncId) (as cs : List AV) (us vs : List Value) : AVRs ι as us → AVRs ι cs vs → AVR ι (.fn f as cs) (.func (.func f) us.toArray vs.toArray)
  | agg (cs : List AV) (us : List Value) : AVRs ι cs us → AVR ι (.agg cs) (.agg us.toArray)
  | tup (cs : List AV) (us : List Value) : AVRs ι cs us → AVR ι (.tup cs) (.tuple us.toArray)
inductive AVRs (ι : List Value) : List AV → List Value → Prop
  | nil : AVRs ι [] []
  | cons (x : AV) (u : Value) (r : List AV) (s : List Value) : AVR ι x u → AVRs ι r s → AVRs ι (x :: r) (u :: s)
end

/-- Numbers mean the same: more blocks are known. -/
def Ext (ι ι' : List Value) : Prop := ∀ (id : Nat) (u : Value), ι[id]? = some u → ι'[id]? = some u

theorem Ext.refl (ι : List Value) : Ext ι ι := fun _ _ h => h
theorem Ext.trans {a b c : List Value} (h : Ext a b) (k : Ext b c) : Ext a c := fun i u x => k i u (h i u x)
theorem Ext.app (ι r : List Value) : Ext ι (ι ++ r) := fun id u h => by
  rw [List.getElem?_append_left]; exact h
  rcases Nat.lt_or_ge id ι.length with q | q
  · exact q
  · rw [List.getElem?_eq_none q] at h; cases h

mutual
theorem AVR.ext {ι ι' : List Value} (he : Ext ι ι') {x : AV} {u : Value} (h : AVR ι x u) : AVR ι' x u := by
  cases h with
  | any => exact .any _
  | bool => exact .bool _
  | int => exact .int _ _
  | flt => exact .flt _ _
  | cpx => exact .cpx _ _ _
  | str => exact .str _
  | val => exact .val _
  | ptr id off b h => exact .ptr _ _ _ (he _ _ h)
  | elt id i size off b o n c h => exact .elt _ _ _ _ _ _ _ _ (he _ _ h)
  | whole id a n c h => exact .whole _ _ _ _ (he _ _ h)
  | sub id lo len size a a' n c c' h h1 h2 h3 h4 => exact .sub _ _ _ _ a a' n c c' (he _ _ h) h1 h2 h3 h4
  | nocap a => exact .nocap a
  | fn f as cs us vs h1 h2 => exact .fn _ _ _ _ _ (h1.ext he) (h2.ext he)
  | agg cs us h => exact .agg _ _ (h.ext he)
  | tup cs us h => exact .tup _ _ (h.ext he)
theorem AVRs.ext {ι ι' : List Value} (he : Ext ι ι') {x : List AV} {u : List Value} (h : AVRs ι x u) : AVRs ι' x u := by
  cases h with
  | nil => exact .nil
  | cons x u r s h1 h2 => exact .cons _ _ _ _ (h1.ext he) (h2.ext he)
end

section lists
variable {ι : List Value}

theorem AVRs.length {x : List AV} {u : List Value} (h : AVRs ι x u) : u.length = x.length := by
  induction x generalizing u with
  | nil => cases h; rfl
  | cons a r ih => cases h with | cons _ _ _ _ _ h2 => simp [ih h2]

theorem AVRs.get {x : List AV} {u : List Value} (h : AVRs ι x u) {n : Nat} {a : AV} (ha : x[n]? = some a) : ∃ v, u[n]? = some v ∧ AVR ι a v := by
  induction x generalizing u n with
  | nil => simp at ha
  | cons b r ih => cases h with
    | cons _ v _ s h1 h2 =>
      cases n with
      | zero => simp at ha; subst ha; exact ⟨v, by simp, h1⟩
      | succ n => simpa using ih h2 (by simpa using ha)

theorem AVRs.get' {x : List AV} {u : List Value} (h : AVRs ι x u) {n : Nat} {v : Value} (hv : u[n]? = some v) : ∃ a, x[n]? = some a ∧ AVR ι a v := by
  have hl := h.length
  rcases Nat.lt_or_ge n u.length with q | q
  · obtain ⟨w, hw, hr⟩ := h.get (n := n) (a := x[n]'(by omega)) (List.getElem?_eq_getElem (by omega))
    rw [hv] at hw; cases hw
    exact ⟨_, List.getElem?_eq_getElem (by omega), hr⟩
  · rw [List.getElem?_eq_none q] at hv; cases hv

theorem AVRs.mk {x : List AV} {u : List Value} (hl : u.length = x.length) (h : ∀ (n : Nat) a v, x[n]? = some a → u[n]? = some v → AVR ι a v) : AVRs ι x u := by
  induction x generalizing u with
  | nil => cases u with | nil => exact .nil | cons _ _ => simp at hl
  | cons a r ih => cases u with
    | nil => simp at hl
    | cons v s => exact .cons _ _ _ _ (h 0 a v rfl rfl) (ih (by simpa using hl) fun n b w hb hw => h (n + 1) b w (by simpa using hb) (by simpa using hw))

theorem AVRs.set {x : List AV} {u : List Value} (h : AVRs ι x u) (n : Nat) {a : AV} {v : Value} (ha : AVR ι a v) : AVRs ι (x.set n a) (u.set n v) := by
  induction x generalizing u n with
  | nil => cases h; exact .nil
  | cons b r ih => cases h with
    | cons _ w _ s h1 h2 => cases n with
      | zero => exact .cons _ _ _ _ ha h2
      | succ n => exact .cons _ _ _ _ h1 (ih h2 n)

theorem AVRs.append {x y : List AV} {u v : List Value} (h : AVRs ι x u) (k : AVRs ι y v) : AVRs ι (x ++ y) (u ++ v) := by
  induction x generalizing u with
  | nil => cases h; exact k
  | cons b r ih => cases h with | cons _ w _ s h1 h2 => exact .cons _ _ _ _ h1 (ih h2)

theorem AVRs.take {x : List AV} {u : List Value} (h : AVRs ι x u) (n : Nat) : AVRs ι (x.take n) (u.take n) := by
  induction x generalizing u n with
  | nil => cases h; simpa using AVRs.nil
  | cons b r ih => cases h with
    | cons _ w _ s h1 h2 => cases n with
      | zero => simpa using AVRs.nil
      | succ n => exact .cons _ _ _ _ h1 (ih h2 n)

theorem AVRs.drop {x : List AV} {u : List Value} (h : AVRs ι x u) (n : Nat) : AVRs ι (x.drop n) (u.drop n) := by
  induction x generalizing u n with
  | nil => cases h; simpa using AVRs.nil
  | cons b r ih => cases h with
    | cons _ w _ s h1 h2 => cases n with
      | zero => exact .cons _ _ _ _ h1 h2
      | succ n => exact ih h2 n

theorem AVRs.anys (n : Nat) (u : List Value) (h : u.length = n) : AVRs ι (List.replicate n .any) u := by
  induction n generalizing u with
  | zero => cases u with | nil => exact .nil | cons _ _ => simp at h
  | succ n ih => cases u with
    | nil => simp at h
    | cons a r => exact .cons _ _ _ _ (.any _) (ih r (by simpa using h))

theorem AVRs.split {x y : List AV} {u : List Value} (h : AVRs ι (x ++ y) u) : ∃ a b, u = a ++ b ∧ AVRs ι x a ∧ AVRs ι y b := by
  induction x generalizing u with
  | nil => exact ⟨[], u, rfl, .nil, h⟩
  | cons b r ih => cases h with
    | cons _ w _ s h1 h2 =>
      obtain ⟨a, c, rfl, p, q⟩ := ih h2
      exact ⟨w :: a, c, rfl, .cons _ _ _ _ h1 p, q⟩
end lists

/-! ### Data in memory -/

/-- A datum is what some cells say; what its slices lead to lies outside of 'A'. -/
def DR (w : World) (A : Nat → Prop) : (τ : Ty) → τ.den → List Value → Prop
  | .bool, b, cs => cs = [.bool b]
  | .int k, n, cs => cs = [.int k n]
  | .flt k, x, cs => ∃ b, cs = [.float k b] ∧ can k b = x
  | .cpx k, x, cs => ∃ a b, cs = [.complex k a b] ∧ can k a = x.1 ∧ can k b = x.2
  | .str, s, cs => cs = [.string s]
  | .slice σ, xs, cs => ∃ a c, cs = [.slice a xs.length c] ∧ xs.length ≤ c ∧ c ≤ maxLen ∧ 0 < σ.size ∧
      (xs.length ≠ 0 → ∃ b o, a = some ⟨b, o, none⟩ ∧ ¬ A b ∧ ∀ i (_ : i < xs.length), ∃ l, l.length = σ.size ∧
        (∀ j v, l[j]? = some v → w.cell? ⟨b, o + i * σ.size + j, none⟩ = some v) ∧ DR w A σ xs[i] l)
  | .unit, _, cs => cs = []
  | .pair a b, x, cs => ∃ l r, cs = l ++ r ∧ DR w A a x.1 l ∧ DR w A b x.2 r

theorem DR.length {w : World} {A : Nat → Prop} {τ : Ty} {x : τ.den} {cs : List Value} (h : DR w A τ x cs) : cs.length = τ.size := by
  induction τ generalizing cs with
  | bool => cases h; rfl
  | int k => cases h; rfl
  | flt k => obtain ⟨b, rfl, _⟩ := h; rfl
  | cpx k => obtain ⟨a, b, rfl, _⟩ := h; rfl
  | str => cases h; rfl
  | slice σ ih => obtain ⟨a, c, rfl, _⟩ := h; rfl
  | unit => cases h; rfl
  | pair a b iha ihb => obtain ⟨l, r, rfl, h1, h2⟩ := h; simp [Ty.size, iha h1, ihb h2]

theorem lt_of_cell {w : World} {a : Addr} {v : Value} (h : w.cell? a = some v) : a.block < w.heap.size := by
  rcases Nat.lt_or_ge a.block w.heap.size with q | q
  · exact q
  · rw [World.cell?, Array.getElem?_eq_none q] at h; simp at h

/-- The world goes on, the datum stays. -/
theorem DR.step {w w' : World} {A A' : Nat → Prop} (hs : ∀ k, k < w.heap.size → ¬ A k → ¬ A' k ∧ w'.heap[k]? = w.heap[k]?) {τ : Ty} {x : τ.den} {cs : List Value} (h : DR w A τ x cs) : DR w' A' τ x cs := by
  induction τ generalizing cs with
  | bool => exact h
  | int k => exact h
  | flt k => exact h
  | cpx k => exact h
  | str => exact h
  | slice σ ih =>
    obtain ⟨a, c, rfl, h1, h2, h0, h3⟩ := h
    refine ⟨a, c, rfl, h1, h2, h0, fun hne => ?_⟩
    obtain ⟨b, o, rfl, hA, h4⟩ := h3 hne
    have hb : b < w.heap.size := by
      obtain ⟨l, hl, hc, _⟩ := h4 0 (by omega)
      have : l[0]? = some (l[0]'(by omega)) := List.getElem?_eq_getElem (by omega)
      exact lt_of_cell (hc _ _ this)
    obtain ⟨hA', hbl⟩ := hs b hb hA
    refine ⟨b, o, rfl, hA', fun i hi => ?_⟩
    obtain ⟨l, hl, hc, hd⟩ := h4 i hi
    exact ⟨l, hl, fun j v hv => by rw [← hc j v hv]; exact World.cell?_of_block (w := w) (w' := w') hbl, ih hd⟩
  | unit => exact h
  | pair a b iha ihb => obtain ⟨l, r, rfl, h1, h2⟩ := h; exact ⟨l, r, rfl, iha h1, ihb h2⟩

/-! ### Blocks -/

def vblock : Value → Option Nat
  | .pointer (some a) => some a.block
  | .slice (some a) _ _ => some a.block
  | _ => none

def Blk.rw : Blk → Bool
  | .cells _ _ => true
  | .vec true _ _ _ => true
  | _ => false

def BR (w : World) (A : Nat → Prop) (ι : List Value) (u : Value) : Blk → Prop
  | .dead => True
  | .cells t cs => ∃ b arr, u = .pointer (some ⟨b, 0, none⟩) ∧ w.heap[b]? = some (.cells arr t (0, 0)) ∧ AVRs ι cs arr.toList
  | .vec true e τ xs => 0 < τ.size ∧ ∃ cells, w.ownsRow 0 e τ.size u xs.length cells ∧ ∀ i (_ : i < xs.length), DR w A τ xs[i] ((cells.drop (i * τ.size)).take τ.size)
  | .vec false _ τ xs => DR w A (.slice τ) xs [u]

/-- A block that the state may write. -/
def RW (ι : List Value) (h : List Blk) (k : Nat) : Prop := ∃ (id : Nat) (b : Blk) (u : Value), h[id]? = some b ∧ b.rw = true ∧ ι[id]? = some u ∧ vblock u = some k

structure Sat (w0 : World) (R0 Y : Nat → Prop) (ι0 ι : List Value) (h : List Blk) (w : World) : Prop where
  len : ι.length = h.length
  pre : ∃ r, ι = ι0 ++ r
  br : ∀ (id : Nat) (b : Blk) (u : Value), h[id]? = some b → ι[id]? = some u → BR w (fun k => Y k ∨ RW ι h k) ι u b
  ne : ∀ (id id' : Nat) (b b' : Blk) (u u' : Value) (k : Nat), h[id]? = some b → h[id']? = some b' → b.rw = true → b'.rw = true → ι[id]? = some u → ι[id']? = some u' → vblock u = some k → vblock u' = some k → id = id'
  old : ∀ k, RW ι h k → (R0 k ∨ w0.heap.size ≤ k) ∧ ¬ Y k
  frame : ∀ k, k < w0.heap.size → ¬ R0 k → w.heap[k]? = w0.heap[k]?
  size : w0.heap.size ≤ w.heap.size
  os : w.os = w0.os
  tape : w.tape = w0.tape
  output : w.output = w0.output
  ylow : ∀ k, Y k → k < w0.heap.size

theorem ownsRow_block {w w' : World} {base : Nat} {e : TypeId} {size : Nat} {v : Value} {n : Nat} {xs : List Value} (h : w.ownsRow base e size v n xs)
    (hb : ∀ k, vblock v = some k → w'.heap[k]? = w.heap[k]?) : w'.ownsRow base e size v n xs := by
  obtain ⟨h1, h2⟩ := h
  refine ⟨h1, ?_⟩
  rcases h2 with h2 | ⟨g, cap, cur, rfl, hg, hc, r⟩
  · exact .inl h2
  · exact .inr ⟨g, cap, cur, rfl, hg, by rw [hb g rfl]; exact hc, r⟩

theorem ownsRow_lt {w : World} {base : Nat} {e : TypeId} {size : Nat} {v : Value} {n : Nat} {xs : List Value} (h : w.ownsRow base e size v n xs) {k : Nat} (hk : vblock v = some k) : k < w.heap.size := by
  obtain ⟨_, h2⟩ := h
  rcases h2 with ⟨rfl, _⟩ | ⟨g, cap, cur, rfl, hg, hc, r⟩
  · simp [vblock] at hk
  · simp [vblock] at hk; subst hk
    rcases Nat.lt_or_ge g w.heap.size with q | q
    · exact q
    · rw [Array.getElem?_eq_none q] at hc; cases hc

theorem BR.lt {w : World} {A : Nat → Prop} {ι : List Value} {u : Value} {b : Blk} (h : BR w A ι u b) (hr : b.rw = true) {k : Nat} (hk : vblock u = some k) : k < w.heap.size := by
  cases b with
  | dead => simp [Blk.rw] at hr
  | cells t cs =>
    obtain ⟨g, arr, rfl, hb, _⟩ := h
    simp [vblock] at hk; subst hk
    rcases Nat.lt_or_ge g w.heap.size with q | q
    · exact q
    · rw [Array.getElem?_eq_none q] at hb; cases hb
  | vec rw e τ xs =>
    cases rw with
    | true => obtain ⟨_, cells, ho, _⟩ := h; exact ownsRow_lt ho hk
    | false => simp [Blk.rw] at hr

/-- The world goes on, a block stays. -/
theorem BR.step {w w' : World} {A A' : Nat → Prop} {ι ι' : List Value} {u : Value} {b : Blk} (h : BR w A ι u b)
    (hs : ∀ k, k < w.heap.size → ¬ A k → ¬ A' k ∧ w'.heap[k]? = w.heap[k]?)
    (hrw : b.rw = true → ∀ k, vblock u = some k → w'.heap[k]? = w.heap[k]?) (he : Ext ι ι') : BR w' A' ι' u b := by
  cases b with
  | dead => trivial
  | cells t cs =>
    obtain ⟨g, arr, rfl, hb, hv⟩ := h
    exact ⟨g, arr, rfl, by rw [hrw rfl g rfl]; exact hb, hv.ext he⟩
  | vec rw e τ xs =>
    cases rw with
    | true =>
      obtain ⟨h0, cells, ho, hd⟩ := h
      exact ⟨h0, cells, ownsRow_block ho (hrw rfl), fun i hi => (hd i hi).step hs⟩
    | false => exact DR.step hs h

theorem Sat.rw_lt {w0 w : World} {R0 Y : Nat → Prop} {ι0 ι : List Value} {h : List Blk} (s : Sat w0 R0 Y ι0 ι h w) {k : Nat} (hk : RW ι h k) : k < w.heap.size := by
  obtain ⟨id, b, u, hb, hr, hu, hv⟩ := hk
  exact (s.br id b u hb hu).lt hr hv

/-- THE STEP: blocks of the state's own are turned, new ones are made; each number is as it was, or is told anew. -/
theorem Sat.step {w0 w w' : World} {R0 Y : Nat → Prop} {ι0 ι ι' : List Value} {h h' : List Blk} (s : Sat w0 R0 Y ι0 ι h w)
    (C : Nat → Prop) (hC : ∀ k, C k → RW ι h k)
    (hw : ∀ k, k < w.heap.size → ¬ C k → w'.heap[k]? = w.heap[k]?) (hsz : w.heap.size ≤ w'.heap.size) (hos : w'.os = w.os) (htp : w'.tape = w.tape) (hout : w'.output = w.output)
    (hlen : ι'.length = h'.length) (he : Ext ι ι')
    (hRW : ∀ k, RW ι' h' k → RW ι h k ∨ w.heap.size ≤ k)
    (hne : ∀ (id id' : Nat) (b b' : Blk) (u u' : Value) (k : Nat), h'[id]? = some b → h'[id']? = some b' → b.rw = true → b'.rw = true → ι'[id]? = some u → ι'[id']? = some u' → vblock u = some k → vblock u' = some k → id = id')
    (hbr : ∀ (id : Nat) (b : Blk) (u : Value), h'[id]? = some b → ι'[id]? = some u →
      (h[id]? = some b ∧ ι[id]? = some u ∧ (b.rw = true → ∀ k, vblock u = some k → ¬ C k)) ∨ BR w' (fun k => Y k ∨ RW ι' h' k) ι' u b) :
    Sat w0 R0 Y ι0 ι' h' w' := by
  refine ⟨hlen, ?_, ?_, hne, ?_, ?_, Nat.le_trans s.size hsz, hos.trans s.os, htp.trans s.tape, hout.trans s.output, s.ylow⟩
  · obtain ⟨r, rfl⟩ := s.pre
    have hle : ι0.length ≤ ι'.length := by
      rcases Nat.lt_or_ge ι'.length ι0.length with q | q
      · have h1 : (ι0 ++ r)[ι'.length]? = some (ι0[ι'.length]'q) := by
          rw [List.getElem?_append_left q]; exact List.getElem?_eq_getElem q
        have := he _ _ h1
        rw [List.getElem?_eq_none (Nat.le_refl _)] at this; cases this
      · exact q
    refine ⟨ι'.drop ι0.length, ?_⟩
    apply List.ext_getElem?
    intro n
    rcases Nat.lt_or_ge n ι0.length with q | q
    · rw [List.getElem?_append_left q]
      have h1 : (ι0 ++ r)[n]? = some (ι0[n]'q) := by rw [List.getElem?_append_left q]; exact List.getElem?_eq_getElem q
      rw [he _ _ h1, List.getElem?_eq_getElem q]
    · rw [List.getElem?_append_right q, List.getElem?_drop]; congr 1; omega
  · intro id b u hb hu
    rcases hbr id b u hb hu with ⟨h1, h2, h3⟩ | h1
    · refine (s.br id b u h1 h2).step ?_ ?_ he
      · intro k hk hA
        refine ⟨fun hA' => hA ?_, hw k hk fun hc => hA (.inr (hC k hc))⟩
        rcases hA' with hy | hr
        · exact .inl hy
        · rcases hRW k hr with h4 | h4
          · exact .inr h4
          · omega
      · intro hr k hk
        exact hw k ((s.br id b u h1 h2).lt hr hk) (h3 hr k hk)
    · exact h1
  · intro k hk
    rcases hRW k hk with h1 | h1
    · exact s.old k h1
    · exact ⟨.inr (Nat.le_trans s.size h1), fun hy => by have := s.ylow k hy; have := s.size; omega⟩
  · intro k hk hR
    have hnC : ¬ C k := fun hc => by
      obtain ⟨h1, _⟩ := s.old k (hC k hc)
      rcases h1 with h1 | h1
      · exact hR h1
      · omega
    rw [hw k (Nat.lt_of_lt_of_le hk s.size) hnC]
    exact s.frame k hk hR

end Go.Ev

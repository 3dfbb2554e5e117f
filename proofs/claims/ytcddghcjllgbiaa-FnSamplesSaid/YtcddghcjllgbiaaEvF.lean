/-
  What is known of types, checked; zero values; single operations as steps of the machine.
-/
import Derived.Test.YtcddghcjllgbiaaEvE
import Derived.Laws.Tables
import Derived.Laws.MakeOwn
import Derived.Laws.OwnMore
import Derived.Laws.CopyRow
import Derived.Deep.MidRow
import Derived.ChangeKeysEq
namespace Go.Ev
open Go.RowKit

/-! ### Types -/

/-- The zero cells of data, off the head of some cells. -/
def zPrefix : Ty → List Value → Option (List Value)
  | .bool, l => match l with
    | .bool b :: r => bif b then none else some r
    | _ => none
  | .int k, l => match l with
    | .int k' n :: r => if k = k' ∧ n = 0 then some r else none
    | _ => none
  | .flt k, l => match l with
    | .float k' n :: r => if k = k' ∧ n = 0 then some r else none
    | _ => none
  | .cpx k, l => match l with
    | .complex k' n m :: r => if k = k' ∧ n = 0 ∧ m = 0 then some r else none
    | _ => none
  | .str, l => match l with
    | .string s :: r => if s.size = 0 then some r else none
    | _ => none
  | .slice σ, l => match l with
    | .slice none 0 0 :: r => bif Nat.blt 0 σ.size then some r else none
    | _ => none
  | .unit, r => some r
  | .pair a b, l => match zPrefix a l with
    | some r => zPrefix b r
    | none => none

def nilOk : Value → Value → Bool
  | .pointer none, u => match u with
    | .pointer none => true
    | _ => false
  | .nilFunc, u => match u with
    | .nilFunc => true
    | _ => false
  | .nilIface, u => match u with
    | .nilIface => true
    | _ => false
  | .map none, u => match u with
    | .map none => true
    | _ => false
  | .chan none, u => match u with
    | .chan none => true
    | _ => false
  | _, _ => false

theorem nilOk_eq {v u : Value} (h : nilOk v u = true) : v = u := by
  unfold nilOk at h
  split at h <;> first | (cases h; done) | skip
  all_goals (split at h <;> first | (cases h; done) | rfl)

def zaOk : AV → Value → Bool
  | .bool b, u => match u with
    | .bool b' => b == b'
    | _ => false
  | .int k n, u => match u with
    | .int k' n' => decide (k = k') && n == n'
    | _ => false
  | .flt k n, u => match u with
    | .float k' n' => decide (k = k') && n == can k' n'
    | _ => false
  | .cpx k n m, u => match u with
    | .complex k' n' m' => decide (k = k') && n == can k' n' && m == can k' m'
    | _ => false
  | .str s, u => match u with
    | .string s' => s.size == 0 && s'.size == 0
    | _ => false
  | .val v, u => nilOk v u
  | _, _ => false

def zcOk : ZC → Value → Bool
  | .av a, u => zaOk a u
  | .sl _ τ, u => match u with
    | .slice none 0 0 => Nat.blt 0 τ.size
    | _ => false

theorem zaOk_sound {ι : List Value} {a : AV} {u : Value} (h : zaOk a u = true) : AVR ι a u := by
  cases a <;> simp only [zaOk] at h <;> first | (cases h; done) | skip
  · split at h
    · simp at h; subst h; exact .bool _
    · cases h
  · split at h
    · simp at h; obtain ⟨rfl, rfl⟩ := h; exact .int _ _
    · cases h
  · split at h
    · simp at h; obtain ⟨rfl, rfl⟩ := h; exact .flt _ _
    · cases h
  · split at h
    · simp at h; obtain ⟨⟨rfl, rfl⟩, rfl⟩ := h; exact .cpx _ _ _
    · cases h
  · split at h
    · rename_i s1 _ s2
      simp at h
      obtain ⟨e1, e2⟩ := h
      subst e1; subst e2; exact .str _
    · cases h
  · cases nilOk_eq h; exact .val _

def zOk : List ZC → List Value → Bool
  | [], [] => true
  | z :: r, v :: s => zcOk z v && zOk r s
  | _, _ => false

def isOther : TypeDesc → Bool
  | .map .. | .chan .. | .interface .. | .pointer .. | .func .. | .slice .. => true
  | _ => false

def fieldsEq : List Field → List (Nat × TypeId) → Bool
  | [], [] => true
  | f :: r, (o, t) :: s => f.offset == o && f.type == t && fieldsEq r s
  | _, _ => false

def descOk (d : TypeDesc) (ti : TI) : Bool :=
  match ti.d, d with
  | .scalar, .bool => decide (ti.τ = some .bool)
  | .scalar, .int k => decide (ti.τ = some (.int k))
  | .scalar, .float k => decide (ti.τ = some (.flt k))
  | .scalar, .complex k => decide (ti.τ = some (.cpx k))
  | .scalar, .string => decide (ti.τ = some .str)
  | .slice e, .slice e' => e == e' && ti.size == 1
  | .struct fs, .struct arr => fieldsEq arr.toList fs
  | .ptr, .pointer _ => true
  | .func, .func .. => true
  | .other, d => isOther d
  | _, _ => false

def tauOk (T : Types) (ti : TI) : Bool :=
  match ti.τ with
  | none => true
  | some τ => τ.size == ti.size && match ti.d with
    | .slice e => (match τ, T e with
      | .slice σ, some ei => decide (ei.τ = some σ) && σ.size == ei.size && Nat.blt 0 σ.size
      | _, _ => false)
    | .scalar | .struct _ => true
    | _ => false

def tiOk (P : Program) (T : Types) (t : TypeId) (ti : TI) : Bool :=
  match P.info? t, P.underlying t with
  | some i, some d => i.size == ti.size && i.bytes == ti.bytes && (descOk d ti && (match ti.d with | .struct fs => fs.all (fun x => (P.info? x.2).isSome) | _ => true)) && tauOk T ti &&
    match i.zero with
    | some z => zOk ti.zero z.cells.toList && match ti.τ with
      | some τ => (match zPrefix τ z.cells.toList with | some [] => true | _ => false)
      | none => true
    | none => false
  | _, _ => false

def TOk (P : Program) (T : Types) : Prop := ∀ t ti, T t = some ti → tiOk P T t ti = true

def assoc {α : Type} : List (Nat × α) → Nat → Option α
  | [], _ => none
  | (k, a) :: r, n => bif k == n then some a else assoc r n

theorem assoc_mem {α : Type} {l : List (Nat × α)} {n : Nat} {a : α} (h : assoc l n = some a) : (n, a) ∈ l := by
  induction l with
  | nil => cases h
  | cons x r ih =>
    obtain ⟨k, b⟩ := x
    simp only [assoc] at h
    cases e : k == n with
    | true => rw [e] at h; cases h; simp at e; subst e; exact .head _
    | false => rw [e] at h; exact .tail _ (ih h)

theorem TOk.of_all {P : Program} {l : List (Nat × TI)} (h : (l.all fun e => tiOk P (assoc l) e.1 e.2) = true) : TOk P (assoc l) :=
  fun t ti ht => (List.all_eq_true.1 h) (t, ti) (assoc_mem ht)

structure TFacts (P : Program) (T : Types) (t : TypeId) (ti : TI) : Prop where
  ex : ∃ i d z, P.info? t = some i ∧ P.underlying t = some d ∧ i.size = ti.size ∧ i.bytes = ti.bytes ∧ descOk d ti = true ∧ tauOk T ti = true ∧ i.zero = some z ∧ zOk ti.zero z.cells.toList = true ∧
    ∀ τ, ti.τ = some τ → zPrefix τ z.cells.toList = some []
  fields : ∀ fs, ti.d = .struct fs → ∀ x ∈ fs, ∃ i, P.info? x.2 = some i

theorem TOk.facts {P : Program} {T : Types} (hT : TOk P T) {t : TypeId} {ti : TI} (h : T t = some ti) : TFacts P T t ti := by
  have h := hT t ti h
  unfold tiOk at h
  split at h
  · rename_i i d hi hd
    simp only [Bool.and_eq_true, beq_iff_eq] at h
    obtain ⟨⟨⟨⟨h1, h2⟩, h3, h3'⟩, h4⟩, h5⟩ := h
    have hf : ∀ fs, ti.d = .struct fs → ∀ x ∈ fs, ∃ i, P.info? x.2 = some i := by
      intro fs e x hx
      rw [e] at h3'
      exact Option.isSome_iff_exists.1 ((List.all_eq_true.1 h3') x hx)
    split at h5
    · rename_i z hz
      simp only [Bool.and_eq_true] at h5
      obtain ⟨h5, h6⟩ := h5
      refine ⟨⟨i, d, z, hi, hd, h1, h2, h3, h4, hz, h5, fun τ hτ => ?_⟩, hf⟩
      rw [hτ] at h6
      simp only at h6
      split at h6
      · assumption
      · cases h6
    · cases h5
  · cases h

theorem zPrefix_DR {w : World} {A : Nat → Prop} (τ : Ty) : ∀ {l r : List Value}, zPrefix τ l = some r → ∃ c, l = c ++ r ∧ DR w A τ τ.zero c := by
  induction τ with
  | bool =>
    intro l r h; simp only [zPrefix] at h; split at h
    · rename_i b _
      cases b with
      | true => cases h
      | false => cases h; exact ⟨[_], rfl, rfl⟩
    · cases h
  | int k =>
    intro l r h; simp only [zPrefix] at h; split at h
    · split at h
      · rename_i e; obtain ⟨rfl, rfl⟩ := e; cases h; exact ⟨[_], rfl, rfl⟩
      · cases h
    · cases h
  | flt k =>
    intro l r h; simp only [zPrefix] at h; split at h
    · split at h
      · rename_i e; obtain ⟨rfl, rfl⟩ := e; cases h; exact ⟨[_], rfl, 0, rfl, by cases k <;> rfl⟩
      · cases h
    · cases h
  | cpx k =>
    intro l r h; simp only [zPrefix] at h; split at h
    · split at h
      · rename_i e; obtain ⟨rfl, rfl, rfl⟩ := e; cases h; exact ⟨[_], rfl, 0, 0, rfl, by cases k <;> rfl, by cases k <;> rfl⟩
      · cases h
    · cases h
  | str =>
    intro l r h; simp only [zPrefix] at h; split at h
    · split at h
      · rename_i s _ e; cases h
        have : s = ByteArray.empty := ByteArray.size_eq_zero_iff.1 e
        subst this; exact ⟨[_], rfl, rfl⟩
      · cases h
    · cases h
  | slice σ _ =>
    intro l r h; simp only [zPrefix] at h; split at h
    · cases hz : Nat.blt 0 σ.size with
      | false => rw [hz] at h; cases h
      | true =>
        rw [hz] at h; cases h
        exact ⟨[_], rfl, none, 0, rfl, Nat.le_refl _, by simp, by simpa [Nat.blt_eq] using hz, fun hne => absurd rfl hne⟩
    · cases h
  | unit => intro l r h; simp [zPrefix] at h; subst h; exact ⟨[], rfl, rfl⟩
  | pair a b iha ihb =>
    intro l r h
    simp only [zPrefix] at h
    split at h
    · rename_i r1 e
      obtain ⟨c1, rfl, d1⟩ := iha e
      obtain ⟨c2, rfl, d2⟩ := ihb h
      exact ⟨c1 ++ c2, by simp, c1, c2, rfl, d1, d2⟩
    · cases h

/-- Cells of which some are told by a value and some are still zero. -/
inductive ZRs (ι : List Value) : List ZC → List Value → Prop
  | nil : ZRs ι [] []
  | av (a : AV) (u : Value) (r : List ZC) (s : List Value) : AVR ι a u → ZRs ι r s → ZRs ι (.av a :: r) (u :: s)
  | sl (e : TypeId) (τ : Ty) (r : List ZC) (s : List Value) : 0 < τ.size → ZRs ι r s → ZRs ι (.sl e τ :: r) (.slice none 0 0 :: s)

theorem ZRs.of_zOk {ι : List Value} : ∀ {z : List ZC} {vs : List Value}, zOk z vs = true → ZRs ι z vs := by
  intro z
  induction z with
  | nil => intro vs h; cases vs with | nil => exact .nil | cons _ _ => simp [zOk] at h
  | cons c r ih =>
    intro vs h
    cases vs with
    | nil => simp [zOk] at h
    | cons v t =>
      simp only [zOk, Bool.and_eq_true] at h
      obtain ⟨h1, h2⟩ := h
      cases c with
      | av a => exact .av _ _ _ _ (zaOk_sound h1) (ih h2)
      | sl e τ =>
        simp only [zcOk] at h1
        split at h1
        case h_2 => cases h1
        exact .sl _ _ _ _ (by simpa [Nat.blt_eq] using h1) (ih h2)

theorem ZRs.ext {ι ι' : List Value} (he : Ext ι ι') {z : List ZC} {vs : List Value} (h : ZRs ι z vs) : ZRs ι' z vs := by
  induction h with
  | nil => exact .nil
  | av a u r s h1 _ ih => exact .av _ _ _ _ (h1.ext he) ih
  | sl e τ r s h1 _ ih => exact .sl _ _ _ _ h1 ih

theorem ZRs.length {ι : List Value} {z : List ZC} {vs : List Value} (h : ZRs ι z vs) : vs.length = z.length := by
  induction h with
  | nil => rfl
  | av a u r s h1 _ ih => simp [ih]
  | sl e τ r s h1 _ ih => simp [ih]

theorem ZRs.over {ι : List Value} : ∀ {z : List ZC} {us : List Value} {vs : List AV} {ws : List Value} (off : Nat), ZRs ι z us → AVRs ι vs ws → off + vs.length ≤ z.length →
    ZRs ι (overZ z off vs) (us.take off ++ ws ++ us.drop (off + ws.length)) := by
  intro z
  induction z with
  | nil =>
    intro us vs ws off h hv hl
    cases h
    cases hv with
    | nil => simpa [overZ] using ZRs.nil
    | cons _ _ _ _ _ _ => simp at hl
  | cons c r ih =>
    intro us vs ws off h hv hl
    cases hv with
    | nil => simpa [overZ] using h
    | cons x u s t h1 h2 =>
      cases off with
      | zero =>
        have g : ∀ {us' : List Value}, ZRs ι r us' → ZRs ι (overZ (c :: r) 0 (x :: s)) (u :: (t ++ us'.drop t.length)) := by
          intro us' hr
          have := ih (vs := s) (ws := t) 0 hr h2 (by simp at hl ⊢; omega)
          simp only [overZ]
          exact .av _ _ _ _ h1 (by simpa using this)
        cases h with
        | av a u0 _ s0 _ hr => simpa using g hr
        | sl e τ _ s0 _ hr => simpa using g hr
      | succ n =>
        have g : ∀ {us' : List Value}, ZRs ι r us' → ZRs ι (overZ r n (x :: s)) (us'.take n ++ (u :: t) ++ us'.drop (n + (u :: t).length)) :=
          fun hr => ih n hr (.cons _ _ _ _ h1 h2) (by simp at hl ⊢; omega)
        have e : n + 1 + (u :: t).length = n + (u :: t).length + 1 := by omega
        cases h with
        | av a u0 _ s0 ha hr =>
          have := g hr
          simp only [overZ, e, List.take_succ_cons, List.drop_succ_cons, List.cons_append]
          exact .av _ _ _ _ ha this
        | sl e' τ _ s0 ha hr =>
          have := g hr
          simp only [overZ, e, List.take_succ_cons, List.drop_succ_cons, List.cons_append]
          exact .sl _ _ _ _ ha this

section
variable {w0 w : World} {R0 Y : Nat → Prop} {ι0 : List Value}

theorem zeroCells_sound : ∀ (z : List ZC) {ι : List Value} {h : List Blk} {vs : List Value}, Sat w0 R0 Y ι0 ι h w → ZRs ι z vs →
    ∃ r, Sat w0 R0 Y ι0 (ι ++ r) (zeroCells z h).2 w ∧ AVRs (ι ++ r) (zeroCells z h).1 vs := by
  intro z
  induction z with
  | nil => intro ι h vs s hz; cases hz; exact ⟨[], by simpa [zeroCells] using s, .nil⟩
  | cons c r ih =>
    intro ι h vs s hz
    cases hz with
    | av a u _ t h1 h2 =>
      obtain ⟨r1, s1, v1⟩ := ih s h2
      refine ⟨r1, by simpa [zeroCells] using s1, ?_⟩
      simp only [zeroCells]
      exact .cons _ _ _ _ (h1.ext (Ext.app _ _)) v1
    | sl e τ _ t hz h2 =>
      have s1 : Sat w0 R0 Y ι0 (ι ++ [.slice none 0 0]) (h ++ [.vec true e τ []]) w :=
        s.push (fun _ _ => rfl) (Nat.le_refl _) rfl rfl rfl _ _ (by simp [vblock]) ⟨hz, [], by simpa using World.ownsRow_nil w 0 e τ.size, fun i hi => by simp at hi⟩
      obtain ⟨r1, s2, v2⟩ := ih s1 (h2.ext (Ext.app _ _))
      refine ⟨.slice none 0 0 :: r1, by simpa [zeroCells] using s2, ?_⟩
      simp only [zeroCells]
      have e : ι ++ [Value.slice none 0 0] ++ r1 = ι ++ .slice none 0 0 :: r1 := by simp
      rw [e] at v2
      refine .cons _ _ _ _ (.whole _ _ _ _ ?_) v2
      rw [← s.len, List.getElem?_append_right (Nat.le_refl _)]; simp

end

/-! ### One operation -/

theorem wp_value {P : Program} {o : Oper} {a : Act} {w w' : World} {next : Act → World → Prop} {Q : Exit → Act → World → Prop} {u : Value}
    (h : (execOp a.eval o).run P w = .ok (.value u) w') (hn : next (a.put o.dst u) w') : o.wp P a w next Q := by
  unfold Oper.wp; rw [h]; exact hn

theorem wp_skip' {P : Program} {o : Oper} {a : Act} {w w' : World} {next : Act → World → Prop} {Q : Exit → Act → World → Prop}
    (h : (execOp a.eval o).run P w = .ok .skip w') (hn : next (a.put o.dst undef) w') : o.wp P a w next Q := by
  unfold Oper.wp; rw [h]; exact hn

theorem evalR_sound {ι : List Value} {t : List AV} {a : Act} (ht : AVRs ι t a.tmps.toList) {x : Operand} {v : AV} (h : evalR t x = some v) : AVR ι v (a.eval x) := by
  unfold evalR at h
  split at h
  · rw [nth_eq] at h
    obtain ⟨u, hu, hr⟩ := ht.get h
    rw [Array.getElem?_toList] at hu
    simp only [Act.eval, Array.getD_eq_getD_getElem?, hu, Option.getD_some]; exact hr
  all_goals (try (cases h; done))
  all_goals (cases h; simp only [Act.eval])
  · exact .int _ _
  · exact .bool _
  · exact .flt _ _
  · exact .cpx _ _ _
  · exact .str _
  · exact .val _
  · exact .fn _ _ _ [] [] .nil .nil

theorem evalRs_sound {ι : List Value} {t : List AV} {a : Act} (ht : AVRs ι t a.tmps.toList) : ∀ {l : List Operand} {vs : List AV}, evalRs t l = some vs → AVRs ι vs (l.map a.eval) := by
  intro l
  induction l with
  | nil => intro vs h; cases h; exact .nil
  | cons x r ih =>
    intro vs h
    unfold evalRs at h
    split at h
    · rename_i v hv
      split at h
      · rename_i us hus
        cases h
        exact .cons _ _ _ _ (evalR_sound ht hv) (ih hus)
      · cases h
    · cases h

theorem AVRs.put {ι : List Value} {t : List AV} {a : Act} (ht : AVRs ι t a.tmps.toList) (d : Option Tmp) {v : AV} {u : Value} (h : AVR ι v u) : AVRs ι (St.put t d v) (a.put d u).tmps.toList := by
  cases d with
  | none => exact ht
  | some d => simp only [St.put, Act.put, setNth_eq, Array.toList_setIfInBounds]; exact ht.set d h

/-- Cells of a value. -/
theorem allCell_sound {ι : List Value} {l : List AV} {us : List Value} (h : AVRs ι l us) (ho : allCell l = true) : ∀ x ∈ us, x.oneCell' = true := by
  induction l generalizing us with
  | nil => cases h; intro x hx; cases hx
  | cons a r ih =>
    cases h with
    | cons _ u _ s h1 h2 =>
      simp only [allCell, Bool.and_eq_true] at ho
      intro x hx
      rcases List.mem_cons.1 hx with rfl | hx
      · cases h1 <;> first | rfl | (simp [okCell] at ho; done) | skip
        simpa [okCell] using ho.1
      · exact ih h2 ho.2 x hx

theorem cellsOf_sound {ι : List Value} {v : AV} {u : Value} (h : AVR ι v u) (ho : okVal v = true) : AVRs ι (cellsOf v) u.cells.toList ∧ ∀ x ∈ u.cells.toList, x.oneCell' = true := by
  have one : ∀ {v : AV} {u : Value}, AVR ι v u → u.oneCell' = true → cellsOf v = [v] → AVRs ι (cellsOf v) u.cells.toList ∧ ∀ x ∈ u.cells.toList, x.oneCell' = true := by
    intro v u h h1 h2
    have e : u.cells = #[u] := by cases u <;> first | rfl | (simp [Value.oneCell'] at h1; done)
    rw [e, h2]
    exact ⟨.cons _ _ _ _ h .nil, fun x hx => by simp at hx; subst hx; exact h1⟩
  cases h with
  | any => simp [okVal, okCell] at ho
  | agg cs us h => exact ⟨by simpa [cellsOf, Value.cells] using h, by simpa [Value.cells] using allCell_sound h ho⟩
  | tup cs us h => simp [okVal, okCell] at ho
  | val => exact one (.val _) (by simpa [okVal, okCell] using ho) rfl
  | bool => exact one (.bool _) rfl rfl
  | int => exact one (.int _ _) rfl rfl
  | flt => exact one (.flt _ _) rfl rfl
  | cpx => exact one (.cpx _ _ _) rfl rfl
  | str => exact one (.str _) rfl rfl
  | ptr id off b h => exact one (.ptr _ _ _ h) rfl rfl
  | elt id i size off b o n c h => exact one (.elt _ _ _ _ _ _ _ _ h) rfl rfl
  | whole id a n c h => exact one (.whole _ _ _ _ h) rfl rfl
  | sub id lo len size a a' n c c' h h1 h2 h3 h4 => exact one (.sub _ _ _ _ _ _ _ _ _ h h1 h2 h3 h4) rfl rfl
  | nocap a => exact one (.nocap _) rfl rfl
  | fn f as cs us vs h1 h2 => exact one (.fn _ _ _ _ _ h1 h2) rfl rfl

end Go.Ev

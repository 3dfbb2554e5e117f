/-
  Regions whose order is drawn: any order does what one does.
-/
import Derived.Test.YtcddghcjllgbiaaEvTa
namespace Go.Ev
open Go.RowKit
set_option linter.unusedSimpArgs false

/-! ### An order -/

def pairOk (F : FuncId → Option Sum) (ops : List Oper) (x y : Nat) : Bool :=
  !(x == y) && !hasN (afterOf ops x) y &&
  (match nth ops x, nth ops y with
    | some a, some b => okPair F ops a b
    | _, _ => false) || (!(x == y) && !hasN (afterOf ops x) y && (reaches ops 1 x y || reaches ops 2 x y || reaches ops 4 x y))

def okTail (F : FuncId → Option Sum) (ops : List Oper) (x : Nat) : List Nat → Bool
  | [] => true
  | y :: r => pairOk F ops x y && okTail F ops x r

def selfOk (ops : List Oper) (n x : Nat) : Bool := Nat.blt x n && (afterOf ops x).all fun j => Nat.blt j n && !(j == x)

def okOrder (F : FuncId → Option Sum) (ops : List Oper) (n : Nat) : List Nat → Bool
  | [] => true
  | x :: r => selfOk ops n x && okTail F ops x r && okOrder F ops n r

def covers (ix : List Nat) : Nat → Bool
  | 0 => true
  | n + 1 => hasN ix n && covers ix n

def goodOrder (F : FuncId → Option Sum) (ops : List Oper) (ix : List Nat) : Bool := okOrder F ops ops.length ix && covers ix ops.length

def opersAt (ops : List Oper) : List Nat → List Oper
  | [] => []
  | x :: r => match nth ops x with
    | some o => o :: opersAt ops r
    | none => opersAt ops r

/-- The quiet ones first. -/
def orderGo (F : FuncId → Option Sum) (ops : List Oper) : Nat → List Nat → List Nat → List Nat
  | 0, _, acc => acc.reverse
  | n + 1, rem, acc =>
    match rem.find? (fun i => (afterOf ops i).all (hasN acc ·) && (match nth ops i with | some o => quietOp F o.op | none => false)) with
    | some i => orderGo F ops n (rem.filter fun j => !(j == i)) (i :: acc)
    | none => match rem.find? (fun i => (afterOf ops i).all (hasN acc ·)) with
      | some i => orderGo F ops n (rem.filter fun j => !(j == i)) (i :: acc)
      | none => acc.reverse

def evDrawS (T : Types) (F : FuncId → Option Sum) (ops : List Oper) (st : St) (K : Kont) : Option Out :=
  bif goodOrder F ops (orderGo F ops ops.length (rangeN 0 ops.length) []) then evOpsD T F ops (opersAt ops (orderGo F ops ops.length (rangeN 0 ops.length) [])) st K else none

section
variable {P : Program} {T : Types} {F : FuncId → Option Sum} {w0 w : World} {R0 Y : Nat → Prop} {ι0 ι : List Value} {h : List Blk} {out : Out}

/-- What is listed has all that must come before it. -/
def DownClosed (ops : List Oper) (lst : Nat → Prop) : Prop := ∀ y, lst y → ∀ j ∈ afterOf ops y, lst j

theorem reaches_sound {ops : List Oper} {lst : Nat → Prop} (hd : DownClosed ops lst) : ∀ (n : Nat) {x y : Nat}, reaches ops n x y = true → (∀ j ∈ afterOf ops y, lst j) → lst x := by
  intro n
  induction n with
  | zero => intro x y he; cases he
  | succ n ih =>
    intro x y he hy
    simp only [reaches, Bool.or_eq_true, List.any_eq_true] at he
    rcases he with he | ⟨j, hj, he⟩
    · exact hy x (hasN_iff.mp he)
    · exact ih he (hd j (hy j hj))

/-- What may be said of two in the order. -/
def PairOk (F : FuncId → Option Sum) (ops : List Oper) (x y : Nat) : Prop :=
  x ≠ y ∧ y ∉ afterOf ops x ∧ ((∃ a b, nth ops x = some a ∧ nth ops y = some b ∧ okPair F ops a b = true) ∨ ∃ n, reaches ops n x y = true)

theorem pairOk_sound {ops : List Oper} {x y : Nat} (he : pairOk F ops x y = true) : PairOk F ops x y := by
  simp only [pairOk, Bool.or_eq_true, Bool.and_eq_true, Bool.not_eq_true', beq_eq_false_iff_ne] at he
  have nin : hasN (afterOf ops x) y = false → y ∉ afterOf ops x := fun q hm => by rw [hasN_iff.mpr hm] at q; cases q
  rcases he with ⟨⟨h1, h2⟩, h3⟩ | ⟨⟨h1, h2⟩, h3⟩
  · refine ⟨h1, nin h2, .inl ?_⟩
    split at h3
    · rename_i a b ha hb; exact ⟨a, b, ha, hb, h3⟩
    · cases h3
  · refine ⟨h1, nin h2, .inr ?_⟩
    rcases h3 with (h3 | h3) | h3 <;> exact ⟨_, h3⟩

theorem okTail_sound {ops : List Oper} {x : Nat} : ∀ {l : List Nat}, okTail F ops x l = true → ∀ y ∈ l, PairOk F ops x y := by
  intro l
  induction l with
  | nil => intro _ y hy; cases hy
  | cons z r ih =>
    intro he y hy
    simp only [okTail, Bool.and_eq_true] at he
    cases hy with
    | head => exact pairOk_sound he.1
    | tail _ hy => exact ih he.2 y hy

theorem okOrder_sound {ops : List Oper} {n : Nat} : ∀ {l : List Nat}, okOrder F ops n l = true → l.Pairwise (PairOk F ops) ∧ ∀ x ∈ l, x < n ∧ ∀ j ∈ afterOf ops x, j < n ∧ j ≠ x := by
  intro l
  induction l with
  | nil => intro _; exact ⟨.nil, fun x hx => by cases hx⟩
  | cons x r ih =>
    intro he
    simp only [okOrder, Bool.and_eq_true] at he
    obtain ⟨⟨h1, h2⟩, h3⟩ := he
    obtain ⟨k1, k2⟩ := ih h3
    refine ⟨.cons (okTail_sound h2) k1, ?_⟩
    intro y hy
    cases hy with
    | head =>
      simp only [selfOk, Bool.and_eq_true, Nat.blt_eq, List.all_eq_true, Bool.not_eq_true', beq_eq_false_iff_ne] at h1
      exact h1
    | tail _ hy => exact k2 y hy

theorem covers_sound {ix : List Nat} : ∀ {n : Nat}, covers ix n = true → ∀ i, i < n → i ∈ ix := by
  intro n
  induction n with
  | zero => intro _ i hi; omega
  | succ n ih =>
    intro he i hi
    simp only [covers, Bool.and_eq_true] at he
    rcases Nat.lt_or_ge i n with q | q
    · exact ih he.2 i q
    · have : i = n := by omega
      subst this; exact hasN_iff.mp he.1

theorem opersAt_append {ops : List Oper} (a b : List Nat) : opersAt ops (a ++ b) = opersAt ops a ++ opersAt ops b := by
  induction a with
  | nil => rfl
  | cons x r ih =>
    simp only [List.cons_append, opersAt]
    split
    · rw [ih]; rfl
    · exact ih

/-- One that may come now is taken to the front. -/
theorem front {ops : List Oper} {o : Oper} {K : Kont} (r : List Oper) : ∀ (l : List Nat) (st : St), (∀ x ∈ l, ∃ a, nth ops x = some a ∧ okPair F ops a o = true) →
    evOpsD T F ops (opersAt ops l ++ o :: r) st K = some out → evOpsD T F ops (o :: (opersAt ops l ++ r)) st K = some out := by
  intro l
  induction l with
  | nil => intro st _ he; exact he
  | cons x l ih =>
    intro st hx he
    obtain ⟨a, ha, hok⟩ := hx x (by simp)
    simp only [opersAt, ha, List.cons_append] at he ⊢
    rw [evOpsD_cons] at he
    obtain ⟨y, hy, he⟩ := bind_inv he
    have := ih _ (fun z hz => hx z (by simp [hz])) he
    refine swap hok _ _ _ ?_
    rw [evOpsD_cons, hy]
    exact this

theorem wantedA_sound {ops : Array Oper} {o : Oper} {t : List AV} {a : Act} {b : Bool} (ht : AVRs ι t a.tmps.toList) (he : wantedA ops.toList o t = some b) : Region.wanted o (yielded ops a.tmps) = b := by
  unfold wantedA at he
  unfold Region.wanted
  split at he
  · rename_i hg; rw [hg]; simpa using he
  · rename_i j want hg
    rw [hg]
    split at he
    · rename_i d hd
      split at he
      · rename_i c hb
        rw [nth_eq] at hb
        obtain ⟨u, hu, hr⟩ := ht.get hb
        cases hr
        rw [nth_eq, Array.getElem?_toList] at hd
        have hy : yielded ops a.tmps j = some c := by
          rw [Array.getElem?_toList] at hu
          unfold yielded
          rw [hd, Option.bind_some, hu]
        simp only [hy]
        simp only [Option.some.injEq] at he
        rw [← he]; cases c <;> cases want <;> rfl
      · rename_i v hb
        rw [nth_eq] at hb
        cases hnb : noBool v with
        | false => rw [hnb] at he; cases he
        | true =>
          rw [hnb] at he
          simp only [cond_true, Option.some.injEq] at he
          subst he
          obtain ⟨u, hu, hr⟩ := ht.get hb
          cases hr
          rw [nth_eq, Array.getElem?_toList] at hd
          have hy : yielded ops a.tmps j = none := by
            rw [Array.getElem?_toList] at hu
            unfold yielded
            rw [hd, Option.bind_some, hu]
            cases v <;> first | rfl | (cases hnb; done)
          simp only [hy]
          cases want <;> rfl
      · cases he
    · cases he

theorem step_sound (hT : TOk P T) (hF : FOk P F) {ops : Array Oper} {i : Nat} {o : Oper} (hi : ops[i]? = some o) {Q : Exit → Act → World → Prop} {next : Act → World → Prop} {t : List AV} {a : Act} (s : Sat w0 R0 Y ι0 ι h w) (ht : AVRs ι t a.tmps.toList) {v : AV} {h' : List Blk} (he : eff T F ops.toList o t h = some (v, h'))
    (hn : ∀ ι' a' w', Sat w0 R0 Y ι0 ι' h' w' → AVRs ι' (St.put t o.dst v) a'.tmps.toList → a'.defers = a.defers → next a' w') : wpOp P ops Q i next a w := by
  unfold wpOp
  rw [hi]
  simp only
  rcases eff_run he with ⟨h1, h2, _⟩ | ⟨h1, rfl, rfl⟩
  · rw [wantedA_sound ht h1, if_pos rfl]
    refine .inl (evOp_sound hT hF s ht h2 (fun r v' h'' u w' s' hv hK => ?_))
    obtain ⟨rfl, rfl⟩ := pr_some hK
    exact hn _ _ _ s' ((ht.ext (Ext.app _ _)).put o.dst hv) (Act.put_defers _ _ _)
  · rw [wantedA_sound ht h1, if_neg (by decide)]
    exact hn _ _ _ s (ht.put o.dst (.val _)) (Act.put_defers _ _ _)

theorem any_sound (hT : TOk P T) (hF : FOk P F) (ops : Array Oper) {Q : Exit → Act → World → Prop} {K : Kont} : ∀ (fuel : Nat) (rem : List Nat) (listed : Array Bool) {ι : List Value} {st : St} {a : Act} {w : World},
    rem.length ≤ fuel → listed.size = ops.size → rem.Pairwise (PairOk F ops.toList) → (∀ x ∈ rem, x < ops.size ∧ ∀ j ∈ afterOf ops.toList x, j < ops.size ∧ j ≠ x) →
    (∀ i, i < ops.size → (listed[i]? = some false ↔ i ∈ rem)) → DownClosed ops.toList (fun i => listed[i]? = some true) →
    evOpsD T F ops.toList (opersAt ops.toList rem) st K = some out → Sat w0 R0 Y ι0 ι st.h w → AVRs ι st.t a.tmps.toList → a.defers = [] →
    (∀ ι' st' a' w', Sat w0 R0 Y ι0 ι' st'.h w' → AVRs ι' st'.t a'.tmps.toList → a'.defers = [] → K .normal st' = some out → Q .normal a' w') →
    wpAny P .any ops Q fuel listed a w := by
  -- ready
  have rdy : ∀ {listed : Array Bool} {i : Nat}, listed.size = ops.size → (i ∈ Region.ready .any ops listed ↔ i < ops.size ∧ listed[i]? = some false ∧ ∀ j ∈ afterOf ops.toList i, listed[j]? = some true) := by
    intro listed i hs
    simp only [Region.ready, List.mem_filter, List.mem_range, Bool.and_eq_true, Bool.not_eq_true']
    constructor
    · rintro ⟨h1, h2, h3⟩
      refine ⟨h1, ?_, ?_⟩
      · have : i < listed.size := by omega
        simp only [Array.getD_eq_getD_getElem?, Array.getElem?_eq_getElem this, Option.getD_some] at h2 ⊢
        rw [h2]
      · intro j hj
        unfold afterOf at hj
        rw [nth_eq, Array.getElem?_toList] at hj
        rw [Array.getElem?_eq_getElem h1] at hj h3
        simp only [List.mem_map, List.mem_filter] at hj
        obtain ⟨e, ⟨he1, he2⟩, rfl⟩ := hj
        simp only [Option.map_some, Option.getD_some, Array.all_eq_true'] at h3
        have := h3 e (by simpa using he1)
        rw [he2] at this
        simp only [Bool.not_true, Bool.false_or] at this
        cases hl : listed[e.on]? with
        | none => simp [Array.getD_eq_getD_getElem?, hl] at this
        | some b => simp [Array.getD_eq_getD_getElem?, hl] at this; rw [this]
    · rintro ⟨h1, h2, h3⟩
      refine ⟨h1, by simp [Array.getD_eq_getD_getElem?, h2], ?_⟩
      rw [Array.getElem?_eq_getElem h1]
      simp only [Option.map_some, Option.getD_some, Array.all_eq_true']
      intro e he
      cases hb : Region.binds .any e with
      | false => rfl
      | true =>
        have := h3 e.on (by
          unfold afterOf
          rw [nth_eq, Array.getElem?_toList, Array.getElem?_eq_getElem h1]
          simp only [List.mem_map, List.mem_filter]
          exact ⟨e, ⟨by simpa using he, hb⟩, rfl⟩)
        simp [Array.getD_eq_getD_getElem?, this]
  -- nothing ready, nothing left
  have done : ∀ {rem : List Nat} {listed : Array Bool}, listed.size = ops.size → rem.Pairwise (PairOk F ops.toList) → (∀ x ∈ rem, x < ops.size ∧ ∀ j ∈ afterOf ops.toList x, j < ops.size ∧ j ≠ x) →
      (∀ i, i < ops.size → (listed[i]? = some false ↔ i ∈ rem)) → Region.ready .any ops listed = [] → rem = [] := by
    intro rem listed hs hp hx hl hr
    cases rem with
    | nil => rfl
    | cons x r =>
      have hxx := hx x (by simp)
      have : x ∈ Region.ready .any ops listed := by
        refine (rdy hs).mpr ⟨hxx.1, (hl x hxx.1).mpr (by simp), fun j hj => ?_⟩
        obtain ⟨hj1, hj2⟩ := hxx.2 j hj
        have hj3 : j < listed.size := by omega
        cases hq : listed[j] with
        | true => rw [Array.getElem?_eq_getElem hj3, hq]
        | false =>
          have hm := (hl j hj1).mp (by rw [Array.getElem?_eq_getElem hj3, hq])
          cases hm with
          | head => exact absurd rfl hj2
          | tail _ hm =>
            cases hp with | cons h1 _ => exact absurd hj (h1 j hm).2.1
      rw [hr] at this; cases this
  intro fuel
  induction fuel with
  | zero =>
    intro rem listed ι st a w hf hs hp hx hl hdc he sat ht hd hn
    have : rem = [] := List.eq_nil_of_length_eq_zero (by omega)
    subst this
    refine ⟨?_, hn _ st a w sat ht hd he⟩
    apply List.eq_nil_iff_forall_not_mem.mpr
    intro i hi
    obtain ⟨h1, h2, _⟩ := (rdy hs).mp hi
    exact absurd ((hl i h1).mp h2) (by simp)
  | succ fuel ih =>
    intro rem listed ι st a w hf hs hp hx hl hdc he sat ht hd hn
    refine ⟨fun hr => ?_, fun i hi => ?_⟩
    · have := done hs hp hx hl hr
      subst this
      exact hn _ st a w sat ht hd he
    · obtain ⟨h1, h2, h3⟩ := (rdy hs).mp hi
      have hm := (hl i h1).mp h2
      obtain ⟨l1, l2, rfl⟩ := List.append_of_mem hm
      rw [List.pairwise_append] at hp
      obtain ⟨p1, p2, p3⟩ := hp
      rw [List.pairwise_cons] at p2
      have hio : ops[i]? = some ops[i] := Array.getElem?_eq_getElem h1
      have hin : nth ops.toList i = some ops[i] := by rw [nth_eq, Array.getElem?_toList, hio]
      have hne1 : i ∉ l1 := fun q => (p3 i q i (by simp)).1 rfl
      have hne2 : i ∉ l2 := fun q => (p2.1 i q).1 rfl
      rw [opersAt_append] at he
      simp only [opersAt, hin] at he
      have hfr := front _ l1 st (fun x hx' => by
        have hp := p3 x hx' i (by simp)
        rcases hp.2.2 with ⟨a', b', ha, hb, hok⟩ | ⟨n, hr⟩
        · rw [hin] at hb; cases hb; exact ⟨a', ha, hok⟩
        · have hlx := reaches_sound hdc n hr h3
          have := (hl x (hx x (by simp [hx'])).1).mpr (by simp [hx'])
          rw [hlx] at this; cases this) he
      rw [evOpsD_cons] at hfr
      obtain ⟨⟨v, h'⟩, hv, hfr⟩ := bind_inv hfr
      rw [← opersAt_append] at hfr
      refine step_sound hT hF hio sat ht hv (fun ι' a' w' s' ht' hd' => ?_)
      have hsz : i < listed.size := by omega
      refine ih (l1 ++ l2) (listed.setIfInBounds i true) (st := ⟨St.put st.t ops[i].dst v, h'⟩) (by simp at hf ⊢; omega) (by simpa using hs) ?_ ?_ ?_ ?_ hfr s' ht' (by rw [hd', hd]) hn
      · rw [List.pairwise_append]
        exact ⟨p1, p2.2, fun x hx y hy => p3 x hx y (by simp [hy])⟩
      · intro x hx'
        refine hx x ?_
        simp only [List.mem_append, List.mem_cons] at hx' ⊢
        rcases hx' with q | q
        · exact .inl q
        · exact .inr (.inr q)
      · intro k hk
        by_cases e : k = i
        · subst e
          rw [Array.getElem?_setIfInBounds_self_of_lt hsz]
          simp [hne1, hne2]
        · rw [Array.getElem?_setIfInBounds_ne (Ne.symm e), hl k hk]
          simp [e]
      · intro y hy j hj
        have up : ∀ {k : Nat}, listed[k]? = some true → (listed.setIfInBounds i true)[k]? = some true := by
          intro k hk
          by_cases e : k = i
          · subst e; rw [Array.getElem?_setIfInBounds_self_of_lt hsz]
          · rw [Array.getElem?_setIfInBounds_ne (Ne.symm e)]; exact hk
        by_cases e : y = i
        · subst e; exact up (h3 j hj)
        · rw [Array.getElem?_setIfInBounds_ne (Ne.symm e)] at hy
          exact up (hdc y hy j hj)

theorem evDrawS_ok (hT : TOk P T) (hF : FOk P F) (hm : P.follows .mixedOrders = true) : DrawOk P (evDrawS T F) := by
  intro ops w0 R0 Y ι0 ι st K out a w Q id he s ht hd hn
  unfold evDrawS at he
  obtain ⟨hg, he⟩ := cond_inv he
  simp only [goodOrder, Bool.and_eq_true] at hg
  obtain ⟨k1, k2⟩ := okOrder_sound hg.1
  have hc := covers_sound hg.2
  generalize hix : orderGo F ops.toList ops.toList.length (rangeN 0 ops.toList.length) [] = ix at *
  have hlen : ix.length ≤ ops.size := by
    have hnd : ix.Nodup := k1.imp (fun h => h.1)
    have hsub : ix ⊆ List.range ops.size := fun x hx => List.mem_range.mpr (by simpa using (k2 x hx).1)
    simpa using hnd.length_le_of_subset hsub
  refine wp_region_any hm ?_
  refine any_sound hT hF ops ops.size ix _ hlen (by simp) k1 (by simpa using k2) ?_ ?_ he (s.same rfl rfl rfl rfl) ht hd hn
  · intro i hi
    simp only [Array.getElem?_replicate, hi, if_true, true_iff]
    exact hc i (by simpa using hi)
  · intro y hy
    simp only [Array.getElem?_replicate] at hy
    split at hy <;> simp at hy

end
end Go.Ev

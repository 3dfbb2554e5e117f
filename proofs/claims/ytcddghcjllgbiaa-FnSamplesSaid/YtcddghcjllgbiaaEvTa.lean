/-
  Regions whose order is drawn, second way: an operation is done in the blocks that it reaches alone, and what it makes lies where it has been said before.
-/
import Derived.Test.YtcddghcjllgbiaaEvT
namespace Go.Ev
open Go.RowKit
set_option linter.unusedSimpArgs false

/-! ### One operation -/

def readOnlyOp (F : FuncId → Option Sum) (op : Op) : Bool := quietOp F op || extOp F op

def noRw : List Blk → Bool
  | [] => true
  | b :: r => !b.rw && noRw r

def isBuildSlice : Op → Bool
  | .buildSlice _ _ _ => true
  | _ => false

/-- Old blocks stay as they are. -/
def roDyn (F : FuncId → Option Sum) (op : Op) (h : List Blk) : Bool := readOnlyOp F op || (isBuildSlice op && noRw h)

/-- How many blocks an operation may make. -/
def widOf : Op → Nat
  | .call c => match c.callee with
    | .builtin _ => 2
    | _ => 8
  | .alloc _ => 8
  | .load _ _ | .build _ _ | .box _ _ => 4
  | .buildSlice _ _ _ | .makeSlice _ _ _ | .store _ _ _ => 2
  | .move _ | .assign _ => 1
  | _ => 0

/-- Where an operation's blocks begin. -/
def offs : List Oper → Nat → Nat
  | [], _ => 0
  | _ :: _, 0 => 0
  | o :: r, i + 1 => widOf o.op + offs r i

def readsT (l : List Operand) (n : Nat) : Bool := l.any fun x => match x with
  | .tmp m => m == n
  | _ => false

def disjN : List Nat → List Nat → Bool
  | [], _ => true
  | x :: r, l => !hasN l x && disjN r l

def okSlots (ids : List Nat) (base wid n : Nat) : Bool := disjN (rangeN base wid) ids && Nat.ble (base + wid) n

def fits (ids : List Nat) (wid : Nat) (h' : List Blk) : Bool := Nat.ble ids.length h'.length && Nat.ble h'.length (ids.length + wid)

def locEnd (ids : List Nat) (base wid : Nat) (h : List Blk) (K : AV → List Blk → List Nat → Option Out) (v : AV) (h' : List Blk) : Option Out :=
  bif fits ids wid h' then K (v.ren (backN (ids ++ rangeN base wid) 0)) (putBack (backN (ids ++ rangeN base wid) 0) (ids ++ rangeN base (h'.length - ids.length)) h' h) ids else none

section
variable (T : Types) (F : FuncId → Option Sum)

def locK (op : Op) (ty : TypeId) (base wid : Nat) (tm : List AV) (h : List Blk) (K : AV → List Blk → List Nat → Option Out) : Option Out :=
  match reachOf tm h with
  | some ids => bif okSlots ids base wid h.length then evOp T F op ty (renL (indexOf ids) tm) (pickBlks h (indexOf ids) ids) (locEnd ids base wid h K) else none
  | none => none

abbrev LOut := List Nat × Out

def locR (op : Op) (ty : TypeId) (base wid : Nat) (tm : List AV) (h : List Blk) : Option LOut :=
  match reachOf tm h with
  | some ids => bif okSlots ids base wid h.length then (evOp T F op ty (renL (indexOf ids) tm) (pickBlks h (indexOf ids) ids) pr).bind fun r =>
      bif fits ids wid r.2 then some (ids, (r.1.ren (backN (ids ++ rangeN base wid) 0), putBack (backN (ids ++ rangeN base wid) 0) (ids ++ rangeN base (r.2.length - ids.length)) r.2 h)) else none
    else none
  | none => none

/-- What is read where an operation needs no blocks of its own. -/
def directIds (op : Op) (t : List AV) : Option (List Nat) :=
  bif regOp op then some [] else
  match op with
  | .load _ a => match evalR t a with
    | some (.ptr id _) => some [id]
    | _ => none
  | _ => none

def stepR (op : Op) (ty : TypeId) (base wid : Nat) (t : List AV) (h : List Blk) : Option LOut :=
  match directIds op t with
  | some ids => (evOp T F op ty t h pr).bind fun r => bif r.2.length == h.length then some (ids, (r.1, h)) else none
  | none => locR T F op ty base wid (maskFrom (readsT (readsOp op)) 0 t) h

def effL (ops : List Oper) (o : Oper) (base : Nat) (t : List AV) (h : List Blk) : Option LOut :=
  (wantedA ops o t).bind fun w => bif w then stepR T F o.op o.type base (widOf o.op) t h else some ([], (.val undef, h))
end

section
variable {T : Types} {F : FuncId → Option Sum} {h h' : List Blk} {t t' : List AV} {ids : List Nat}

theorem locK_eq (op : Op) (ty : TypeId) (base wid : Nat) (tm : List AV) (h : List Blk) (K : AV → List Blk → List Nat → Option Out) :
    locK T F op ty base wid tm h K = (locR T F op ty base wid tm h).bind fun r => K r.2.1 r.2.2 r.1 := by
  unfold locK locR
  split
  · rename_i ids _
    cases okSlots ids base wid h.length with
    | false => rfl
    | true =>
      simp only [cond_true]
      rw [evOp_nat, Option.bind_assoc]
      congr 1
      funext r
      unfold un locEnd
      cases fits ids wid r.2 <;> rfl
  · rfl

/-! ### What is not reached does not matter -/

theorem addNew_sub : ∀ (l acc : List Nat), ∀ x ∈ acc, x ∈ addNew l acc := by
  intro l
  induction l with
  | nil => intro acc x hx; exact hx
  | cons a r ih =>
    intro acc x hx
    simp only [addNew]
    cases hasN acc a with
    | true => exact ih acc x hx
    | false => exact ih _ x (by simp [hx])

theorem closure_sub : ∀ (n : Nat) (h : List Blk) (acc : List Nat), ∀ x ∈ acc, x ∈ closure n h acc := by
  intro n
  induction n with
  | zero => intro h acc x hx; exact hx
  | succ n ih =>
    intro h acc x hx
    simp only [closure]
    cases (addNew (idsAt h acc) acc).length == acc.length with
    | true => exact hx
    | false => exact ih h _ x (addNew_sub _ _ x hx)

theorem idsAt_congr {l : List Nat} (ha : ∀ p ∈ l, h'[p]? = h[p]?) : idsAt h' l = idsAt h l := by
  induction l with
  | nil => rfl
  | cons x r ih =>
    simp only [idsAt, blkIdsAt, nth_eq]
    rw [ha x (by simp), ih (fun p hp => ha p (by simp [hp]))]

theorem closure_congr : ∀ (n : Nat) (acc : List Nat), (∀ p ∈ closure n h acc, h'[p]? = h[p]?) → closure n h' acc = closure n h acc := by
  intro n
  induction n with
  | zero => intro acc _; rfl
  | succ n ih =>
    intro acc ha
    have h1 : idsAt h' acc = idsAt h acc := idsAt_congr (fun p hp => ha p (closure_sub _ _ _ p hp))
    simp only [closure] at ha ⊢
    rw [h1]
    cases hc : (addNew (idsAt h acc) acc).length == acc.length with
    | true => rfl
    | false =>
      rw [hc] at ha
      exact ih _ ha

theorem reachOf_some {tm : List AV} (he : reachOf tm h = some ids) : ids = closure h.length h (addNew (idsL tm) []) ∧ okIds h tm ids = true := by
  unfold reachOf at he
  simp only at he
  cases hq : okIds h tm (closure h.length h (addNew (idsL tm) [])) with
  | false => rw [hq] at he; cases he
  | true =>
    rw [hq] at he
    simp only [cond_true, Option.some.injEq] at he
    subst he; exact ⟨rfl, hq⟩

theorem reachOf_congr {tm : List AV} (he : reachOf tm h = some ids) (hl : h'.length = h.length) (ha : ∀ p ∈ ids, h'[p]? = h[p]?) : reachOf tm h' = some ids := by
  obtain ⟨h1, h2⟩ := reachOf_some he
  have h3 : closure h'.length h' (addNew (idsL tm) []) = ids := by
    rw [hl, h1]
    exact closure_congr _ _ (by rw [← h1]; exact ha)
  unfold reachOf
  simp only
  rw [h3]
  have : okIds h' tm ids = okIds h tm ids := by
    unfold okIds
    rw [idsAt_congr ha, hl]
  rw [this, h2]; rfl

theorem pickBlks_congr {m : Nat → Nat} {l : List Nat} (ha : ∀ p ∈ l, h'[p]? = h[p]?) : pickBlks h' m l = pickBlks h m l := by
  induction l with
  | nil => rfl
  | cons x r ih =>
    simp only [pickBlks, nth_eq]
    rw [ha x (by simp), ih (fun p hp => ha p (by simp [hp]))]

/-! ### What is written -/

/-- What one has written where. -/
structure Wrote (ids sl : List Nat) (c : Nat → Option Blk) (h h1 : List Blk) : Prop where
  len : h1.length = h.length
  out : ∀ p, p ∉ ids → p ∉ sl → h1[p]? = h[p]?
  inn : ∀ p, p ∈ ids ∨ p ∈ sl → h1[p]? = c p

theorem disjN_iff {a b : List Nat} : disjN a b = true ↔ ∀ x ∈ a, x ∉ b := by
  induction a with
  | nil => simp [disjN]
  | cons x r ih =>
    simp only [disjN, Bool.and_eq_true, Bool.not_eq_true', ih, List.mem_cons, forall_eq_or_imp]
    constructor
    · rintro ⟨h1, h2⟩; exact ⟨fun q => absurd (h1.symm.trans (hasN_iff.mpr q)) (by decide), h2⟩
    · rintro ⟨h1, h2⟩
      refine ⟨?_, h2⟩
      cases q : hasN b x with
      | false => rfl
      | true => exact absurd (hasN_iff.mp q) h1

theorem mem_rangeN {n c x : Nat} : x ∈ rangeN n c ↔ n ≤ x ∧ x < n + c := by
  induction c generalizing n with
  | zero => simp only [rangeN, List.not_mem_nil, false_iff]; omega
  | succ c ih => simp only [rangeN, List.mem_cons, ih]; omega

theorem noDup_of_nodup {l : List Nat} (h : l.Nodup) : noDup l = true := by
  induction l with
  | nil => rfl
  | cons x r ih =>
    rw [List.nodup_cons] at h
    simp only [noDup, Bool.and_eq_true, Bool.not_eq_true', ih h.2, and_true]
    cases q : hasN r x with
    | false => rfl
    | true => exact absurd (hasN_iff.mp q) h.1

theorem nodup_of_noDup {l : List Nat} (h : noDup l = true) : l.Nodup := by
  induction l with
  | nil => exact List.nodup_nil
  | cons x r ih =>
    simp only [noDup, Bool.and_eq_true, Bool.not_eq_true'] at h
    rw [List.nodup_cons]
    exact ⟨fun q => absurd (h.1.symm.trans (hasN_iff.mpr q)) (by decide), ih h.2⟩

theorem nodup_rangeN (n c : Nat) : (rangeN n c).Nodup := by
  induction c generalizing n with
  | zero => exact List.nodup_nil
  | succ c ih =>
    simp only [rangeN, List.nodup_cons]
    exact ⟨fun q => by rw [mem_rangeN] at q; omega, ih _⟩

theorem rangeN_len (n c : Nat) : (rangeN n c).length = c := by
  induction c generalizing n with
  | zero => rfl
  | succ c ih => simp [rangeN, ih]

theorem noDup_app {base wid k n : Nat} (hd : noDup ids = true) (ho : okSlots ids base wid n = true) (hk : k ≤ wid) : noDup (ids ++ rangeN base k) = true := by
  simp only [okSlots, Bool.and_eq_true, disjN_iff] at ho
  refine noDup_of_nodup (List.nodup_append.mpr ⟨nodup_of_noDup hd, nodup_rangeN _ _, ?_⟩)
  intro a ha b hb e
  subst e
  exact ho.1 a (by rw [mem_rangeN] at hb ⊢; omega) ha

/-- The numbers in front and the slots. -/
theorem backN_app {base wid k i id : Nat} (hk : k ≤ wid) (hi : (ids ++ rangeN base k)[i]? = some id) : backN (ids ++ rangeN base wid) 0 i = id := by
  have hlt := get_lt hi
  simp only [List.length_append, rangeN_len] at hlt
  have hi2 : (ids ++ rangeN base wid)[i]? = some id := by
    rcases Nat.lt_or_ge i ids.length with q | q
    · rw [List.getElem?_append_left q] at hi ⊢; exact hi
    · rw [List.getElem?_append_right q] at hi ⊢
      have key : ∀ c n j : Nat, j < c → (rangeN n c)[j]? = some (n + j) := by
        intro c
        induction c with
        | zero => intro n j hj; omega
        | succ c ih => intro n j hj; cases j with
          | zero => simp [rangeN]
          | succ j => simp only [rangeN, List.getElem?_cons_succ]; rw [ih (n + 1) j (by omega)]; congr 1; omega
      rw [key _ _ _ (by omega)] at hi ⊢
      exact hi
  unfold backN
  rw [show Nat.blt i (ids ++ rangeN base wid).length = true from by rw [Nat.blt_eq]; exact get_lt hi2]
  simp only [cond_true]
  exact getN_get hi2

theorem readOnly_ext {op : Op} {ty : TypeId} {v : AV} (hq : readOnlyOp F op = true) (he : evOp T F op ty t h pr = some (v, h')) : ∃ r, h' = h ++ r := by
  simp only [readOnlyOp, Bool.or_eq_true] at hq
  rcases hq with q | q
  · exact evOp_quietExt q he
  · exact evOp_ext q he

theorem noRw_get {b : Blk} : ∀ {h : List Blk} {i : Nat}, noRw h = true → nth h i = some b → b.rw = false := by
  intro h
  induction h with
  | nil => intro i _ hb; cases hb
  | cons c r ih =>
    intro i hn hb
    simp only [noRw, Bool.and_eq_true, Bool.not_eq_true'] at hn
    cases i with
    | zero => simp only [nth, Option.some.injEq] at hb; subst hb; exact hn.1
    | succ i => exact ih hn.2 hb

theorem unavs_frozen (τ : Ty) : ∀ {l r : List AV} {h h' : List Blk} {x : τ.den}, noRw h = true → τ.unavs l h = some (x, r, h') → h' = h := by
  induction τ with
  | slice σ _ =>
    intro l r h h' x hn he
    simp only [Ty.unavs] at he
    split at he
    · split at he
      · rename_i rw e τ xs hb
        split at he
        · rename_i e'
          have : rw = false := by
            have := noRw_get hn hb
            cases rw with
            | false => rfl
            | true => simp [Blk.rw] at this
          subst this
          cases he; rfl
        · cases he
      · cases he
    · obtain ⟨_, he⟩ := cond_inv he
      cases he; rfl
    · cases he
  | pair a b iha ihb =>
    intro l r h h' x hn he
    simp only [Ty.unavs] at he
    split at he
    · rename_i y r1 h1 h1e
      have e1 := iha hn h1e
      subst e1
      split at he
      · rename_i z r2 h2 h2e
        have e2 := ihb hn h2e
        subst e2
        cases he; rfl
      · cases he
    · cases he
  | _ =>
    intro l r h h' x hn he
    simp only [Ty.unavs] at he
    repeat' first
      | split at he
      | (cases he; done)
      | (cases he; rfl)

theorem buildS_frozen {t : List AV} {σ : Ty} : ∀ {ps : List (Nat × Operand)} {z l : List σ.den} {h h' : List Blk}, noRw h = true → buildS t σ ps z h = some (l, h') → h' = h := by
  intro ps
  induction ps with
  | nil => intro z l h h' _ he; cases he; rfl
  | cons p r ih =>
    intro z l h h' hn he
    obtain ⟨i, x⟩ := p
    simp only [buildS] at he
    split at he
    · refine cond_elim he (fun _ q => ?_)
      clear he
      split at q
      · rename_i y h1 h1e
        have e1 := unavs_frozen σ hn h1e
        subst e1
        exact ih hn q
      · cases q
    · cases he

theorem roDyn_ext {op : Op} {ty : TypeId} {v : AV} (hq : roDyn F op h = true) (he : evOp T F op ty t h pr = some (v, h')) : ∃ r, h' = h ++ r := by
  simp only [roDyn, Bool.or_eq_true, Bool.and_eq_true] at hq
  rcases hq with q | ⟨q, hn⟩
  · exact readOnly_ext q he
  · cases op <;> simp only [isBuildSlice, Bool.false_eq_true] at q
    simp only [evOp] at he
    split at he
    · refine cond_elim he (fun _ q => ?_)
      clear he
      split at q
      · rename_i l h1 h1e
        have e1 := buildS_frozen hn h1e
        subst e1
        cases q; exact ⟨_, rfl⟩
      · cases q
    · cases he

theorem locR_spec {op : Op} {ty : TypeId} {base wid : Nat} {tm : List AV} {v : AV} {h1 : List Blk} (he : locR T F op ty base wid tm h = some (ids, (v, h1))) :
    ∃ sl c, (∀ p ∈ sl, p ∈ rangeN base wid) ∧
      (∀ h', h'.length = h.length → (∀ p ∈ ids, h'[p]? = h[p]?) → ∃ h1', locR T F op ty base wid tm h' = some (ids, (v, h1')) ∧ Wrote ids sl c h' h1') ∧
      (roDyn F op (pickBlks h (indexOf ids) ids) = true → ∀ p ∈ ids, c p = h[p]?) := by
  unfold locR at he
  split at he
  case h_2 => cases he
  rename_i ids' hre
  obtain ⟨hos, he⟩ := cond_inv he
  obtain ⟨⟨u, hc⟩, hev, he⟩ := bind_inv he
  obtain ⟨hfit, he⟩ := cond_inv he
  simp only [Option.some.injEq, Prod.mk.injEq] at he
  obtain ⟨rfl, rfl, _⟩ := he
  obtain ⟨hcl, hok⟩ := reachOf_some hre
  obtain ⟨hs, hin⟩ := okIds_sub hok
  have hf2 := hfit
  simp only [fits, Bool.and_eq_true, Nat.ble_eq] at hf2
  have hk : hc.length - ids'.length ≤ wid := by omega
  have hnd := noDup_app hs.nodup hos hk
  have hos2 := hos
  simp only [okSlots, Bool.and_eq_true, disjN_iff, Nat.ble_eq] at hos2
  have hbel : ∀ x ∈ ids' ++ rangeN base (hc.length - ids'.length), x < h.length := by
    intro x hx
    rw [List.mem_append, mem_rangeN] at hx
    rcases hx with q | q
    · exact hs.below x q
    · omega
  have hlen : (ids' ++ rangeN base (hc.length - ids'.length)).length = hc.length := by
    rw [List.length_append, rangeN_len]; omega
  refine ⟨rangeN base (hc.length - ids'.length), fun p => (hc[indexOf (ids' ++ rangeN base (hc.length - ids'.length)) p]?).map (·.ren (backN (ids' ++ rangeN base wid) 0)), ?_, ?_, ?_⟩
  · intro p hp
    rw [mem_rangeN] at hp ⊢; omega
  · intro h' hl ha
    refine ⟨putBack (backN (ids' ++ rangeN base wid) 0) (ids' ++ rangeN base (hc.length - ids'.length)) hc h', ?_, ?_⟩
    · unfold locR
      rw [reachOf_congr hre hl ha, hl]
      simp only
      rw [hos]
      simp only [cond_true]
      rw [pickBlks_congr ha, hev]
      simp only [Option.bind_some]
      rw [hfit]; rfl
    · obtain ⟨p1, p2, p3, _⟩ := putBack_spec (backN (ids' ++ rangeN base wid) 0) (ids' ++ rangeN base (hc.length - ids'.length)) hc h' hnd (fun x hx => by rw [hl]; exact hbel x hx) (by omega)
      refine ⟨by rw [p1]; omega, ?_, ?_⟩
      · intro p q1 q2
        rcases Nat.lt_or_ge p h'.length with z | z
        · exact p3 p z (by rw [List.mem_append]; exact fun q => q.elim q1 q2)
        · rw [List.getElem?_eq_none (by rw [p1]; omega), List.getElem?_eq_none z]
      · intro p q
        exact p2 _ p (indexOf_get (by rw [List.mem_append]; exact q))
  · intro hro p hp
    obtain ⟨r, rfl⟩ := roDyn_ext hro hev
    have hg := indexOf_get (l := ids' ++ rangeN base ((pickBlks h (indexOf ids') ids' ++ r).length - ids'.length)) (x := p) (by rw [List.mem_append]; exact .inl hp)
    have hlt := get_lt hg
    have hp2 := indexOf_get hp
    have hidx : indexOf (ids' ++ rangeN base ((pickBlks h (indexOf ids') ids' ++ r).length - ids'.length)) p = indexOf ids' p := by
      refine noDup_get hnd hg ?_
      rw [List.getElem?_append_left (get_lt hp2)]; exact hp2
    simp only
    rw [hidx, List.getElem?_append_left (by rw [pickBlks_length]; exact get_lt hp2), pickBlks_get, hp2]
    simp only [Option.map_some]
    have hpl : p < h.length := hs.below p hp
    have hb : h[p]? = some h[p] := List.getElem?_eq_getElem hpl
    rw [hb]
    congr 1
    refine Blk.ren_ren _ (fun x hx => ?_)
    have hxm := hs.closed p hp _ hb x hx
    refine backN_app hk ?_
    rw [List.getElem?_append_left (get_lt (indexOf_get hxm))]
    exact indexOf_get hxm

theorem regOp_quiet {op : Op} (hq : regOp op = true) : quietOp F op = true := by
  cases op <;> simp only [regOp, Bool.false_eq_true] at hq <;> first | rfl | skip
  rename_i c
  simp only [quietOp]
  split at hq <;> first | (cases hq; done) | simp_all

theorem evLoad_ptr {ty : TypeId} {id off : Nat} {v : AV} (he : evLoad T ty (.ptr id off) h pr = some (v, h)) (ha : h'[id]? = h[id]?) : evLoad T ty (.ptr id off) h' pr = some (v, h') := by
  unfold evLoad at he ⊢
  simp only [nth_eq] at he ⊢
  rw [ha]
  repeat' first
    | (cases he; done)
    | (cases he; rfl)
    | split at he
    | (refine cond_elim he (fun hc q => ?_); clear he; have he := q; clear q; simp only [hc, cond_true])
  all_goals (cases he; simp_all [pr])

theorem stepR_spec {op : Op} {ty : TypeId} {base wid : Nat} {v : AV} {h1 : List Blk} (he : stepR T F op ty base wid t h = some (ids, (v, h1))) :
    ∃ sl c, (∀ p ∈ sl, p ∈ rangeN base wid) ∧
      (∀ h', h'.length = h.length → (∀ p ∈ ids, h'[p]? = h[p]?) → ∃ h1', stepR T F op ty base wid t h' = some (ids, (v, h1')) ∧ Wrote ids sl c h' h1') ∧
      (roDyn F op (pickBlks h (indexOf ids) ids) = true → ∀ p ∈ ids, c p = h[p]?) := by
  unfold stepR at he ⊢
  cases hd : directIds op t with
  | none => rw [hd] at he; simp only at he ⊢; exact locR_spec he
  | some is =>
    rw [hd] at he
    simp only at he ⊢
    obtain ⟨⟨u, h2⟩, hev, he⟩ := bind_inv he
    obtain ⟨hl, he⟩ := cond_inv he
    simp only [Option.some.injEq, Prod.mk.injEq] at he
    obtain ⟨rfl, rfl, rfl⟩ := he
    have hl' : h2.length = h.length := by simpa using hl
    refine ⟨[], fun p => h[p]?, fun p hp => by simp at hp, fun h' hh ha => ⟨h', ?_, ⟨rfl, fun _ _ _ => rfl, fun p hp => ?_⟩⟩, fun _ _ _ => rfl⟩
    · have key : evOp T F op ty t h' pr = some (u, h') := by
        unfold directIds at hd
        cases hr : regOp op with
        | true =>
          have e := evOp_quiet (regOp_quiet hr) hev hl'
          subst e
          exact evOp_reg hr hev h'
        | false =>
          rw [hr] at hd
          simp only [cond_false] at hd
          split at hd
          · rename_i ty' a
            split at hd
            · rename_i id off hv
              cases hd
              have e := evOp_quiet (op := .load ty' a) rfl hev hl'
              subst e
              simp only [evOp, hv] at hev ⊢
              exact evLoad_ptr hev (ha id (by simp))
            · cases hd
          · cases hd
      rw [key]
      simp
    · rcases hp with hp | hp
      · exact ha p hp
      · simp at hp

theorem effL_spec {ops : List Oper} {o : Oper} {base : Nat} {v : AV} {h1 : List Blk} (he : effL T F ops o base t h = some (ids, (v, h1))) :
    ∃ sl c, (∀ p ∈ sl, p ∈ rangeN base (widOf o.op)) ∧
      (∀ h', h'.length = h.length → (∀ p ∈ ids, h'[p]? = h[p]?) → ∃ h1', effL T F ops o base t h' = some (ids, (v, h1')) ∧ Wrote ids sl c h' h1') ∧
      (roDyn F o.op (pickBlks h (indexOf ids) ids) = true → ∀ p ∈ ids, c p = h[p]?) := by
  unfold effL at he ⊢
  obtain ⟨w, hw, he⟩ := bind_inv he
  rw [hw]
  simp only [Option.bind_some]
  cases w with
  | false =>
    simp only [cond_false, Option.some.injEq, Prod.mk.injEq] at he ⊢
    obtain ⟨rfl, rfl, rfl⟩ := he
    exact ⟨[], fun _ => none, fun p hp => by simp at hp, fun h' _ _ => ⟨h', ⟨rfl, rfl, rfl⟩, ⟨rfl, fun _ _ _ => rfl, fun p hp => by simp at hp⟩⟩, fun _ p hp => by simp at hp⟩
  | true =>
    simp only [cond_true] at he ⊢
    exact stepR_spec he

theorem maskFrom_congr {k : Nat → Bool} : ∀ {a b : List AV} {n : Nat}, a.length = b.length → (∀ i, k (n + i) = true → a[i]? = b[i]?) → maskFrom k n a = maskFrom k n b := by
  intro a
  induction a with
  | nil => intro b n hl _; cases b with
    | nil => rfl
    | cons y s => simp at hl
  | cons x r ih =>
    intro b n hl hk
    cases b with
    | nil => simp at hl
    | cons y s =>
      simp only [maskFrom]
      rw [ih (n := n + 1) (by simpa using hl) (fun i hi => by have := hk (i + 1) (by rw [show n + (i + 1) = n + 1 + i from by omega]; exact hi); simpa using this)]
      congr 1
      cases hq : k n with
      | false => rfl
      | true => have := hk 0 (by simpa using hq); simp at this; simp [this]

theorem mask_put {l : List Operand} {d : Option Tmp} {v : AV} (hf : free d l = true) : maskFrom (readsT l) 0 (St.put t d v) = maskFrom (readsT l) 0 t := by
  cases d with
  | none => rfl
  | some d =>
    refine maskFrom_congr (by simp [St.put, setNth_eq]) (fun i hi => ?_)
    simp only [Nat.zero_add, readsT, List.any_eq_true] at hi
    obtain ⟨x, hx, hxi⟩ := hi
    have := List.all_eq_true.mp hf x hx
    cases x <;> simp only [Bool.false_eq_true] at hxi this
    rename_i m
    simp only [St.put, setNth_eq]
    have h1 : m = i := by simpa using hxi
    have h2 : m ≠ d := by simpa using this
    subst h1
    rw [List.getElem?_set_ne (Ne.symm h2)]

theorem effL_put {ops : List Oper} {o : Oper} {base : Nat} {d : Option Tmp} {v : AV} (hf : free d (readsOp o.op) = true) (hg : free d (guardReads ops o) = true) : effL T F ops o base (St.put t d v) h = effL T F ops o base t h := by
  unfold effL stepR
  have hd : directIds o.op (St.put t d v) = directIds o.op t := by
    unfold directIds
    cases regOp o.op with
    | true => rfl
    | false =>
      simp only [cond_false]
      split
      · rename_i ty' a hop
        rw [evalR_put hf (by rw [hop]; simp [readsOp])]
      · rfl
  rw [wantedA_put hg, mask_put hf, hd, evOp_congr (t' := t) o.op o.type (fun x hx => evalR_put hf hx)]

/-! ### All of them -/

def slotsOf (ops : List Oper) (n i : Nat) : List Nat := rangeN (n + offs ops i) (match nth ops i with | some o => widOf o.op | none => 0)

abbrev Foot := Nat × Bool × List Nat

/-- Two that do not meet. -/
def apart (ops : List Oper) (n : Nat) (d e : Foot) : Bool :=
  ((d.2.1 && e.2.1) || disjN d.2.2 e.2.2) && disjN (slotsOf ops n d.1) e.2.2 && disjN (slotsOf ops n e.1) d.2.2

def afterOf (ops : List Oper) (y : Nat) : List Nat :=
  match nth ops y with
  | some o => (o.after.toList.filter (Region.binds .any ·)).map (·.on)
  | none => []

def reaches (ops : List Oper) : Nat → Nat → Nat → Bool
  | 0, _, _ => false
  | n + 1, x, y => hasN (afterOf ops y) x || (afterOf ops y).any fun j => reaches ops n x j

def reachB (ops : List Oper) (x y : Nat) : Bool := reaches ops 1 x y || reaches ops 2 x y || reaches ops 4 x y

def okDone (ops : List Oper) (n : Nat) (e : Foot) (done : List Foot) : Bool := done.all fun d => apart ops n d e || reachB ops d.1 e.1

def footOf (F : FuncId → Option Sum) (o : Oper) (i : Nat) (h : List Blk) (ids : List Nat) : Foot := (i, roDyn F o.op (pickBlks h (indexOf ids) ids), ids)

section
variable (T F)

def stepK (ops : List Oper) (n i : Nat) (o : Oper) (done : List Foot) (t : List AV) (h : List Blk) (G : List Foot → AV → List Blk → Option Out) : Option Out :=
  match directIds o.op t with
  | some ids => evOp T F o.op o.type t h fun v h' => bif h'.length == h.length then (bif okDone ops n (footOf F o i h ids) done then G (footOf F o i h ids :: done) v h else none) else none
  | none => locK T F o.op o.type (n + offs ops i) (widOf o.op) (maskFrom (readsT (readsOp o.op)) 0 t) h fun v h' ids =>
    bif okDone ops n (footOf F o i h ids) done then G (footOf F o i h ids :: done) v h' else none

def skipK (ops : List Oper) (n i : Nat) (o : Oper) (done : List Foot) (h : List Blk) (G : List Foot → AV → List Blk → Option Out) : Option Out :=
  bif okDone ops n (footOf F o i h []) done then G (footOf F o i h [] :: done) (.val undef) h else none

def evOpsL (ops : List Oper) (n : Nat) : List Nat → List Foot → St → Kont → Option Out
  | [], _, st, K => K .normal st
  | i :: r, done, st, K =>
    match nth ops i with
    | none => none
    | some o =>
      match o.guard with
      | none => stepK T F ops n i o done st.t st.h fun d v h => evOpsL ops n r d ⟨St.put st.t o.dst v, h⟩ K
      | some (j, want) =>
        match (nth ops j).bind (·.dst) with
        | some d => match nth st.t d with
          | some (.bool b) =>
            bif b then
              (bif want then stepK T F ops n i o done (setNth st.t d (.bool true)) st.h fun dn v h => evOpsL ops n r dn ⟨St.put (setNth st.t d (.bool true)) o.dst v, h⟩ K
              else skipK F ops n i o done st.h fun dn v h => evOpsL ops n r dn ⟨St.put (setNth st.t d (.bool true)) o.dst v, h⟩ K)
            else
              (bif want then skipK F ops n i o done st.h fun dn v h => evOpsL ops n r dn ⟨St.put (setNth st.t d (.bool false)) o.dst v, h⟩ K
              else stepK T F ops n i o done (setNth st.t d (.bool false)) st.h fun dn v h => evOpsL ops n r dn ⟨St.put (setNth st.t d (.bool false)) o.dst v, h⟩ K)
          | some (.val u) => bif noBool u then skipK F ops n i o done st.h fun dn v h => evOpsL ops n r dn ⟨St.put st.t o.dst v, h⟩ K else none
          | _ => none
        | none => none
end

theorem stepK_eq (ops : List Oper) (n i : Nat) (o : Oper) (done : List Foot) (t : List AV) (h : List Blk) (G : List Foot → AV → List Blk → Option Out) :
    stepK T F ops n i o done t h G = (stepR T F o.op o.type (n + offs ops i) (widOf o.op) t h).bind fun x => bif okDone ops n (footOf F o i h x.1) done then G (footOf F o i h x.1 :: done) x.2.1 x.2.2 else none := by
  unfold stepK stepR
  cases hd : directIds o.op t with
  | none => simp only; rw [locK_eq]
  | some ids =>
    simp only
    rw [evOp_nat, Option.bind_assoc]
    congr 1
    funext r
    obtain ⟨r1, r2⟩ := r
    simp only [un]
    cases r2.length == h.length <;> rfl

theorem evOpsL_cons {ops : List Oper} {n i : Nat} {o : Oper} (ho : nth ops i = some o) (r : List Nat) (done : List Foot) (st : St) (G : Kont) :
    evOpsL T F ops n (i :: r) done st G = (effL T F ops o (n + offs ops i) st.t st.h).bind fun x =>
      bif okDone ops n (footOf F o i st.h x.1) done then evOpsL T F ops n r (footOf F o i st.h x.1 :: done) ⟨St.put st.t o.dst x.2.1, x.2.2⟩ G else none := by
  rw [evOpsL, ho]
  simp only
  unfold effL skipK
  split
  · rename_i hg
    have hw : wantedA ops o st.t = some true := by unfold wantedA; rw [hg]
    rw [hw, stepK_eq]; rfl
  · rename_i j want hg
    split
    · rename_i d hd
      split
      · rename_i b hb
        have hw : wantedA ops o st.t = some (b == want) := by unfold wantedA; rw [hg]; simp only; rw [hd]; simp only; rw [hb]
        rw [hw]
        cases b with
        | true =>
          rw [setNth_same hb]
          cases want with
          | true => simp only [cond_true]; rw [stepK_eq]; rfl
          | false => rfl
        | false =>
          rw [setNth_same hb]
          cases want with
          | true => rfl
          | false => simp only [cond_false]; rw [stepK_eq]; rfl
      · rename_i u hu
        have hw : wantedA ops o st.t = (bif noBool u then some false else none) := by unfold wantedA; rw [hg]; simp only; rw [hd]; simp only; rw [hu]
        rw [hw]
        cases noBool u <;> rfl
      · rename_i x h1 h2
        have hw : wantedA ops o st.t = none := by
          unfold wantedA; rw [hg]; simp only; rw [hd]; simp only
        rw [hw]; rfl
    · rename_i hd
      have hw : wantedA ops o st.t = none := by unfold wantedA; rw [hg]; simp only; rw [hd]
      rw [hw]; rfl

theorem okDone_mono {ops : List Oper} {n : Nat} {e : Foot} {a b : List Foot} (hs : ∀ x ∈ b, x ∈ a) (he : okDone ops n e a = true) : okDone ops n e b = true := by
  simp only [okDone, List.all_eq_true] at he ⊢
  exact fun x hx => he x (hs x hx)

theorem evOpsL_mono {ops : List Oper} {n : Nat} {G : Kont} {out : Out} : ∀ (l : List Nat) {a b : List Foot} {st : St}, (∀ x ∈ b, x ∈ a) → evOpsL T F ops n l a st G = some out → evOpsL T F ops n l b st G = some out := by
  intro l
  induction l with
  | nil => intro a b st _ he; exact he
  | cons i r ih =>
    intro a b st hs he
    cases ho : nth ops i with
    | none => rw [evOpsL, ho] at he; cases he
    | some o =>
      rw [evOpsL_cons ho] at he ⊢
      obtain ⟨x, hx, he⟩ := bind_inv he
      obtain ⟨h1, he⟩ := cond_inv he
      rw [hx]
      simp only [Option.bind_some]
      rw [okDone_mono hs h1]
      simp only [cond_true]
      refine ih ?_ he
      intro y hy
      cases hy with
      | head => exact .head _
      | tail _ hy => exact .tail _ (hs y hy)

def okStat (ops : List Oper) (x y : Oper) : Bool :=
  offDst x y && (free x.dst (readsOp y.op) && free x.dst (guardReads ops y)) && (free y.dst (readsOp x.op) && free y.dst (guardReads ops x))

theorem offs_lt : ∀ {ops : List Oper} {i j : Nat} {o : Oper}, i < j → nth ops i = some o → offs ops i + widOf o.op ≤ offs ops j := by
  intro ops
  induction ops with
  | nil => intro i j o _ ho; cases ho
  | cons a r ih =>
    intro i j o hij ho
    cases j with
    | zero => omega
    | succ j =>
      cases i with
      | zero => simp only [nth, Option.some.injEq] at ho; subst ho; simp only [offs]; omega
      | succ i =>
        simp only [nth] at ho
        have := ih (i := i) (j := j) (by omega) ho
        simp only [offs]; omega

theorem slots_disj {ops : List Oper} {n i j : Nat} {a b : Oper} (hne : i ≠ j) (ha : nth ops i = some a) (hb : nth ops j = some b) : ∀ p, p ∈ rangeN (n + offs ops i) (widOf a.op) → p ∉ rangeN (n + offs ops j) (widOf b.op) := by
  intro p h1 h2
  rw [mem_rangeN] at h1 h2
  rcases Nat.lt_or_ge i j with q | q
  · have := offs_lt q ha; omega
  · have := offs_lt (show j < i by omega) hb; omega

theorem swapL {ops : List Oper} {n i j : Nat} {x y : Oper} (hx : nth ops i = some x) (hy : nth ops j = some y) (hne : i ≠ j) (hok : okStat ops x y = true) (hnr : reachB ops i j = false) (r : List Nat) (done : List Foot) (st : St) (G : Kont) {out : Out}
    (he : evOpsL T F ops n (i :: j :: r) done st G = some out) : evOpsL T F ops n (j :: i :: r) done st G = some out := by
  simp only [okStat, Bool.and_eq_true] at hok
  obtain ⟨⟨hd, hxy1, hxy2⟩, hyx1, hyx2⟩ := hok
  rw [evOpsL_cons hx] at he
  obtain ⟨⟨idx, vx, h1⟩, ex, he⟩ := bind_inv he
  obtain ⟨dx, he⟩ := cond_inv he
  rw [evOpsL_cons hy] at he
  obtain ⟨⟨idy, vy, h2⟩, ey, he⟩ := bind_inv he
  obtain ⟨dy, he⟩ := cond_inv he
  simp only at ey he dx dy
  rw [effL_put hxy1 hxy2] at ey
  rw [put_comm (fun d e ha hb => by unfold offDst at hd; rw [ha, hb] at hd; simpa using hd)] at he
  -- apart
  have hap : apart ops n (footOf F x i st.h idx) (footOf F y j h1 idy) = true := by
    simp only [okDone, List.all_cons, Bool.and_eq_true, Bool.or_eq_true] at dy
    rcases dy.1 with q | q
    · exact q
    · exact absurd (hnr.symm.trans q) (by decide)
  have dy' : okDone ops n (footOf F y j h1 idy) done = true := okDone_mono (fun z hz => .tail _ hz) dy
  have hap2 : apart ops n (footOf F y j h1 idy) (footOf F x i st.h idx) = true := by
    simp only [apart, Bool.and_eq_true, Bool.or_eq_true, disjN_iff] at hap ⊢
    obtain ⟨⟨q1, q2⟩, q3⟩ := hap
    refine ⟨⟨?_, q3⟩, q2⟩
    rcases q1 with q | q
    · exact .inl ⟨q.2, q.1⟩
    · exact .inr (fun a ha hb => q a hb ha)
  have dx' : okDone ops n (footOf F x i st.h idx) (footOf F y j h1 idy :: done) = true := by
    simp only [okDone, List.all_cons, Bool.and_eq_true, Bool.or_eq_true] at dx ⊢
    exact ⟨.inl hap2, dx⟩
  simp only [apart, footOf, Bool.and_eq_true, Bool.or_eq_true, disjN_iff, slotsOf, hx, hy] at hap
  obtain ⟨⟨c1, c2⟩, c3⟩ := hap
  have c4 := slots_disj (n := n) hne hx hy
  obtain ⟨sx, cx, sx1, sx2, sx3⟩ := effL_spec ex
  obtain ⟨sy, cy, sy1, sy2, sy3⟩ := effL_spec ey
  obtain ⟨_, e1, wx⟩ := sx2 st.h rfl (fun _ _ => rfl)
  rw [ex] at e1; cases e1
  obtain ⟨_, e2, wy⟩ := sy2 h1 rfl (fun _ _ => rfl)
  rw [ey] at e2; cases e2
  have agy : ∀ p ∈ idy, st.h[p]? = h1[p]? := by
    intro p hp
    by_cases q : p ∈ idx
    · rcases c1 with c | c
      · rw [wx.inn p (.inl q), sx3 c.1 p q]
      · exact absurd hp (c p q)
    · exact (wx.out p q (fun z => c2 p (sx1 p z) hp)).symm
  obtain ⟨h1', f1, wy'⟩ := sy2 st.h wx.len.symm agy
  have agx : ∀ p ∈ idx, h1'[p]? = st.h[p]? := by
    intro p hp
    by_cases q : p ∈ idy
    · rcases c1 with c | c
      · rw [wy'.inn p (.inl q), sy3 c.2 p q, agy p q]
      · exact absurd q (c p hp)
    · exact wy'.out p q (fun z => c3 p (sy1 p z) hp)
  obtain ⟨h2', f2, wx'⟩ := sx2 h1' wy'.len agx
  have heq : h2' = h2 := by
    apply List.ext_getElem?
    intro p
    by_cases px : p ∈ idx ∨ p ∈ sx
    · rw [wx'.inn p px]
      by_cases py : p ∈ idy ∨ p ∈ sy
      · rcases px with px | px <;> rcases py with py | py
        · rcases c1 with c | c
          · rw [wy.inn p (.inl py), sy3 c.2 p py, wx.inn p (.inl px)]
          · exact absurd py (c p px)
        · exact absurd px (c3 p (sy1 p py))
        · exact absurd py (c2 p (sx1 p px))
        · exact absurd (sy1 p py) (c4 p (sx1 p px))
      · rw [wy.out p (fun z => py (.inl z)) (fun z => py (.inr z)), wx.inn p px]
    · rw [wx'.out p (fun z => px (.inl z)) (fun z => px (.inr z))]
      by_cases py : p ∈ idy ∨ p ∈ sy
      · rw [wy.inn p py, wy'.inn p py]
      · rw [wy.out p (fun z => py (.inl z)) (fun z => py (.inr z)), wx.out p (fun z => px (.inl z)) (fun z => px (.inr z)), wy'.out p (fun z => py (.inl z)) (fun z => py (.inr z))]
  subst heq
  have fy : footOf F y j st.h idy = footOf F y j h1 idy := by unfold footOf; rw [pickBlks_congr agy]
  have fx : footOf F x i h1' idx = footOf F x i st.h idx := by unfold footOf; rw [pickBlks_congr agx]
  rw [evOpsL_cons hy, f1]
  simp only [Option.bind_some]
  rw [fy, dy']
  simp only [cond_true]
  rw [evOpsL_cons hx]
  simp only
  rw [effL_put hyx1 hyx2, f2]
  simp only [Option.bind_some]
  rw [fx, dx']
  simp only [cond_true]
  refine evOpsL_mono r ?_ he
  intro z hz
  simp only [List.mem_cons] at hz ⊢
  rcases hz with z | z | z
  · exact .inr (.inl z)
  · exact .inl z
  · exact .inr (.inr z)

end
end Go.Ev

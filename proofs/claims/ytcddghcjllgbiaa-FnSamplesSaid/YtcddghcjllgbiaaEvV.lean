/-
  Tables of summaries, loops, functions: how a printed text is put together.
-/
import Derived.Test.YtcddghcjllgbiaaEvUa
namespace Go.Ev

def fuel : Nat := 18446744073709551616

def findLoop (k : Nat) : Code → Option Code
  | .seq a b => match findLoop k a with
    | some c => some c
    | none => findLoop k b
  | .cond _ a b => match findLoop k a with
    | some c => some c
    | none => findLoop k b
  | .block _ c => findLoop k c
  | .loop c => bif key c == k then some c else findLoop k c
  | _ => none

/-- The piece of code at a place, anywhere. -/
def findTail (k : Nat) : Code → Option Code
  | .seq a b => bif key b == k then some b else match findTail k a with
    | some c => some c
    | none => findTail k b
  | .cond _ a b => match findTail k a with
    | some c => some c
    | none => findTail k b
  | .block _ c => findTail k c
  | .loop c => findTail k c
  | _ => none

def bodyOf (fn : Func) : Code := match fn.body with
  | some c => c
  | none => .skip

def loopOf (fn : Func) (k : Nat) : Code := match findLoop k (bodyOf fn) with
  | some c => c
  | none => .skip

def tailOf (fn : Func) (k : Nat) : Code := match findTail k (bodyOf fn) with
  | some c => c
  | none => .skip

def ins (k : FuncId) (s : Sum) (F : FuncId → Option Sum) : FuncId → Option Sum := fun f => bif f == k then some s else F f

def noF : FuncId → Option Sum := fun _ => none
def noL : Nat → Option LoopS := fun _ => none
def insL (k : Nat) (l : LoopS) (L : Nat → Option LoopS) : Nat → Option LoopS := fun n => bif n == k then some l else L n

section
variable {P : Program} {T : Types} {F : FuncId → Option Sum}

theorem noF_ok : FOk P noF := fun _ _ h => by cases h

theorem ins_ok {k : FuncId} {s : Sum} (hs : SumOk P k s) (hF : FOk P F) : FOk P (ins k s F) := by
  intro f t h
  unfold ins at h
  cases hq : f == k with
  | false => rw [hq] at h; exact hF f t h
  | true => rw [hq] at h; simp only [cond_true, Option.some.injEq] at h; rw [beq_iff_eq] at hq; subst hq; subst h; exact hs

/-! ### Loops and meeting places of a code -/

/-- What stands at a number: each loop and each place there. -/
theorem LoopsOk.none (n0 : Nat) (c : Code) : LoopsOk P n0 noL c := ⟨fun _ _ _ h => (by cases h), fun _ _ _ h => (by cases h)⟩

/-- A number stands once in a list of codes. -/
def apartKeys (k : Nat) : List Code → Bool
  | [] => true
  | c :: r => bif key c == k then !(hasN (r.map key) k) else apartKeys k r

def findKey (k : Nat) : List Code → Option Code
  | [] => Option.none
  | c :: r => bif key c == k then some c else findKey k r

theorem findKey_unique {k : Nat} : ∀ {l : List Code} {c b : Code}, apartKeys k l = true → findKey k l = some c → b ∈ l → key b = k → b = c := by
  intro l
  induction l with
  | nil => intro c b _ h _ _; cases h
  | cons x r ih =>
    intro c b ha hf hb hk
    simp only [apartKeys] at ha
    simp only [findKey] at hf
    cases hq : key x == k with
    | true =>
      rw [hq] at hf ha
      simp only [cond_true, Option.some.injEq, Bool.not_eq_true'] at hf ha
      simp only [beq_iff_eq] at hq
      subst hf
      rcases List.mem_cons.1 hb with rfl | hb
      · rfl
      · have : hasN (r.map key) k = true := hasN_iff.mpr (by rw [← hk]; exact List.mem_map_of_mem hb)
        rw [this] at ha; cases ha
    | false =>
      rw [hq] at hf ha
      simp only [cond_false] at hf ha
      rcases List.mem_cons.1 hb with rfl | hb
      · simp only [beq_eq_false_iff_ne, ne_eq] at hq; exact absurd hk hq
      · exact ih ha hf hb hk

/-- One loop more. -/
theorem LoopsOk.loop {n0 : Nat} {L : Nat → Option LoopS} {c b : Code} {k : Nat} {l : LoopS} (hu : apartKeys k (loopsOf c) = true) (hk : Nat.blt k 500000 = true) (hf : findKey k (loopsOf c) = some b) (hb : LoopOk P n0 l b) (h : LoopsOk P n0 L c) :
    LoopsOk P n0 (insL k l L) c := by
  refine ⟨fun x hx l' hl => ?_, fun x hx l' hl => ?_⟩
  · unfold insL at hl
    cases hq : key x == k with
    | true =>
      rw [hq] at hl
      simp only [cond_true, Option.some.injEq] at hl
      simp only [beq_iff_eq] at hq
      subst hl
      rw [findKey_unique hu hf hx hq]; exact hb
    | false => rw [hq] at hl; exact h.loops x hx l' hl
  · unfold insL at hl
    cases hq : cut (key x) == k with
    | true =>
      simp only [beq_iff_eq] at hq
      simp only [Nat.blt_eq] at hk
      unfold cut at hq; omega
    | false => rw [hq] at hl; exact h.tails x hx l' hl

/-- One meeting place more. -/
theorem LoopsOk.cut {n0 : Nat} {L : Nat → Option LoopS} {c b : Code} {k : Nat} {l : LoopS} (hu : apartKeys k (tailsOf c) = true) (hk : (loopsOf c).all (fun x => Nat.blt (key x) 500000) = true) (hf : findKey k (tailsOf c) = some b) (hb : CodeOk P n0 l b) (h : LoopsOk P n0 L c) :
    LoopsOk P n0 (insL (Ev.cut k) l L) c := by
  refine ⟨fun x hx l' hl => ?_, fun x hx l' hl => ?_⟩
  · unfold insL at hl
    cases hq : key x == Ev.cut k with
    | true =>
      have := List.all_eq_true.mp hk x hx
      simp only [Nat.blt_eq] at this
      simp only [beq_iff_eq] at hq
      unfold Ev.cut at hq; omega
    | false => rw [hq] at hl; exact h.loops x hx l' hl
  · unfold insL at hl
    cases hq : Ev.cut (key x) == Ev.cut k with
    | true =>
      rw [hq] at hl
      simp only [cond_true, Option.some.injEq] at hl
      simp only [beq_iff_eq] at hq
      subst hl
      rw [findKey_unique hu hf hx (by unfold Ev.cut at hq; omega)]; exact hb
    | false => rw [hq] at hl; exact h.tails x hx l' hl

/-- A loop's continuation: a round's end as a state of the given shape. -/
def round (n0 : Nat) (keep : Nat → Bool) (G : St → Option Out) (K : Kont) (e : Ex) (st : St) : Option Out :=
  bif normOk n0 keep st then
    match e with
    | .normal => G (norm n0 keep st)
    | e => K e (norm n0 keep st)
  else none

theorem evLoop_succ {D : List Oper → St → Kont → Option Out} {L : Nat → Option LoopS} (n0 : Nat) (keep : Nat → Bool) (body : Code) (n : Nat) (st : St) (K : Kont) :
    evLoop T F D L n0 keep body (n + 1) st K = evCode T F D L body st (round n0 keep (fun st => evLoop T F D L n0 keep body n st K) K) := rfl

theorem bind_id {ρ σ : Type} {x : Option ρ} {f : ρ → Option σ} : x.bind f = x.bind f := rfl

theorem cond_bind {ρ σ : Type} (c : Bool) (a b : Option ρ) (f : ρ → Option σ) : (bif c then a else b).bind f = bif c then a.bind f else b.bind f := by
  cases c <;> rfl

/-- A function that reads. -/
theorem rd_ok {D : List Oper → St → Kont → Option Out} (hT : TOk P T) (hF : FOk P F) (hD : DrawOk P D) {f : FuncId} {fn : Func} (hf : P.funcs[f]? = some fn) (hn : (fn.name == "runtime.NumGoroutine") = false) {c : Code} (hc : fn.body = some c)
    {R : Type} {S : List AV → List Blk → Option R} {val : R → AV}
    (h : ∀ args h r, S args h = some r → ∃ L, LoopsOk P h.length L c ∧ evFn T F D L fn args h = some (val r, h)) : SumOk P f (.rd S val) := by
  refine ⟨⟨fn, hf, hn, by rw [hc]; rfl⟩, fun args h' r hr => ?_⟩
  obtain ⟨L, hL, he⟩ := h args h' r hr
  exact evFn_sound hT hF hD hf hc hL he

theorem mk_ok {D : List Oper → St → Kont → Option Out} (hT : TOk P T) (hF : FOk P F) (hD : DrawOk P D) {f : FuncId} {fn : Func} (hf : P.funcs[f]? = some fn) (hn : (fn.name == "runtime.NumGoroutine") = false) {c : Code} (hc : fn.body = some c)
    {R : Type} {S : List AV → List Blk → Option R} {val : R → AV × List Blk}
    (h : ∀ args h r, S args h = some r → ∃ L, LoopsOk P h.length L c ∧ evFn T F D L fn args h = some ((val r).1, h ++ (val r).2)) : SumOk P f (.mk S val) := by
  refine ⟨⟨fn, hf, hn, by rw [hc]; rfl⟩, fun args h' r hr => ?_⟩
  obtain ⟨L, hL, he⟩ := h args h' r hr
  exact evFn_sound hT hF hD hf hc hL he

theorem wr_ok {D : List Oper → St → Kont → Option Out} (hT : TOk P T) (hF : FOk P F) (hD : DrawOk P D) {f : FuncId} {fn : Func} (hf : P.funcs[f]? = some fn) (hn : (fn.name == "runtime.NumGoroutine") = false) {c : Code} (hc : fn.body = some c)
    {R : Type} {S : List AV → List Blk → Option R} {val : List AV → List Blk → R → AV × List Blk}
    (h : ∀ args h r, S args h = some r → h.length ≤ (val args h r).2.length ∧ ∃ L, LoopsOk P h.length L c ∧ evFn T F D L fn args h = some (val args h r)) : SumOk P f (.wr S val) := by
  refine ⟨⟨fn, hf, hn, by rw [hc]; rfl⟩, fun args h' r hr => ?_⟩
  obtain ⟨h1, L, hL, he⟩ := h args h' r hr
  exact ⟨evFn_sound hT hF hD hf hc hL he, h1⟩

end
/-! ### Few slots of many -/

/-- The slots with some numbers (in ascending order). -/
def sel : Nat → List Nat → List AV → List AV
  | _, _, [] => []
  | _, [], _ => []
  | i, k :: ks, v :: t => bif i == k then v :: sel (i + 1) ks t else sel (i + 1) (k :: ks) t

/-- Values put back at their slots. -/
def spread : Nat → Nat → List Nat → List AV → List AV
  | _, 0, _, _ => []
  | i, n + 1, [], vs => .any :: spread (i + 1) n [] vs
  | i, n + 1, k :: ks, vs => bif i == k then (vs.headD .any) :: spread (i + 1) n ks vs.tail else .any :: spread (i + 1) n (k :: ks) vs

/-- No slot but those has a value. -/
def only : Nat → List Nat → List AV → Prop
  | _, _, [] => True
  | i, [], v :: t => v = .any ∧ only (i + 1) [] t
  | i, k :: ks, v :: t => if i = k then only (i + 1) ks t else v = .any ∧ only (i + 1) (k :: ks) t

theorem spread_sel : ∀ (t : List AV) (i : Nat) (ks : List Nat), only i ks t → spread i t.length ks (sel i ks t) = t := by
  intro t
  induction t with
  | nil => intro i ks _; rfl
  | cons v t ih =>
    intro i ks h
    cases ks with
    | nil =>
      simp only [only] at h
      have e := ih (i + 1) [] h.2
      have e2 : sel i [] (v :: t) = [] := rfl
      have e3 : sel (i + 1) [] t = [] := by cases t <;> rfl
      rw [e2, List.length_cons, spread, h.1]
      rw [e3] at e; rw [e]
    | cons k ks =>
      simp only [only] at h
      simp only [sel, List.length_cons, spread]
      by_cases q : i = k
      · subst q
        rw [if_pos rfl] at h
        simp only [beq_self_eq_true, cond_true, List.headD_cons, List.tail_cons]
        rw [ih (i + 1) ks h]
      · rw [if_neg q] at h
        have q' : (i == k) = false := by simpa using q
        simp only [q', cond_false]
        rw [ih (i + 1) (k :: ks) h.2, h.1]

def asc : Nat → List Nat → Bool
  | _, [] => true
  | i, k :: ks => Nat.ble i k && asc (k + 1) ks

theorem only_renL {m : Nat → Nat} : ∀ (t : List AV) (i : Nat) (ks : List Nat), only i ks t → only i ks (renL m t) := by
  intro t
  induction t with
  | nil => intro i ks h; exact h
  | cons v t ih =>
    intro i ks h
    cases ks with
    | nil => simp only [only, renL] at h ⊢; exact ⟨by rw [h.1]; rfl, ih _ _ h.2⟩
    | cons k ks =>
      simp only [only, renL] at h ⊢
      by_cases q : i = k
      · rw [if_pos q] at h ⊢; exact ih _ _ h
      · rw [if_neg q] at h ⊢; exact ⟨by rw [h.1]; rfl, ih _ _ h.2⟩

theorem asc_le {i : Nat} {ks : List Nat} (h : asc i ks = true) : ∀ k ∈ ks, i ≤ k := by
  induction ks generalizing i with
  | nil => intro k hk; cases hk
  | cons a ks ih =>
    simp only [asc, Bool.and_eq_true, Nat.ble_eq] at h
    intro k hk
    cases hk with
    | head => exact h.1
    | tail _ hk => have := ih h.2 k hk; omega

theorem only_mask {all : List Nat} : ∀ (t : List AV) (i : Nat) (ks : List Nat), asc i ks = true → (∀ k, i ≤ k → (k ∈ all ↔ k ∈ ks)) → only i ks (maskFrom (hasN all) i t) := by
  intro t
  induction t with
  | nil => intro i ks _ _; simp [maskFrom, only]
  | cons v t ih =>
    intro i ks ha hk
    simp only [maskFrom]
    cases ks with
    | nil =>
      simp only [only]
      refine ⟨?_, ih (i + 1) [] rfl (fun k h => hk k (by omega))⟩
      have : hasN all i = false := by
        cases q : hasN all i with
        | false => rfl
        | true => have := (hk i (Nat.le_refl _)).mp (hasN_iff.mp q); cases this
      rw [this]; rfl
    | cons k ks =>
      simp only [only]
      simp only [asc, Bool.and_eq_true, Nat.ble_eq] at ha
      by_cases q : i = k
      · rw [if_pos q]
        subst q
        refine ih (i + 1) ks ha.2 (fun x hx => ?_)
        rw [hk x (by omega)]
        simp only [List.mem_cons]
        constructor
        · rintro (e | e)
          · omega
          · exact e
        · exact .inr
      · rw [if_neg q]
        refine ⟨?_, ih (i + 1) (k :: ks) (by simp only [asc, Bool.and_eq_true, Nat.ble_eq]; exact ⟨by omega, ha.2⟩) (fun x hx => hk x (by omega))⟩
        have : hasN all i = false := by
          cases w : hasN all i with
          | false => rfl
          | true =>
            have := (hk i (Nat.le_refl _)).mp (hasN_iff.mp w)
            cases this with
            | head => exact absurd rfl q
            | tail _ hm => have := asc_le ha.2 i hm; omega
        rw [this]; rfl

/-- A state behind 'norm', told by the slots that are kept. -/
theorem norm_spread {n0 : Nat} {ks : List Nat} (ha : asc 0 ks = true) (st : St) {vs : List AV} {h : List Blk} {n : Nat}
    (h1 : sel 0 ks (norm n0 (hasN ks) st).t = vs) (h2 : (norm n0 (hasN ks) st).h = h) (h3 : (norm n0 (hasN ks) st).t.length = n) : norm n0 (hasN ks) st = ⟨spread 0 n ks vs, h⟩ := by
  have ho : only 0 ks (norm n0 (hasN ks) st).t := by
    unfold norm gc
    exact only_renL _ _ _ (only_mask st.t 0 ks ha (fun _ _ => Iff.rfl))
  have := spread_sel _ 0 ks ho
  rw [h1, h3] at this
  rw [this, ← h2]

end Go.Ev

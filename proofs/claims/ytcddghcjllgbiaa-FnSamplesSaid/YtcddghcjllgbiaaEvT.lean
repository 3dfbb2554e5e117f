/-
  Regions whose order is drawn: steps that change places.
-/
import Derived.Test.YtcddghcjllgbiaaEvS
namespace Go.Ev
open Go.RowKit
set_option linter.unusedSimpArgs false

section
variable {T : Types} {F : FuncId → Option Sum} {h : List Blk} {t t' : List AV} {K : AV → List Blk → Option Out}

theorem typed_cases {ty : TypeId} {v : AV} {out : Out} {G : AV → List Blk → Option Out} (he : typed T ty v h G = some out) :
    (∀ h2 G2, typed T ty v h2 G2 = G2 v h2) ∨ ∃ b v', G v' (h ++ [b]) = some out := by
  unfold typed at he
  split at he
  · refine .inr ?_
    repeat' first
      | split at he
      | (refine cond_elim he (fun _ q => ?_); clear he; have he := q; clear q)
      | (cases he; done)
      | exact ⟨_, _, he⟩
  · rename_i hne
    refine .inl (fun h2 G2 => ?_)
    unfold typed
    split
    · exact absurd rfl hne
    · rfl

theorem typedL_cases {vs : List AV} : ∀ {tys : List TypeId} {h : List Blk} {out : Out} {G : List AV → List Blk → Option Out}, typedL T tys vs h G = some out →
    (∀ h2 G2, typedL T tys vs h2 G2 = G2 vs h2) ∨ ∃ b r vs', G vs' (h ++ b :: r) = some out := by
  induction vs with
  | nil => intro tys h out G he; exact .inl (fun _ _ => rfl)
  | cons v r ih =>
    intro tys h out G he
    simp only [typedL] at he
    rcases typed_cases he with k | ⟨b, v', he⟩
    · rw [k] at he
      rcases ih he with k2 | ⟨b, s, vs', h1⟩
      · exact .inl (fun h2 G2 => by simp only [typedL]; rw [k, k2])
      · exact .inr ⟨b, s, _, h1⟩
    · obtain ⟨s, vs', h1, _⟩ := typedL_len he
      exact .inr ⟨b, s, _, by simpa using h1⟩

theorem call_rd {R : Type} {S : List AV → List Blk → Option R} {val : R → AV} {vs : List AV} {v : AV} {h' : List Blk} (he : (Sum.rd S val).call vs h pr = some (v, h')) : h' = h := by
  simp only [Sum.call] at he
  split at he
  · obtain ⟨_, _, he⟩ := bind_inv he; cases he; rfl
  · cases he

theorem call_ext {R : Type} {S : List AV → Option R} {val : R → AV} {vs : List AV} {v : AV} {h' : List Blk} (he : (Sum.ext S val).call vs h pr = some (v, h')) : h' = h := by
  simp only [Sum.call] at he
  obtain ⟨_, _, he⟩ := bind_inv he; cases he; rfl

theorem call_mk {R : Type} {S : List AV → List Blk → Option R} {val : R → AV × List Blk} {vs : List AV} {v : AV} {h' : List Blk} (he : (Sum.mk S val).call vs h pr = some (v, h')) : ∃ r, h' = h ++ r := by
  simp only [Sum.call] at he
  split at he
  · obtain ⟨_, _, he⟩ := bind_inv he; cases he; exact ⟨_, rfl⟩
  · cases he

theorem call_isRd {s : Sum} (hs : s.isRd = true) {vs : List AV} {v : AV} {h' : List Blk} (he : s.call vs h pr = some (v, h')) : h' = h := by
  induction s with
  | rd S val => exact call_rd he
  | ext S val => exact call_ext he
  | mk S val => cases hs
  | wr S val => cases hs
  | alt c a b iha ihb =>
    simp only [Sum.isRd, Bool.and_eq_true] at hs
    simp only [Sum.call] at he
    split at he
    · rename_i ids _
      cases hc : c (renL (indexOf ids) vs) (pickBlks h (indexOf ids) ids) with
      | true => rw [hc] at he; exact iha hs.1 he
      | false => rw [hc] at he; exact ihb hs.2 he
    · cases he

theorem call_isMk {s : Sum} (hs : (s.isMk || s.isRd) = true) {vs : List AV} {v : AV} {h' : List Blk} (he : s.call vs h pr = some (v, h')) : ∃ r, h' = h ++ r := by
  induction s with
  | rd S val => exact ⟨[], by simpa using call_rd he⟩
  | ext S val => exact ⟨[], by simpa using call_ext he⟩
  | mk S val => exact call_mk he
  | wr S val => cases hs
  | alt c a b iha ihb =>
    have hs' : (a.isMk || a.isRd) = true ∧ (b.isMk || b.isRd) = true := by
      simp only [Sum.isRd, Sum.isMk, Bool.or_eq_true, Bool.and_eq_true] at hs ⊢
      rcases hs with q | q
      · exact q
      · exact ⟨.inr q.1, .inr q.2⟩
    simp only [Sum.call] at he
    split at he
    · rename_i ids _
      cases hc : c (renL (indexOf ids) vs) (pickBlks h (indexOf ids) ids) with
      | true => rw [hc] at he; exact iha hs'.1 he
      | false => rw [hc] at he; exact ihb hs'.2 he
    · cases he

theorem app_same {α : Type} {a r : List α} (h : a ++ r = a) : r = [] := by simpa using h

theorem evOp_quietExt {op : Op} {ty : TypeId} {v : AV} {h' : List Blk} (hq : quietOp F op = true) (he : evOp T F op ty t h pr = some (v, h')) : ∃ r, h' = h ++ r := by
  have ext : (∃ r, h' = h ++ r) → ∃ r, h' = h ++ r := id
  have sm : h' = h → ∃ r, h' = h ++ r := fun e => ⟨[], by rw [e, List.append_nil]⟩
  cases op <;> simp only [quietOp] at hq <;> first | (cases hq; done) | skip
  case call c =>
    simp only [evOp] at he
    split at he
    · cases he
    · obtain ⟨r, vs', h1, _⟩ := typedL_len he
      refine ext ⟨r, ?_⟩
      cases hc : c.callee with
      | builtin b =>
        rw [hc] at h1 hq
        have hb : b = .len ∨ b = .max ∨ b = .min ∨ b = .complex ∨ b = .real ∨ b = .imag := by
          cases b <;> simp at hq <;> simp
        exact (evBuiltin_quiet hb h1).1
      | invoke a b => rw [hc] at h1; cases h1
      | value f =>
        rw [hc] at h1 hq
        cases f with
        | func f =>
          simp only [evalR] at h1 hq
          cases hF : F f with
          | none => rw [hF] at h1; cases h1
          | some s =>
            rw [hF] at h1 hq
            exact call_isRd hq h1
        | tmp n => cases hq
        | const n => cases hq
        | global n => cases hq
  case slice tt x lo hi mx => cases mx with
    | some _ => cases hq
    | none =>
      simp only [evOp] at he
      split at he
      · exact sm (evSlice_len he).1
      · cases he
  case binOp => simp only [evOp] at he; split at he <;> first | (cases he; done) | exact sm (binAV_reg he).1
  case unOp => simp only [evOp] at he; split at he <;> first | (cases he; done) | exact sm (unAV_reg he).1
  case convert => simp only [evOp] at he; split at he <;> first | (cases he; done) | exact sm (evConvert_reg he).1
  case load => simp only [evOp] at he; split at he <;> first | (cases he; done) | exact ext (evLoad_quiet he)
  case indexAddr =>
    simp only [evOp] at he
    repeat' first
      | split at he
      | (cases he; done)
      | exact sm (evIndexAddr_len he).1
  case makeFunc f a b => cases f <;> simp only [evOp] at he <;> first | (cases he; done) | skip
                         split at he <;> first | (cases he; done) | (cases he; exact sm rfl)
  case move => simp only [evOp] at he; split at he <;> first | (cases he; done) | exact ext (typed_quiet he)
  case assign => simp only [evOp] at he; split at he <;> first | (cases he; done) | exact ext (typed_quiet he)
  case pick c a b =>
    simp only [evOp] at he
    split at he
    · rename_i q _ _ _ _ _; cases q <;> (cases he; exact sm rfl)
    · cases he
  all_goals
    simp only [evOp] at he
    repeat' first
      | split at he
      | (refine cond_elim he (fun _ q => ?_); clear he; have he := q; clear q)
      | (refine bind_elim he (fun _ _ q => ?_); clear he; have he := q; clear q)
      | (cases he; done)
      | (cases he; exact sm rfl)

theorem evOp_quiet {op : Op} {ty : TypeId} {v : AV} {h' : List Blk} (hq : quietOp F op = true) (he : evOp T F op ty t h pr = some (v, h')) (hl : h'.length = h.length) : h' = h := by
  obtain ⟨r, rfl⟩ := evOp_quietExt hq he
  rw [len_app hl, List.append_nil]

theorem evOp_reg {op : Op} {ty : TypeId} {v : AV} (hq : regOp op = true) (he : evOp T F op ty t h pr = some (v, h)) (h2 : List Blk) : evOp T F op ty t h2 pr = some (v, h2) := by
  cases op <;> simp only [regOp] at hq <;> first | (cases hq; done) | skip
  case call c =>
    simp only [evOp] at he ⊢
    split at he
    · cases he
    · rename_i vs hvs
      cases hc : c.callee with
      | builtin b =>
        rw [hc] at he hq
        have hb : b = .max ∨ b = .min ∨ b = .complex ∨ b = .real ∨ b = .imag := by
          cases b <;> simp at hq <;> simp
        have hb2 : b ≠ .len := by rintro rfl; simp at hq
        rcases typedL_cases he with k | ⟨x, r, vs', h1⟩
        · rw [k] at he ⊢
          exact (evBuiltin_quiet (.inr hb) he).2 hb2 h2
        · have := (evBuiltin_quiet (.inr hb) h1).1
          exact absurd (app_same this.symm) (by simp)
      | invoke a b => rw [hc] at hq; cases hq
      | value f => rw [hc] at hq; cases hq
  case binOp => simp only [evOp] at he ⊢; split at he <;> first | (cases he; done) | exact (binAV_reg he).2 h2
  case unOp => simp only [evOp] at he ⊢; split at he <;> first | (cases he; done) | exact (unAV_reg he).2 h2
  case convert => simp only [evOp] at he ⊢; split at he <;> first | (cases he; done) | exact (evConvert_reg he).2 h2
  case makeFunc f a b => cases f <;> simp only [evOp] at he ⊢ <;> first | (cases he; done) | skip
                         split at he <;> first | (cases he; done) | (cases he; rfl)
  case move => simp only [evOp] at he ⊢; split at he <;> first | (cases he; done) | exact typed_reg he h2
  case assign => simp only [evOp] at he ⊢; split at he <;> first | (cases he; done) | exact typed_reg he h2
  case pick c a b =>
    simp only [evOp] at he ⊢
    split at he
    · rename_i q _ _ _ _ _; cases q <;> (cases he; rfl)
    · cases he
  all_goals
    suffices key : ∀ op ty, (∃ s x f, op = Op.fieldAddr s x f) ∨ (∃ s x f, op = Op.field s x f) ∨ (∃ x i, op = Op.extract x i) ∨ (∃ x, op = Op.nilCheck x) ∨ (∃ s x f, op = Op.index s x f) →
        evOp T F op ty t h2 pr = (evOp T F op ty t h pr).map fun r => (r.1, h2) by
      rw [key _ _ (by simp), he]; rfl
    clear he hq
    have cnd : ∀ (c : Bool) (a b : Option Out), a = b.map (fun r => (r.1, h2)) → (bif c then a else none) = (bif c then b else none).map fun r => (r.1, h2) := by
      intro c a b e; cases c <;> first | rfl | exact e
    have bnd : ∀ {α : Type} (o : Option α) (f : α → AV), (o.bind fun a => pr (f a) h2) = (o.bind fun a => pr (f a) h).map fun r => (r.1, h2) := by
      intro α o f; cases o <;> rfl
    rintro op ty (⟨_, _, _, rfl⟩ | ⟨_, _, _, rfl⟩ | ⟨_, _, rfl⟩ | ⟨_, rfl⟩ | ⟨_, _, _, rfl⟩) <;> simp only [evOp] <;> repeat' first
      | rfl
      | exact bnd _ _
      | refine cnd _ _ _ ?_
      | split

theorem evOp_len {op : Op} {ty : TypeId} {v : AV} (hq : lenOp op = true) (he : evOp T F op ty t h pr = some (v, h)) (r : List Blk) : evOp T F op ty t (h ++ r) pr = some (v, h ++ r) := by
  cases op <;> simp only [lenOp] at hq <;> first | (cases hq; done) | skip
  case slice tt x lo hi mx => cases mx with
    | some _ => cases hq
    | none =>
      simp only [evOp] at he ⊢
      split at he
      · exact (evSlice_len he).2 r
      · cases he
  case indexAddr s x i =>
    simp only [evOp] at he ⊢
    split at he
    · rename_i h1 h2 h3
      split at he
      · rename_i h4
        exact (evIndexAddr_len he).2 r
      · cases he
    · cases he

theorem zeroCells_ext : ∀ (l : List ZC) (h : List Blk), ∃ r, (zeroCells l h).2 = h ++ r := by
  intro l
  induction l with
  | nil => intro h; exact ⟨[], by simp [zeroCells]⟩
  | cons z l ih =>
    intro h
    cases z with
    | av a => obtain ⟨r, hr⟩ := ih h; exact ⟨r, by simp only [zeroCells]; exact hr⟩
    | sl e τ => obtain ⟨r, hr⟩ := ih (h ++ [.vec true e τ []]); exact ⟨_, by simp only [zeroCells]; rw [hr, List.append_assoc]⟩

theorem evOp_ext {op : Op} {ty : TypeId} {v : AV} {h' : List Blk} (hq : extOp F op = true) (he : evOp T F op ty t h pr = some (v, h')) : ∃ r, h' = h ++ r := by
  cases op <;> simp only [extOp] at hq <;> first | (cases hq; done) | skip
  case alloc e =>
    simp only [evOp] at he
    split at he
    · rename_i ti _
      cases he
      obtain ⟨r, hr⟩ := zeroCells_ext ti.zero h
      exact ⟨_, by rw [hr, List.append_assoc]⟩
    · cases he
  case call c =>
    simp only [evOp] at he
    split at he
    · cases he
    · obtain ⟨r, vs', h1, _⟩ := typedL_len he
      cases hc : c.callee with
      | builtin b => rw [hc] at hq; cases hq
      | invoke a b => rw [hc] at hq; cases hq
      | value f =>
        rw [hc] at h1 hq
        cases f with
        | func f =>
          simp only [evalR] at h1 hq
          cases hF : F f with
          | none => rw [hF] at h1; cases h1
          | some s =>
            rw [hF] at h1 hq
            obtain ⟨r2, hr⟩ := call_isMk (by rw [Bool.or_eq_true]; exact .inl hq) h1
            exact ⟨r ++ r2, by rw [hr, List.append_assoc]⟩
        | tmp n => cases hq
        | const n => cases hq
        | global n => cases hq

/-! ### Steps -/

variable (F)

def chk (op : Op) (n : Nat) (K : AV → List Blk → Option Out) (v : AV) (h : List Blk) : Option Out :=
  bif quietOp F op then (bif h.length == n then K v h else none) else K v h

variable (T)

/-- Operations one after another, each of which is looked at. -/
def evOpsD (ops : List Oper) : List Oper → St → Kont → Option Out
  | [], st, K => K .normal st
  | o :: r, st, K =>
    match o.guard with
    | none => evOp T F o.op o.type st.t st.h (chk F o.op st.h.length fun v h => evOpsD ops r ⟨St.put st.t o.dst v, h⟩ K)
    | some (j, want) =>
      match (nth ops j).bind (·.dst) with
      | some d => match nth st.t d with
        | some (.bool b) =>
          bif b then
            (bif want then evOp T F o.op o.type (setNth st.t d (.bool true)) st.h (chk F o.op st.h.length fun v h => evOpsD ops r ⟨St.put (setNth st.t d (.bool true)) o.dst v, h⟩ K)
            else evOpsD ops r ⟨St.put (setNth st.t d (.bool true)) o.dst (.val undef), st.h⟩ K)
          else
            (bif want then evOpsD ops r ⟨St.put (setNth st.t d (.bool false)) o.dst (.val undef), st.h⟩ K
            else evOp T F o.op o.type (setNth st.t d (.bool false)) st.h (chk F o.op st.h.length fun v h => evOpsD ops r ⟨St.put (setNth st.t d (.bool false)) o.dst v, h⟩ K))
        | some (.val u) => bif noBool u then evOpsD ops r ⟨St.put st.t o.dst (.val undef), st.h⟩ K else none
        | _ => none
      | none => none

variable {T} {F}

def wantedA (ops : List Oper) (o : Oper) (t : List AV) : Option Bool :=
  match o.guard with
  | none => some true
  | some (j, want) => match (nth ops j).bind (·.dst) with
    | some d => match nth t d with
      | some (.bool b) => some (b == want)
      | some (.val u) => bif noBool u then some false else none
      | _ => none
    | none => none

def guardReads (ops : List Oper) (o : Oper) : List Operand :=
  match o.guard with
  | none => []
  | some (j, _) => match (nth ops j).bind (·.dst) with
    | some d => [.tmp d]
    | none => []

def eff (T : Types) (F : FuncId → Option Sum) (ops : List Oper) (o : Oper) (t : List AV) (h : List Blk) : Option Out :=
  (wantedA ops o t).bind fun w => bif w then evOp T F o.op o.type t h (chk F o.op h.length pr) else some (.val undef, h)

theorem setNth_same {α : Type} {l : List α} {n : Nat} {x : α} (h : nth l n = some x) : setNth l n x = l := by
  rw [nth_eq] at h
  rw [setNth_eq]
  apply List.ext_getElem?
  intro i
  by_cases e : i = n
  · subst e; rw [List.getElem?_set_self (get_lt h), h]
  · rw [List.getElem?_set_ne (Ne.symm e)]

theorem chk_nat (op : Op) (ty : TypeId) (n : Nat) : evOp T F op ty t h (chk F op n K) = (evOp T F op ty t h (chk F op n pr)).bind (un K) := by
  rw [evOp_nat, evOp_nat (K := chk F op n pr), Option.bind_assoc]
  congr 1
  funext r
  unfold un chk
  cases quietOp F op with
  | false => rfl
  | true =>
    simp only [cond_true]
    exact cond_nat _ _ _ rfl

theorem evOpsD_cons (ops : List Oper) (o : Oper) (r : List Oper) (st : St) (G : Kont) :
    evOpsD T F ops (o :: r) st G = (eff T F ops o st.t st.h).bind fun x => evOpsD T F ops r ⟨St.put st.t o.dst x.1, x.2⟩ G := by
  rw [evOpsD]
  unfold eff wantedA
  split
  · rename_i hg
    simp only [Option.bind_some, cond_true]
    rw [chk_nat]; rfl
  · rename_i j want hg
    split
    · rename_i d hd
      split
      · rename_i b hb
        cases b with
        | true =>
          rw [setNth_same hb]
          cases want with
          | true => simp only [cond_true, Option.bind_some, beq_self_eq_true]; rw [chk_nat]; rfl
          | false => simp
        | false =>
          rw [setNth_same hb]
          cases want with
          | true => simp
          | false => simp only [cond_false, Option.bind_some, beq_self_eq_true, cond_true]; rw [chk_nat]; rfl
      · rename_i u hu
        cases noBool u <;> simp
      · rename_i hn
        rfl
    · rfl

theorem eff_quiet {ops : List Oper} {o : Oper} {v : AV} {h' : List Blk} (hq : quietOp F o.op = true) (he : eff T F ops o t h = some (v, h')) : h' = h := by
  unfold eff at he
  obtain ⟨w, _, he⟩ := bind_inv he
  cases w with
  | false => cases he; rfl
  | true =>
    simp only [cond_true] at he
    rw [evOp_nat] at he
    obtain ⟨⟨v1, h1⟩, e1, e2⟩ := bind_inv he
    simp only [un, chk, hq, cond_true] at e2
    obtain ⟨e3, e2⟩ := cond_inv e2
    cases e2
    exact evOp_quiet hq e1 (by simpa using e3)

/-- The operation itself. -/
theorem eff_run {ops : List Oper} {o : Oper} {v : AV} {h' : List Blk} (he : eff T F ops o t h = some (v, h')) :
    (wantedA ops o t = some true ∧ evOp T F o.op o.type t h pr = some (v, h') ∧ (quietOp F o.op = true → h' = h)) ∨ (wantedA ops o t = some false ∧ v = .val undef ∧ h' = h) := by
  have hquiet := fun hq => eff_quiet (T := T) (F := F) hq he
  unfold eff at he
  obtain ⟨w, hw, he⟩ := bind_inv he
  cases w with
  | false => cases he; exact .inr ⟨hw, rfl, rfl⟩
  | true =>
    simp only [cond_true] at he
    rw [evOp_nat] at he
    obtain ⟨⟨v1, h1⟩, e1, e2⟩ := bind_inv he
    refine .inl ⟨hw, ?_, hquiet⟩
    cases hq : quietOp F o.op with
    | false => simp only [un, chk, hq, cond_false] at e2; cases e2; exact e1
    | true =>
      simp only [un, chk, hq, cond_true] at e2
      obtain ⟨_, e2⟩ := cond_inv e2
      cases e2; exact e1

theorem eff_of_run {ops : List Oper} {o : Oper} {v : AV} {h' : List Blk} (hw : wantedA ops o t = some true) (he : evOp T F o.op o.type t h pr = some (v, h')) (hq : quietOp F o.op = true → h' = h) : eff T F ops o t h = some (v, h') := by
  unfold eff
  rw [hw]
  simp only [Option.bind_some, cond_true]
  rw [evOp_nat, he]
  simp only [Option.bind_some, un, chk]
  cases q : quietOp F o.op with
  | false => rfl
  | true => rw [hq q]; simp [pr]

theorem eff_skip {ops : List Oper} {o : Oper} (hw : wantedA ops o t = some false) : eff T F ops o t h = some (.val undef, h) := by
  unfold eff; rw [hw]; rfl

theorem eff_reg {ops : List Oper} {o : Oper} {v : AV} (hr : regOp o.op = true) (he : eff T F ops o t h = some (v, h)) (h2 : List Blk) : eff T F ops o t h2 = some (v, h2) := by
  rcases eff_run he with ⟨h1, h3, h4⟩ | ⟨h1, rfl, _⟩
  · exact eff_of_run h1 (evOp_reg hr h3 h2) (fun _ => rfl)
  · exact eff_skip h1

theorem eff_len {ops : List Oper} {o : Oper} {v : AV} (hr : lenOp o.op = true) (he : eff T F ops o t h = some (v, h)) (r : List Blk) : eff T F ops o t (h ++ r) = some (v, h ++ r) := by
  rcases eff_run he with ⟨h1, h3, h4⟩ | ⟨h1, rfl, _⟩
  · exact eff_of_run h1 (evOp_len hr h3 r) (fun _ => rfl)
  · exact eff_skip h1

theorem eff_ext {ops : List Oper} {o : Oper} {v : AV} {h' : List Blk} (hr : extOp F o.op = true) (he : eff T F ops o t h = some (v, h')) : ∃ r, h' = h ++ r := by
  rcases eff_run he with ⟨h1, h3, h4⟩ | ⟨h1, rfl, h2⟩
  · exact evOp_ext hr h3
  · exact ⟨[], by simp [h2]⟩

theorem wantedA_put {ops : List Oper} {o : Oper} {d : Option Tmp} {v : AV} (hf : free d (guardReads ops o) = true) : wantedA ops o (St.put t d v) = wantedA ops o t := by
  unfold wantedA
  unfold guardReads at hf
  split
  · rfl
  · rename_i j want hg
    rw [hg] at hf
    simp only at hf
    split
    · rename_i e he
      rw [he] at hf
      have := evalR_put (t := t) (v := v) hf (List.mem_singleton.mpr rfl)
      simp only [evalR] at this
      rw [this]
    · rfl

theorem eff_put {ops : List Oper} {o : Oper} {d : Option Tmp} {v : AV} (hf : free d (readsOp o.op) = true) (hg : free d (guardReads ops o) = true) : eff T F ops o (St.put t d v) h = eff T F ops o t h := by
  unfold eff
  rw [wantedA_put hg, evOp_congr (t' := t) o.op o.type (fun x hx => evalR_put hf hx)]

/-! ### Two that change places -/

def offDst (x y : Oper) : Bool :=
  match x.dst, y.dst with
  | some a, some b => !(a == b)
  | _, _ => true

def okPair (F : FuncId → Option Sum) (ops : List Oper) (x y : Oper) : Bool :=
  offDst x y && (free x.dst (readsOp y.op) && free x.dst (guardReads ops y)) && (free y.dst (readsOp x.op) && free y.dst (guardReads ops x)) &&
  ((quietOp F x.op && quietOp F y.op) || (regOp x.op && quietOp F x.op) || (regOp y.op && quietOp F y.op) || (lenOp x.op && quietOp F x.op && extOp F y.op))

theorem put_comm {a b : Option Tmp} {u v : AV} (h : ∀ d e, a = some d → b = some e → d ≠ e) : St.put (St.put t a u) b v = St.put (St.put t b v) a u := by
  cases a with
  | none => rfl
  | some d => cases b with
    | none => rfl
    | some e => simp only [St.put, setNth_eq]; exact List.set_comm _ _ (h d e rfl rfl)

theorem swap {ops : List Oper} {x y : Oper} (hok : okPair F ops x y = true) (r : List Oper) (st : St) (G : Kont) {out : Out} (he : evOpsD T F ops (x :: y :: r) st G = some out) : evOpsD T F ops (y :: x :: r) st G = some out := by
  simp only [okPair, Bool.and_eq_true, Bool.or_eq_true] at hok
  obtain ⟨⟨⟨hd, hxy1, hxy2⟩, hyx1, hyx2⟩, hc⟩ := hok
  rw [evOpsD_cons] at he
  obtain ⟨⟨vx, h1⟩, ex, he⟩ := bind_inv he
  rw [evOpsD_cons] at he
  obtain ⟨⟨vy, h2⟩, ey, he⟩ := bind_inv he
  simp only at ey he
  rw [eff_put hxy1 hxy2] at ey
  rw [put_comm (fun d e ha hb => by unfold offDst at hd; rw [ha, hb] at hd; simpa using hd)] at he
  have fin : ∀ h3, eff T F ops y st.t st.h = some (vy, h3) → eff T F ops x st.t h3 = some (vx, h2) → evOpsD T F ops (y :: x :: r) st G = some out := by
    intro h3 a b
    rw [evOpsD_cons, a]
    simp only [Option.bind_some]
    rw [evOpsD_cons]
    simp only
    rw [eff_put hyx1 hyx2, b]
    exact he
  rcases hc with ((⟨qx, qy⟩ | ⟨rx, qx⟩) | ⟨ry, qy⟩) | ⟨⟨lx, qx⟩, xy⟩
  · have e1 := eff_quiet qx ex
    subst e1
    have e2 := eff_quiet qy ey
    subst e2
    exact fin _ ey ex
  · have e1 := eff_quiet qx ex
    subst e1
    exact fin _ ey (eff_reg rx ex _)
  · have e2 := eff_quiet qy ey
    subst e2
    exact fin _ (eff_reg ry ey _) ex
  · have e1 := eff_quiet qx ex
    subst e1
    obtain ⟨r', e2⟩ := eff_ext xy ey
    subst e2
    exact fin _ ey (eff_len lx ex _)

end
end Go.Ev

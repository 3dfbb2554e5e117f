/-
  Regions whose order is drawn: what a step does, and which steps may change places.
-/
import Derived.Test.YtcddghcjllgbiaaEvR
namespace Go.Ev
open Go.RowKit
set_option linter.unusedSimpArgs false

/-! ### What an operation reads -/

def readsOp : Op → List Operand
  | .move x | .assign x | .box _ x | .load _ x | .nilCheck x | .unOp _ _ x | .convert _ _ x | .fieldAddr _ x _ | .field _ x _ | .extract x _ => [x]
  | .pick c a b => [c, a, b]
  | .build _ ps => ps.toList.map (·.2)
  | .buildSlice _ _ ps => ps.toList.map (·.2)
  | .store _ a x => [a, x]
  | .binOp _ _ x y _ => [x, y]
  | .makeFunc _ a b => a.toList ++ b.toList
  | .makeSlice _ l c => [l, c]
  | .slice _ x lo hi _ => x :: lo.toList ++ hi.toList
  | .indexAddr _ x i | .index _ x i => [x, i]
  | .call c => c.args.toList ++ (match c.callee with | .value f => [f] | _ => [])
  | _ => []

def free (d : Option Tmp) (l : List Operand) : Bool :=
  match d with
  | none => true
  | some d => l.all fun x => match x with
    | .tmp n => !(n == d)
    | _ => true

section
variable {T : Types} {F : FuncId → Option Sum} {h : List Blk} {t t' : List AV} {K : AV → List Blk → Option Out}

theorem evalR_put {d : Option Tmp} {v : AV} {x : Operand} {l : List Operand} (hf : free d l = true) (hx : x ∈ l) : evalR (St.put t d v) x = evalR t x := by
  cases d with
  | none => rfl
  | some d =>
    have := List.all_eq_true.mp hf x hx
    cases x
    case const c => cases c <;> rfl
    case func f => rfl
    case global g => rfl
    rename_i n
    simp only [evalR, St.put, nth_eq, setNth_eq]
    have hne : n ≠ d := by simpa using this
    rw [List.getElem?_set_ne (Ne.symm hne)]

theorem evalRs_congr {l : List Operand} (hx : ∀ x ∈ l, evalR t x = evalR t' x) : evalRs t l = evalRs t' l := by
  induction l with
  | nil => rfl
  | cons x r ih =>
    simp only [evalRs]
    rw [hx x (by simp), ih (fun y hy => hx y (by simp [hy]))]

theorem evalO_congr {l : Option Operand} (hx : ∀ x ∈ l.toList, evalR t x = evalR t' x) : evalO t l = evalO t' l := by
  cases l with
  | none => rfl
  | some x => simp only [evalO]; rw [hx x (by simp)]

theorem buildZ_congr {fs : List (Nat × TypeId)} {l : List (Nat × Operand)} {z : List ZC} (hx : ∀ x ∈ l.map (·.2), evalR t x = evalR t' x) : buildZ T t fs l z = buildZ T t' fs l z := by
  induction l generalizing z with
  | nil => rfl
  | cons x r ih =>
    obtain ⟨i, x⟩ := x
    simp only [buildZ]
    rw [hx x (by simp)]
    repeat' split
    · rename_i ti _
      congr 1
      exact ih (fun y hy => hx y (by simp at hy ⊢; exact .inr hy))
    all_goals rfl

theorem buildS_congr {σ : Ty} {l : List (Nat × Operand)} {z : List σ.den} (hx : ∀ x ∈ l.map (·.2), evalR t x = evalR t' x) : buildS t σ l z h = buildS t' σ l z h := by
  induction l generalizing z h with
  | nil => rfl
  | cons x r ih =>
    obtain ⟨i, x⟩ := x
    simp only [buildS]
    rw [hx x (by simp)]
    split
    · congr 1
      split
      · exact ih (fun y hy => hx y (by simp at hy ⊢; exact .inr hy))
      · rfl
    · rfl

theorem evOp_congr (op : Op) (ty : TypeId) (hx : ∀ x ∈ readsOp op, evalR t x = evalR t' x) : evOp T F op ty t h K = evOp T F op ty t' h K := by
  cases op <;> simp only [readsOp, List.mem_cons, List.not_mem_nil, or_false, forall_eq_or_imp, forall_eq, List.mem_append, or_imp, forall_and] at hx
  case build s ps => simp only [evOp]; split <;> first | rfl | rw [buildZ_congr (by simpa using hx)]
  case buildSlice s n ps => simp only [evOp]; split <;> first | rfl | (congr 1; rw [buildS_congr (by simpa using hx)])
  case makeFunc f a b => cases f <;> simp only [evOp] <;> first | rfl | rw [evalRs_congr hx.1, evalRs_congr hx.2]
  case slice tt x lo hi mx => cases mx with
    | some m => simp only [evOp]; rw [hx.1.1]
    | none => simp only [evOp]; rw [hx.1.1, evalO_congr hx.1.2, evalO_congr hx.2]
  case call c =>
    simp only [evOp]
    rw [evalRs_congr hx.1]
    split
    · rfl
    · congr 1
      funext vs h
      cases hc : c.callee with
      | builtin b => rfl
      | invoke r m => rfl
      | value f =>
        have h2 := hx.2
        rw [hc] at h2
        simp only [List.mem_cons, List.not_mem_nil, or_false, forall_eq] at h2
        simp only
        rw [h2]
  all_goals first | rfl | (simp only [evOp]; simp only [hx]; done) | (simp only [evOp]; rw [hx]; done) | skip

/-! ### Classes -/

def Sum.isRd : Sum → Bool
  | .rd _ _ | .ext _ _ => true
  | .alt _ a b => a.isRd && b.isRd
  | _ => false

def Sum.isMk : Sum → Bool
  | .mk _ _ => true
  | .alt _ a b => (a.isMk || a.isRd) && (b.isMk || b.isRd)
  | _ => false

variable (F)

/-- The heap stands, if it has as many blocks as before. -/
def quietOp : Op → Bool
  | .move _ | .assign _ | .pick _ _ _ | .binOp _ _ _ _ _ | .unOp _ _ _ | .convert _ _ _ | .fieldAddr _ _ _ | .field _ _ _ | .extract _ _ | .nilCheck _ | .makeFunc _ _ _ => true
  | .load _ _ | .indexAddr _ _ _ | .index _ _ _ | .slice _ _ _ _ none => true
  | .call c => match c.callee with
    | .builtin .len | .builtin .max | .builtin .min | .builtin .complex | .builtin .real | .builtin .imag => true
    | .value (.func f) => match F f with
      | some s => s.isRd
      | none => false
    | _ => false
  | _ => false

/-- The heap is not looked at. -/
def regOp : Op → Bool
  | .move _ | .assign _ | .pick _ _ _ | .binOp _ _ _ _ _ | .unOp _ _ _ | .convert _ _ _ | .fieldAddr _ _ _ | .field _ _ _ | .extract _ _ | .nilCheck _ | .makeFunc _ _ _ | .index _ _ _ => true
  | .call c => match c.callee with
    | .builtin .max | .builtin .min | .builtin .complex | .builtin .real | .builtin .imag => true
    | _ => false
  | _ => false

/-- Only how long rows are matters. -/
def lenOp : Op → Bool
  | .indexAddr _ _ _ | .slice _ _ _ _ none => true
  | _ => false

/-- Blocks are only added. -/
def extOp : Op → Bool
  | .alloc _ => true
  | .call c => match c.callee with
    | .value (.func f) => match F f with
      | some s => s.isMk
      | none => false
    | _ => false
  | _ => false

variable {F}

theorem typed_len {ty : TypeId} {v : AV} {out : Out} {G : AV → List Blk → Option Out} (he : typed T ty v h G = some out) : G v h = some out ∨ ∃ b v', G v' (h ++ [b]) = some out := by
  unfold typed at he
  split at he
  · split at he
    · rename_i e σ _ _ _ _
      cases hz : Nat.blt 0 σ.size with
      | false => rw [hz] at he; cases he
      | true => rw [hz] at he; exact .inr ⟨_, _, he⟩
    · cases he
  · exact .inl he

theorem typedL_len {vs : List AV} : ∀ {tys : List TypeId} {h : List Blk} {out : Out} {G : List AV → List Blk → Option Out}, typedL T tys vs h G = some out → ∃ r vs', G vs' (h ++ r) = some out ∧ (r = [] → vs' = vs) := by
  induction vs with
  | nil => intro tys h out G he; exact ⟨[], [], by simpa [typedL] using he, fun _ => rfl⟩
  | cons v r ih =>
    intro tys h out G he
    simp only [typedL] at he
    rcases typed_len he with he | ⟨b, v', he⟩
    · obtain ⟨s, vs', h1, h2⟩ := ih he
      exact ⟨s, _, h1, fun q => by rw [h2 q]⟩
    · obtain ⟨s, vs', h1, h2⟩ := ih he
      exact ⟨b :: s, _, by simpa using h1, fun q => by cases q⟩

/-- Cells of data, and their blocks: blocks are added. -/
theorem avs_ext (τ : Ty) : ∀ (x : τ.den) (h : List Blk), ∃ r, (τ.avs x h).2 = h ++ r := by
  induction τ with
  | pair a b iha ihb =>
    intro x h
    obtain ⟨r, h1⟩ := iha x.1 h
    obtain ⟨s, h2⟩ := ihb x.2 (a.avs x.1 h).2
    exact ⟨r ++ s, by simp only [Ty.avs]; rw [h2, h1, List.append_assoc]⟩
  | slice σ _ => intro x h; exact ⟨_, rfl⟩
  | _ => intro x h; exact ⟨[], by simp [Ty.avs]⟩

theorem len_app {α : Type} {a r : List α} (h : (a ++ r).length = a.length) : r = [] := by
  simpa using h

theorem pr_some {v v' : AV} {h h' : List Blk} (he : pr v h = some (v', h')) : v' = v ∧ h' = h := by
  cases he; exact ⟨rfl, rfl⟩

theorem bind_inv {α β : Type} {x : Option α} {g : α → Option β} {o : β} (he : x.bind g = some o) : ∃ a, x = some a ∧ g a = some o := by
  cases x with
  | none => cases he
  | some a => exact ⟨a, rfl, he⟩

theorem cond_inv {β : Type} {c : Bool} {x : Option β} {o : β} (he : (bif c then x else none) = some o) : c = true ∧ x = some o := by
  cases c with
  | false => cases he
  | true => exact ⟨rfl, he⟩

theorem bind_elim {α β : Type} {x : Option α} {g : α → Option β} {o : β} {p : Prop} (he : x.bind g = some o) (k : ∀ a, x = some a → g a = some o → p) : p := by
  obtain ⟨a, h1, h2⟩ := bind_inv he
  exact k a h1 h2

theorem cond_elim {β : Type} {c : Bool} {x : Option β} {o : β} {p : Prop} (he : (bif c then x else none) = some o) (k : c = true → x = some o → p) : p :=
  k (cond_inv he).1 (cond_inv he).2

theorem evLoad_quiet {ty : TypeId} {a v : AV} {h' : List Blk} (he : evLoad T ty a h pr = some (v, h')) : ∃ r, h' = h ++ r := by
  unfold evLoad at he
  repeat' first
    | split at he
    | (refine bind_elim he (fun _ _ q => ?_); clear he; have he := q; clear q)
    | (refine cond_elim he (fun _ q => ?_); clear he; have he := q; clear q)
    | (cases he; done)
    | (cases he; exact avs_ext _ _ _)
    | (cases he; exact ⟨[], by simp⟩)

theorem bounds_some {lo hi : Option AV} {n : Nat} {f : Nat → Nat → AV} {v : AV} {h' : List Blk} (he : (bounds lo hi n fun l u => pr (f l u) h) = some (v, h')) : h' = h ∧ ∀ h2, (bounds lo hi n fun l u => pr (f l u) h2) = some (v, h2) := by
  unfold bounds at he ⊢
  repeat' first
    | split at he
    | (refine bind_elim he (fun _ _ q => ?_); clear he; have he := q; clear q)
    | (cases he; done)
    | (cases he; exact ⟨rfl, fun _ => by simp [pr, *]⟩)

/-- What looks at rows' lengths alone sees the same where more blocks are there. -/
theorem nth_app {h r : List Blk} {i : Nat} {b : Blk} (he : nth h i = some b) : nth (h ++ r) i = some b := by
  rw [nth_eq] at he ⊢
  rw [List.getElem?_append_left (get_lt he)]; exact he

theorem evSlice_len {ty : TypeId} {x v : AV} {lo hi : Option AV} {h' : List Blk} (he : evSlice T ty x lo hi h pr = some (v, h')) : h' = h ∧ ∀ r, evSlice T ty x lo hi (h ++ r) pr = some (v, h ++ r) := by
  unfold evSlice at he ⊢
  split at he
  · obtain ⟨h1, h2⟩ := bounds_some (f := fun l u => .str _) he
    exact ⟨h1, fun r => h2 (h ++ r)⟩
  · rename_i ht
    split at he
    · rename_i hb hei
      obtain ⟨hc, he⟩ := cond_inv he
      obtain ⟨h1, h2⟩ := bounds_some (f := fun l u => .sub _ _ _ _) he
      refine ⟨h1, fun r => ?_⟩
      rw [nth_app hb, hei]
      simp only [hc, cond_true]
      exact h2 _
    · cases he
  · split at he
    · rename_i hei
      obtain ⟨hc, he⟩ := cond_inv he
      obtain ⟨h1, h2⟩ := bounds_some (f := fun l u => .sub _ _ _ _) he
      refine ⟨h1, fun r => ?_⟩
      simp only [hc, cond_true]
      exact h2 _
    · cases he
  · cases he

theorem evIndexAddr_len {size : Nat} {x i v : AV} {h' : List Blk} (he : evIndexAddr size x i h pr = some (v, h')) : h' = h ∧ ∀ r, evIndexAddr size x i (h ++ r) pr = some (v, h ++ r) := by
  unfold evIndexAddr at he ⊢
  split at he
  · split at he
    · rename_i hb
      obtain ⟨hc, he⟩ := cond_inv he
      obtain ⟨j, hj, he⟩ := bind_inv he
      cases he
      refine ⟨rfl, fun r => ?_⟩
      simp only [nth_app hb, hc, cond_true, hj, Option.bind_some, pr]
    · cases he
  · obtain ⟨hc, he⟩ := cond_inv he
    obtain ⟨j, hj, he⟩ := bind_inv he
    cases he
    refine ⟨rfl, fun r => ?_⟩
    simp only [hc, cond_true, hj, Option.bind_some, pr]
  · cases he

theorem typed_quiet {ty : TypeId} {v v' : AV} {h' : List Blk} (he : typed T ty v h pr = some (v', h')) : ∃ r, h' = h ++ r := by
  rcases typed_len he with he | ⟨b, _, he⟩
  · cases he; exact ⟨[], by simp⟩
  · cases he; exact ⟨[b], rfl⟩

theorem typed_reg {ty : TypeId} {v v' : AV} (he : typed T ty v h pr = some (v', h)) (h2 : List Blk) : typed T ty v h2 pr = some (v', h2) := by
  unfold typed at he ⊢
  repeat' first
    | split at he
    | (refine cond_elim he (fun _ q => ?_); clear he; have he := q; clear q)
    | (cases he; done)
    | (cases he; rfl)
  have := congrArg (fun r => r.map (fun r => r.2.length)) he
  simp [pr] at this

theorem bind_reg {α : Type} {x : Option α} {f : α → AV} {v : AV} {h h' : List Blk} (he : (x.bind fun a => pr (f a) h) = some (v, h')) (h2 : List Blk) : (x.bind fun a => pr (f a) h2) = some (v, h2) := by
  obtain ⟨a, h1, h3⟩ := bind_inv he
  cases h3
  rw [h1]; rfl

theorem binAV_reg {op : BinOp} {ty : TypeId} {x y v : AV} {h' : List Blk} (he : (binAV T op ty x y fun r => pr r h) = some (v, h')) : h' = h ∧ ∀ h2, (binAV T op ty x y fun r => pr r h2) = some (v, h2) := by
  have key : ∀ h2, (binAV T op ty x y fun r => pr r h2) = (binAV T op ty x y fun r => pr r h).map fun r => (r.1, h2) := by
    intro h2
    unfold binAV
    have bnd : ∀ {α : Type} (o : Option α) (f : α → AV), (o.bind fun a => pr (f a) h2) = (o.bind fun a => pr (f a) h).map fun r => (r.1, h2) := by
      intro α o f; cases o <;> rfl
    split
    · split
      · exact bnd _ _
      · exact bnd _ _
      · split
        · unfold intBin; split <;> first | rfl | exact bnd _ _
        · rfl
    · split
      · unfold fltBin; split <;> rfl
      · rfl
    · unfold strBin; split <;> first | rfl | exact bnd _ _
    · split
      · unfold cpxBin; split <;> rfl
      · rfl
    · cases isBoolT T ty with
      | false => rfl
      | true => simp only [cond_true]; split <;> rfl
    · rfl
  have same := key h
  rw [he] at same
  simp only [Option.map_some, Option.some.injEq, Prod.mk.injEq, true_and] at same
  refine ⟨same, fun h2 => ?_⟩
  rw [key h2, he]; rfl

theorem unAV_reg {op : UnOp} {x v : AV} {h' : List Blk} (he : (unAV op x fun r => pr r h) = some (v, h')) : h' = h ∧ ∀ h2, (unAV op x fun r => pr r h2) = some (v, h2) := by
  unfold unAV at he ⊢
  split at he <;> first | (cases he; done) | (cases he; exact ⟨rfl, fun _ => rfl⟩)

theorem evConvert_reg {a b : TypeId} {x v : AV} {h' : List Blk} (he : evConvert T a b x h pr = some (v, h')) : h' = h ∧ ∀ h2, evConvert T a b x h2 pr = some (v, h2) := by
  unfold evConvert at he ⊢
  split at he <;> first
    | (cases he; done)
    | (cases he; exact ⟨rfl, fun _ => rfl⟩)
    | (obtain ⟨_, _, q⟩ := bind_inv he; cases q; exact ⟨rfl, fun h2 => bind_reg he h2⟩)

theorem evBuiltin_quiet {b : Builtin} {tys : List TypeId} {vs : List AV} {v : AV} {h' : List Blk} (hb : b = .len ∨ b = .max ∨ b = .min ∨ b = .complex ∨ b = .real ∨ b = .imag) (he : evBuiltin T b tys vs h pr = some (v, h')) :
    h' = h ∧ (b ≠ .len → ∀ h2, evBuiltin T b tys vs h2 pr = some (v, h2)) := by
  unfold evBuiltin at he ⊢
  rcases hb with rfl | rfl | rfl | rfl | rfl | rfl <;> simp only at he ⊢ <;> repeat' first
    | split at he
    | (cases he; done)
    | (cases he; exact ⟨rfl, fun q => absurd rfl q⟩)
    | (cases he; refine ⟨rfl, fun _ h2 => ?_⟩; simp_all [pr]; done)

end
end Go.Ev

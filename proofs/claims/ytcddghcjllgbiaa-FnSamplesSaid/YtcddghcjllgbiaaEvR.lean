/-
  Regions whose order is drawn: operations that may change places.
-/
import Derived.Test.YtcddghcjllgbiaaEvQ
import Derived.Orders
namespace Go.Ev
open Go.RowKit
set_option linter.unusedSimpArgs false

section
variable {T : Types} {F : FuncId → Option Sum} {h : List Blk} {t : List AV} {K : AV → List Blk → Option Out}

def pr (v : AV) (h : List Blk) : Option Out := some (v, h)
def un (K : AV → List Blk → Option Out) (r : Out) : Option Out := K r.1 r.2

theorem typed_nat (ty : TypeId) (v : AV) : typed T ty v h K = (typed T ty v h pr).bind (un K) := by
  unfold typed
  repeat' split
  all_goals first | rfl | skip
  rename_i σ _ _ _ _
  cases Nat.blt 0 σ.size <;> rfl

theorem bind_nat {α : Type} (x : Option α) (g g' : α → Option Out) (hg : ∀ a, g a = (g' a).bind (un K)) : x.bind g = (x.bind g').bind (un K) := by
  cases x with
  | none => rfl
  | some a => exact hg a

theorem cond_nat (c : Bool) (a a' : Option Out) (hg : a = a'.bind (un K)) : cond c a none = (cond c a' none).bind (un K) := by
  cases c with
  | false => rfl
  | true => exact hg

theorem bounds_nat (lo hi : Option AV) (n : Nat) (f : Nat → Nat → AV) : (bounds lo hi n fun l u => K (f l u) h) = (bounds lo hi n fun l u => pr (f l u) h).bind (un K) := by
  unfold bounds
  repeat' first | rfl | (refine bind_nat _ _ _ (fun _ => ?_)) | split

theorem evLoad_nat (ty : TypeId) (a : AV) : evLoad T ty a h K = (evLoad T ty a h pr).bind (un K) := by
  unfold evLoad
  repeat' first | rfl | (refine bind_nat _ _ _ (fun _ => ?_)) | refine cond_nat _ _ _ ?_ | split

theorem evStore_nat (ty : TypeId) (a v : AV) : evStore T ty a v h K = (evStore T ty a v h pr).bind (un K) := by
  unfold evStore
  repeat' first | rfl | (refine bind_nat _ _ _ (fun _ => ?_)) | refine cond_nat _ _ _ ?_ | split

theorem evConvert_nat (a b : TypeId) (x : AV) : evConvert T a b x h K = (evConvert T a b x h pr).bind (un K) := by
  unfold evConvert
  repeat' first | rfl | (refine bind_nat _ _ _ (fun _ => ?_)) | refine cond_nat _ _ _ ?_ | split

theorem evSlice_nat (ty : TypeId) (x : AV) (lo hi : Option AV) : evSlice T ty x lo hi h K = (evSlice T ty x lo hi h pr).bind (un K) := by
  unfold evSlice
  repeat' first | rfl | exact bounds_nat _ _ _ (fun l u => .str _) | exact bounds_nat _ _ _ (fun l u => .sub _ _ _ _) | refine cond_nat _ _ _ ?_ | split

theorem evIndexAddr_nat (size : Nat) (x i : AV) : evIndexAddr size x i h K = (evIndexAddr size x i h pr).bind (un K) := by
  unfold evIndexAddr
  repeat' first | rfl | (refine bind_nat _ _ _ (fun _ => ?_)) | refine cond_nat _ _ _ ?_ | split

theorem evAppend_nat (ty : TypeId) (id : Nat) (x : AV) : evAppend T ty id x h K = (evAppend T ty id x h pr).bind (un K) := by
  unfold evAppend
  repeat' first | rfl | (refine bind_nat _ _ _ (fun _ => ?_)) | refine cond_nat _ _ _ ?_ | split

theorem evAppendNew_nat (ty : TypeId) (x : AV) : evAppendNew T ty x h K = (evAppendNew T ty x h pr).bind (un K) := by
  unfold evAppendNew
  repeat' first | rfl | (refine bind_nat _ _ _ (fun _ => ?_)) | refine cond_nat _ _ _ ?_ | split
  rename_i ys _ _ _
  cases List.isEmpty ys with
  | true => rfl
  | false => exact bind_nat _ _ _ (fun _ => rfl)

theorem evSlice3_nat (ty : TypeId) (x : AV) : evSlice3 T ty x h K = (evSlice3 T ty x h pr).bind (un K) := by
  unfold evSlice3
  repeat' first | rfl | split

theorem evCopy_nat (id lo n size : Nat) (x : AV) : evCopy id lo n size x h K = (evCopy id lo n size x h pr).bind (un K) := by
  unfold evCopy
  repeat' first | rfl | refine cond_nat _ _ _ ?_ | split

theorem evClear_nat (ty : TypeId) (id lo n size : Nat) : evClear T ty id lo n size h K = (evClear T ty id lo n size h pr).bind (un K) := by
  unfold evClear
  repeat' first | rfl | refine cond_nat _ _ _ ?_ | split

theorem evBuiltin_nat (b : Builtin) (tys : List TypeId) (vs : List AV) : evBuiltin T b tys vs h K = (evBuiltin T b tys vs h pr).bind (un K) := by
  unfold evBuiltin
  repeat' first | rfl | exact evAppend_nat .. | exact evAppendNew_nat .. | exact evCopy_nat .. | exact evClear_nat .. | refine cond_nat _ _ _ ?_ | split

theorem typedL_nat (tys : List TypeId) (vs : List AV) (G : List AV → List Blk → Option Out) : typedL T tys vs h G = (typedL T tys vs h fun vs h => some (.tup vs, h)).bind (fun r => match r.1 with | .tup vs => G vs r.2 | _ => none) := by
  induction vs generalizing tys h G with
  | nil => rfl
  | cons v r ih =>
    unfold typedL
    rw [typed_nat (K := fun v' h1 => typedL T tys.tail r h1 fun r' h2 => G (v' :: r') h2), typed_nat (K := fun v' h1 => typedL T tys.tail r h1 fun r' h2 => some (AV.tup (v' :: r'), h2)), Option.bind_assoc]
    congr 1
    funext x
    simp only [un]
    rw [ih, ih (G := fun r' h2 => some (AV.tup (x.1 :: r'), h2)), Option.bind_assoc]
    congr 1
    funext y
    obtain ⟨y1, y2⟩ := y
    cases y1 <;> rfl

theorem call_nat (s : Sum) (vs : List AV) : s.call vs h K = (s.call vs h pr).bind (un K) := by
  induction s with
  | alt c a b iha ihb =>
    simp only [Sum.call]
    split
    · rename_i ids _
      cases c (renL (indexOf ids) vs) (pickBlks h (indexOf ids) ids) with
      | true => exact iha
      | false => exact ihb
    · rfl
  | _ => simp only [Sum.call] <;> repeat' first | rfl | (refine bind_nat _ _ _ (fun _ => ?_)) | split

theorem intBin_nat (op : BinOp) (k : IntKind) (x y : Int) : (intBin op k x y fun r => K r h) = (intBin op k x y fun r => pr r h).bind (un K) := by
  unfold intBin
  cases op <;> first | rfl | (cases nonzero y <;> rfl)

theorem strBin_nat (op : BinOp) (x y : ByteArray) : (strBin op x y fun r => K r h) = (strBin op x y fun r => pr r h).bind (un K) := by
  unfold strBin
  cases op <;> first | rfl | (cases room (x.size + y.size) 0 <;> rfl)

theorem binAV_nat (op : BinOp) (ty : TypeId) (x y : AV) : (binAV T op ty x y fun r => K r h) = (binAV T op ty x y fun r => pr r h).bind (un K) := by
  unfold binAV
  split
  · split
    · exact bind_nat _ _ _ (fun _ => rfl)
    · exact bind_nat _ _ _ (fun _ => rfl)
    · split
      · exact intBin_nat ..
      · rfl
  · split
    · unfold fltBin; cases op <;> rfl
    · rfl
  · exact strBin_nat ..
  · split
    · unfold cpxBin; cases op <;> rfl
    · rfl
  · cases isBoolT T ty with
    | false => rfl
    | true => cases op <;> rfl
  · rfl

theorem unAV_nat (op : UnOp) (x : AV) : (unAV op x fun r => K r h) = (unAV op x fun r => pr r h).bind (un K) := by
  unfold unAV
  split <;> rfl

theorem evOp_nat (op : Op) (ty : TypeId) : evOp T F op ty t h K = (evOp T F op ty t h pr).bind (un K) := by
  unfold evOp
  cases op
  case box e x =>
    simp only
    split
    · rename_i ti v _ _
      rw [typed_nat, typed_nat (K := fun v h => bif okVal v && (cellsOf v).length == ti.size then pr (AV.ptr h.length 0) (h ++ [Blk.cells e (cellsOf v)]) else none), Option.bind_assoc]
      congr 1
      funext r
      exact cond_nat _ _ _ rfl
    · rfl
  case store tt a x =>
    simp only
    split
    · rename_i p v _ _
      rw [typed_nat, typed_nat (K := fun v h => evStore T tt p v h pr), Option.bind_assoc]
      congr 1
      funext r
      exact evStore_nat ..
    · rfl
  case call c =>
    simp only
    split
    · rfl
    · rename_i vs _
      conv => lhs; rw [typedL_nat]
      conv => rhs; rw [typedL_nat, Option.bind_assoc]
      congr 1
      funext r
      obtain ⟨r1, r2⟩ := r
      cases r1 with
      | tup vs =>
        simp only
        repeat' first | rfl | exact evBuiltin_nat .. | exact call_nat .. | split
      | _ => rfl
  case pick c a b =>
    simp only
    split
    · rename_i q _ _ _ _ _; cases q <;> rfl
    · rfl
  case slice tt x lo hi mx => cases mx with
    | some m => simp only; refine cond_nat _ _ _ ?_; split <;> first | rfl | exact evSlice3_nat ..
    | none => simp only; split <;> first | rfl | exact evSlice_nat ..
  case makeFunc f a b => cases f <;> simp only <;> first | rfl | (split <;> rfl)
  all_goals
    try dsimp only
    repeat' first
      | rfl | exact typed_nat .. | exact evLoad_nat .. | exact binAV_nat .. | exact unAV_nat .. | exact evConvert_nat .. | exact evIndexAddr_nat ..
      | (refine bind_nat _ _ _ (fun _ => ?_)) | refine cond_nat _ _ _ ?_ | split

end
end Go.Ev

/-
  Operators and conversions.
-/
import Derived.Test.YtcddghcjllgbiaaEvG
namespace Go.Ev
open Go.RowKit

section
variable {P : Program} {T : Types} {w : World} {ι : List Value} {out : Out}

theorem isBoolT_ok (hT : TOk P T) {ty : TypeId} (h : isBoolT T ty = true) : P.underlying ty = some .bool := by
  unfold isBoolT at h
  split at h
  · rename_i hti
    obtain ⟨i, d, z, _, hd, _, _, h3, _⟩ := (hT.facts hti).ex
    cases d <;> simp [descOk] at h3
    exact hd
  · cases h

theorem eqg_int (op : BinOp) (t : TypeId) (ox oy : Operand) (k k' : IntKind) (a b : Int) : (eqGuard op t ox oy (.int k a) (.int k' b)).run P w = .ok () w := by cases op <;> rfl
theorem eqg_flt (op : BinOp) (t : TypeId) (ox oy : Operand) (k k' : FloatKind) (a b : Nat) : (eqGuard op t ox oy (.float k a) (.float k' b)).run P w = .ok () w := by cases op <;> rfl
theorem eqg_str (op : BinOp) (t : TypeId) (ox oy : Operand) (a b : ByteArray) : (eqGuard op t ox oy (.string a) (.string b)).run P w = .ok () w := by cases op <;> rfl
theorem eqg_cpx (op : BinOp) (t : TypeId) (ox oy : Operand) (k k' : FloatKind) (a b c d : Nat) : (eqGuard op t ox oy (.complex k a b) (.complex k' c d)).run P w = .ok () w := by cases op <;> rfl
theorem eqg_bool (op : BinOp) (t : TypeId) (ox oy : Operand) (a b : Bool) : (eqGuard op t ox oy (.bool a) (.bool b)).run P w = .ok () w := by cases op <;> rfl

theorem intBin_sound {op : BinOp} {k : IntKind} {x y : Int} {K : AV → Option Out} (t : TypeId) (h : intBin op k x y K = some out) :
    ∃ r z w', (binOp op t (.int k x) (.int k y)).run P w = .ok z w' ∧ WS w w' ∧ AVR ι r z ∧ K r = some out := by
  have I : ∀ n : Int, (binOp op t (.int k x) (.int k y)).run P w = .ok (.int k n) w → K (.int k n) = some out →
      ∃ r z w', (binOp op t (.int k x) (.int k y)).run P w = .ok z w' ∧ WS w w' ∧ AVR ι r z ∧ K r = some out :=
    fun n h1 h2 => ⟨_, _, w, h1, WS.refl w, .int _ _, h2⟩
  have B : ∀ b : Bool, (binOp op t (.int k x) (.int k y)).run P w = .ok (.bool b) w → K (.bool b) = some out →
      ∃ r z w', (binOp op t (.int k x) (.int k y)).run P w = .ok z w' ∧ WS w w' ∧ AVR ι r z ∧ K r = some out :=
    fun n h1 h2 => ⟨_, _, w, h1, WS.refl w, .bool _, h2⟩
  cases op <;> simp only [intBin] at h <;> first | (cases h; done) | skip
  case quo =>
    unfold nonzero at h
    split at h
    · cases h
    · rename_i hy; exact I _ (by simp [binOp, Op.intDiv, hy]) h
  case rem =>
    unfold nonzero at h
    split at h
    · cases h
    · rename_i hy; exact I _ (by simp [binOp, Op.intDiv, hy]) h
  case add => exact I _ (by simp [binOp, Op.intArith]) h
  case sub => exact I _ (by simp [binOp, Op.intArith]) h
  case mul => exact I _ (by simp [binOp, Op.intArith]) h
  case and => exact I _ (by rw [show binOp .and t (.int k x) (.int k y) = Op.intBits .and k x y from by simp [binOp]]; rfl) h
  case or => exact I _ (by rw [show binOp .or t (.int k x) (.int k y) = Op.intBits .or k x y from by simp [binOp]]; rfl) h
  case xor => exact I _ (by rw [show binOp .xor t (.int k x) (.int k y) = Op.intBits .xor k x y from by simp [binOp]]; rfl) h
  case andNot => exact I _ (by rw [show binOp .andNot t (.int k x) (.int k y) = Op.intBits .andNot k x y from by simp [binOp]]; rfl) h
  all_goals exact B _ (by simp [binOp, Op.intCmp]) h

theorem strBin_sound {op : BinOp} {x y : ByteArray} {K : AV → Option Out} (t : TypeId) (h : strBin op x y K = some out) :
    ∃ r z w', (binOp op t (.string x) (.string y)).run P w = .ok z w' ∧ WS w w' ∧ AVR ι r z ∧ K r = some out := by
  have B : ∀ b : Bool, (binOp op t (.string x) (.string y)).run P w = .ok (.bool b) w → K (.bool b) = some out →
      ∃ r z w', (binOp op t (.string x) (.string y)).run P w = .ok z w' ∧ WS w w' ∧ AVR ι r z ∧ K r = some out :=
    fun n h1 h2 => ⟨_, _, w, h1, WS.refl w, .bool _, h2⟩
  cases op <;> simp only [strBin] at h <;> first | (cases h; done) | skip
  case add =>
    unfold room at h
    split at h
    · rename_i hr
      refine ⟨_, .string (x ++ y), w, ?_, WS.refl w, .str _, h⟩
      have : ¬ (((x.size + y.size : Nat) : Int) > IntKind.i64.max) := by
        have := hr.2
        have e : IntKind.i64.max = 9223372036854775807 := rfl
        rw [e]; omega
      simp only [binOp, Op.stringOp]
      rw [if_neg this]; rfl
    · cases h
  all_goals exact B _ (by simp [binOp, Op.stringOp]) h

theorem cpxBin_sound {op : BinOp} {k : FloatKind} {a b c d : Nat} {K : AV → Option Out} (t : TypeId) (h : cpxBin op k (can k a) (can k b) (can k c) (can k d) K = some out) :
    ∃ r z w', (binOp op t (.complex k a b) (.complex k c d)).run P w = .ok z w' ∧ WS w w' ∧ AVR ι r z ∧ K r = some out := by
  have A : ∀ op, (op = .add ∨ op = .sub) → K (.cpx k (orNaN k (arith op k (can k a) (can k c))) (orNaN k (arith op k (can k b) (can k d)))) = some out →
      ∃ r z w', (binOp op t (.complex k a b) (.complex k c d)).run P w = .ok z w' ∧ WS w w' ∧ AVR ι r z ∧ K r = some out := by
    intro op hop hK
    obtain ⟨r1, w1, h1, h2, h3⟩ := run_arith (P := P) (w := w) op (by rcases hop with rfl | rfl <;> simp) k a c
    obtain ⟨r2, w2, g1, g2, g3⟩ := run_arith (P := P) (w := w1) op (by rcases hop with rfl | rfl <;> simp) k b d
    refine ⟨.cpx k (can k r1) (can k r2), .complex k r1 r2, w2, ?_, h2.trans g2, .cpx _ _ _, by rw [h3, g3]; exact hK⟩
    rcases hop with rfl | rfl <;> simp [binOp, Op.complexOp, Op.Complex.arith, Sem.run_bind, h1, g1]
  cases op <;> simp only [cpxBin, feq, order_can] at h <;> first | (cases h; done) | skip
  · exact A .add (by simp) h
  · exact A .sub (by simp) h
  · exact ⟨_, .bool _, w, by simp [binOp, Op.complexOp, Op.Complex.cmp, Op.floatCmp, asBool], WS.refl w, .bool _, h⟩
  · exact ⟨_, .bool _, w, by simp [binOp, Op.complexOp, Op.Complex.cmp, Op.floatCmp, asBool], WS.refl w, .bool _, h⟩

theorem binAV_sound (hT : TOk P T) {op : BinOp} {x y : AV} {u v : Value} {K : AV → Option Out} (t : TypeId) (hx : AVR ι x u) (hy : AVR ι y v) (h : binAV T op t x y K = some out) :
    (∃ r z w', (binOp op t u v).run P w = .ok z w' ∧ WS w w' ∧ AVR ι r z ∧ K r = some out) ∧ ∀ ox oy, (eqGuard op t ox oy u v).run P w = .ok () w := by
  unfold binAV at h
  split at h
  · cases hx; cases hy
    rename_i k a k' b
    refine ⟨?_, fun ox oy => eqg_int ..⟩
    have S : ∀ op, (op = .shl ∨ op = .shr) → ∀ n, nonneg b = some n → ∀ z : Int, ((Op.shift op k a k' b).run P w = .ok (.int k z) w) → K (.int k z) = some out →
        ∃ r z w', (binOp op t (.int k a) (.int k' b)).run P w = .ok z w' ∧ WS w w' ∧ AVR ι r z ∧ K r = some out := by
      intro op hop n _ z hz hK
      exact ⟨_, .int k z, w, by rcases hop with rfl | rfl <;> simpa [binOp] using hz, WS.refl w, .int _ _, hK⟩
    split at h
    · cases hn : nonneg b with
      | none => rw [hn] at h; cases h
      | some n =>
        rw [hn] at h
        have hb : 0 ≤ b ∧ n = b.toNat := by unfold nonneg at hn; split at hn <;> simp_all
        refine S .shl (.inl rfl) n hn _ ?_ h
        rw [hb.2]
        simp only [Op.shift]
        rw [if_neg (by omega)]; rfl
    · cases hn : nonneg b with
      | none => rw [hn] at h; cases h
      | some n =>
        rw [hn] at h
        have hb : 0 ≤ b ∧ n = b.toNat := by unfold nonneg at hn; split at hn <;> simp_all
        refine S .shr (.inr rfl) n hn _ ?_ h
        rw [hb.2]
        simp only [Op.shift]
        rw [if_neg (by omega)]; rfl
    · split at h
      · rename_i e; subst e; exact intBin_sound t h
      · cases h
  · cases hx; cases hy
    refine ⟨?_, fun ox oy => eqg_flt ..⟩
    split at h
    · rename_i e; subst e; exact fltBin_sound t h
    · cases h
  · cases hx; cases hy
    refine ⟨strBin_sound t h, fun ox oy => eqg_str ..⟩
  · cases hx; cases hy
    refine ⟨?_, fun ox oy => eqg_cpx ..⟩
    split at h
    · rename_i e; subst e; exact cpxBin_sound t h
    · cases h
  · cases hx; cases hy
    refine ⟨?_, fun ox oy => eqg_bool ..⟩
    rename_i a b
    cases hb : isBoolT T t with
    | false => rw [hb] at h; cases h
    | true =>
      rw [hb] at h
      simp only [cond_true] at h
      have hu := isBoolT_ok hT hb
      split at h
      · exact ⟨_, .bool _, w, run_eql_bool w t a b hu, WS.refl w, .bool _, h⟩
      · exact ⟨_, .bool _, w, run_neq_bool w t a b hu, WS.refl w, .bool _, h⟩
      · cases h
  · cases h

theorem neg_mod (k : FloatKind) (x : Nat) : isNaNW k (Op.negFloat k x) = isNaNW k x := by
  cases k
  · rw [isNaNW_f32, isNaNW_f32]
    have : (Op.negFloat .f32 x) % 2147483648 = x % 2147483648 := by
      show (x ^^^ 2 ^ 31) % 2 ^ 31 = x % 2 ^ 31
      rw [Nat.xor_mod_two_pow]; simp
    rw [this]
  · rw [isNaNW_f64, isNaNW_f64]
    have : (Op.negFloat .f64 x) % 9223372036854775808 = x % 9223372036854775808 := by
      show (x ^^^ 2 ^ 63) % 2 ^ 63 = x % 2 ^ 63
      rw [Nat.xor_mod_two_pow]; simp
    rw [this]

theorem fneg_can (k : FloatKind) (x : Nat) : can k (Op.negFloat k x) = fneg k (can k x) := by
  cases h : isNaNW k x
  · rw [can_of_not h, can_of_not (by rw [neg_mod]; exact h)]
    simp [fneg, h]
  · rw [can_of_nan h, can_of_nan (by rw [neg_mod]; exact h)]
    simp [fneg, isNaNW_nanW]

theorem unAV_sound {op : UnOp} {x : AV} {u : Value} {K : AV → Option Out} (hx : AVR ι x u) (h : unAV op x K = some out) :
    ∃ r z, (Op.unary op u).run P w = .ok z w ∧ AVR ι r z ∧ K r = some out := by
  unfold unAV at h
  split at h
  · cases hx; rename_i k n; exact ⟨_, .int k (k.wrap (0 - n)), rfl, .int _ _, h⟩
  · cases hx; rename_i k b; refine ⟨.flt k (can k (Op.negFloat k b)), .float k (Op.negFloat k b), rfl, .flt _ _, ?_⟩; rw [fneg_can]; exact h
  · cases hx; rename_i k a b; refine ⟨.cpx k (can k (Op.negFloat k a)) (can k (Op.negFloat k b)), .complex k (Op.negFloat k a) (Op.negFloat k b), rfl, .cpx _ _ _, ?_⟩; rw [fneg_can, fneg_can]; exact h
  · cases hx; rename_i b; exact ⟨_, .bool (!b), rfl, .bool _, h⟩
  · cases h

theorem underlying_ex (hT : TOk P T) {ty : TypeId} {ti : TI} (h : T ty = some ti) : ∃ d, P.underlying ty = some d := by
  obtain ⟨i, d, z, _, hd, _⟩ := (hT.facts h).ex; exact ⟨d, hd⟩

theorem underlying_int (hT : TOk P T) {ty : TypeId} {k : IntKind} {s b : Nat} {z : List ZC} (h : T ty = some ⟨.scalar, some (.int k), s, b, z⟩) : P.underlying ty = some (.int k) := by
  obtain ⟨i, d, z, _, hd, _, _, h3, _⟩ := (hT.facts h).ex
  cases d <;> simp [descOk] at h3
  subst h3; exact hd

theorem underlying_flt (hT : TOk P T) {ty : TypeId} {k : FloatKind} {s b : Nat} {z : List ZC} (h : T ty = some ⟨.scalar, some (.flt k), s, b, z⟩) : P.underlying ty = some (.float k) := by
  obtain ⟨i, d, z, _, hd, _, _, h3, _⟩ := (hT.facts h).ex
  cases d <;> simp [descOk] at h3
  subst h3; exact hd

theorem underlying_str (hT : TOk P T) {ty : TypeId} {s b : Nat} {z : List ZC} (h : T ty = some ⟨.scalar, some .str, s, b, z⟩) : P.underlying ty = some .string := by
  obtain ⟨i, d, z, _, hd, _, _, h3, _⟩ := (hT.facts h).ex
  cases d <;> simp [descOk] at h3
  exact hd

theorem can_write {k : FloatKind} {d : Ieee.Datum} (h : d.isNaN = false) : can k (k.encode d) = k.encode d := can_of_not (write_notNaN k d h)

theorem decode_nanW (k : FloatKind) : ∃ s t, k.decode (nanW k) = .nan s t := by
  obtain ⟨s, t, e⟩ := read_nan (isNaNW_nanW k); exact ⟨s, t, e⟩

theorem run_fconv (s d : FloatKind) (x y : Nat) (h : fconv s (can s x) d = some y) :
    ∃ r w', (Conv.floatToFloat s x d).run P w = .ok (.float d r) w' ∧ WS w w' ∧ can d r = y := by
  unfold fconv at h
  unfold Conv.floatToFloat
  split at h
  · rename_i e; subst e; cases h
    exact ⟨x, w, by rw [if_pos rfl]; rfl, WS.refl w, rfl⟩
  · rename_i ne
    rw [if_neg ne]
    cases hn : isNaNW s x with
    | true =>
      rw [can_of_nan hn] at h
      obtain ⟨a, b, e⟩ := decode_nanW s
      rw [e] at h; cases h
      obtain ⟨a', b', e'⟩ := read_nan hn
      rw [show s.decode x = .nan a' b' from e']
      refine ⟨(Question.nanConv d x).cut (w.tape w.drawn (.nanConv d x)), { w with drawn := w.drawn + 1 }, ?_, WS.drew w _, can_of_nan (cut_nanConv ..)⟩
      simp [choose, Sem.run, Question.forced]
    | false =>
      rw [can_of_not hn] at h
      cases e : s.decode x with
      | nan a b => have : isNaNW s x = true := by unfold isNaNW; rw [show s.format.read x = .nan a b from e]; rfl
                   rw [hn] at this; cases this
      | infinity n => rw [e] at h; cases h; exact ⟨_, w, rfl, WS.refl w, can_write rfl⟩
      | number n m p =>
        rw [e] at h
        simp only at h
        split at h
        · cases h
        · rename_i hi; cases h
          refine ⟨d.encode (.number n m p), w, ?_, WS.refl w, can_write rfl⟩
          simp only
          rw [if_neg hi]; rfl

theorem ftoi_can (s : FloatKind) (x : Nat) (d : IntKind) : ftoi s (can s x) d = ftoi s x d := by
  cases hn : isNaNW s x with
  | false => rw [can_of_not hn]
  | true =>
    obtain ⟨a, b, e⟩ := decode_nanW s
    obtain ⟨a', b', e'⟩ := read_nan hn
    rw [can_of_nan hn]
    unfold ftoi
    rw [e, show s.decode x = .nan a' b' from e']; rfl

theorem evConvert_sound (hT : TOk P T) {src dst : TypeId} {x : AV} {u : Value} {h : List Blk} {K : AV → List Blk → Option Out} (hx : AVR ι x u) (he : evConvert T src dst x h K = some out) :
    ∃ r z w', (convert src dst u).run P w = .ok z w' ∧ WS w w' ∧ AVR ι r z ∧ K r h = some out := by
  unfold evConvert at he
  split at he
  · rename_i hs hd; cases hx
    obtain ⟨d, hs⟩ := underlying_ex hT hs
    have hd := underlying_int hT hd
    exact ⟨_, .int _ _, w, by cases d <;> simp [convert, run_underlying hs, run_underlying hd, Conv.intToInt], WS.refl w, .int _ _, he⟩
  · rename_i hs hd; cases hx
    rename_i k _ _ _ k' n
    obtain ⟨d, hs⟩ := underlying_ex hT hs
    have hd := underlying_flt hT hd
    refine ⟨.flt k (can k (itof k n)), .float k (itof k n), w, by cases d <;> simp [convert, run_underlying hs, run_underlying hd, Conv.intToFloat, itof], WS.refl w, .flt _ _, ?_⟩
    have : can k (itof k n) = itof k n := can_write (d := .number (n < 0) n.natAbs 0) rfl
    rw [this]; exact he
  · rename_i hs hd; cases hx
    rename_i k _ _ _ s b
    obtain ⟨d, hs⟩ := underlying_ex hT hs
    have hd := underlying_int hT hd
    rw [ftoi_can] at he
    cases hf : ftoi s b k with
    | none => rw [hf] at he; cases he
    | some n =>
      rw [hf] at he
      refine ⟨.int k n, .int k n, w, ?_, WS.refl w, .int _ _, he⟩
      unfold ftoi at hf
      split at hf
      · rename_i m hm
        split at hf
        · rename_i hb; cases hf
          cases d <;> simp [convert, run_underlying hs, run_underlying hd, Conv.floatToInt, hm, hb.1, hb.2]
        · cases hf
      · cases hf
  · rename_i hs hd; cases hx
    rename_i k _ _ _ s b
    obtain ⟨d, hs⟩ := underlying_ex hT hs
    have hd := underlying_flt hT hd
    cases hf : fconv s (can s b) k with
    | none => rw [hf] at he; cases he
    | some y =>
      rw [hf] at he
      obtain ⟨r, w', h1, h2, h3⟩ := run_fconv (P := P) (w := w) s k b y hf
      refine ⟨.flt k (can k r), .float k r, w', ?_, h2, .flt _ _, by rw [h3]; exact he⟩
      cases d <;> simp [convert, run_underlying hs, run_underlying hd, h1]
  · rename_i hs hd; cases hx
    have hs := underlying_str hT hs
    have hd := underlying_str hT hd
    exact ⟨_, .string _, w, by simp [convert, run_underlying hs, run_underlying hd], WS.refl w, .str _, he⟩
  · cases he
end
end Go.Ev

/-
  Regions in the text's order, code, loops, functions.
-/
import Derived.Test.YtcddghcjllgbiaaEvP
import Derived.LoopN
import Derived.Lib.SliceRun
import Derived.WalkSpells
namespace Go.Ev
open Go.RowKit
set_option linter.unusedSimpArgs false

section
variable {P : Program} {T : Types} {F : FuncId → Option Sum} {w0 w : World} {R0 Y : Nat → Prop} {ι0 ι : List Value} {h : List Blk} {out : Out}

theorem AVRs.set_same {t : List AV} {us : List Value} (h : AVRs ι t us) {n : Nat} {v : Value} (hv : us[n]? = some v) {x : AV} (hx : AVR ι x v) : AVRs ι (setNth t n x) us := by
  rw [setNth_eq]
  have := h.set n hx
  rwa [show us.set n v = us from by
    apply List.ext_getElem?
    intro i
    by_cases e : i = n
    · subst e; rw [List.getElem?_set_self (get_lt hv), hv]
    · rw [List.getElem?_set_ne (Ne.symm e)]] at this

theorem Act.put_defers (a : Act) (d : Option Tmp) (v : Value) : (a.put d v).defers = a.defers := by cases d <;> rfl

theorem evOps_sound (hT : TOk P T) (hF : FOk P F) (ops : Array Oper) {Q : Exit → Act → World → Prop} {K : Kont} : ∀ (l : List Oper) {ι : List Value} {st : St} {a : Act} {w : World},
    Sat w0 R0 Y ι0 ι st.h w → AVRs ι st.t a.tmps.toList → a.defers = [] → evOps T F ops.toList l st K = some out →
    (∀ ι' st' a' w', Sat w0 R0 Y ι0 ι' st'.h w' → AVRs ι' st'.t a'.tmps.toList → a'.defers = [] → K .normal st' = some out → Q .normal a' w') → wpList P ops Q l a w := by
  intro l
  induction l with
  | nil => intro ι st a w s ht hd he hn; exact wpList_nil (hn ι st a w s ht hd he)
  | cons o r ih =>
    intro ι st a w s ht hd he hn
    have run : ∀ {t : List AV}, AVRs ι t a.tmps.toList → evOp T F o.op o.type t st.h (fun v h => evOps T F ops.toList r ⟨St.put t o.dst v, h⟩ K) = some out → o.wp P a w (wpList P ops Q r) Q := by
      intro t ht he
      refine evOp_sound hT hF s ht he (fun r' v h' u w' s' hv hK => ?_)
      exact ih (st := ⟨St.put t o.dst v, h'⟩) s' ((ht.ext (Ext.app _ _)).put o.dst hv) (by rw [Act.put_defers]; exact hd) hK hn
    have skip : ∀ {t : List AV}, AVRs ι t a.tmps.toList → evOps T F ops.toList r ⟨St.put t o.dst (.val undef), st.h⟩ K = some out → wpList P ops Q r (a.put o.dst undef) w := by
      intro t ht he
      exact ih (st := ⟨St.put t o.dst (.val undef), st.h⟩) s (ht.put o.dst (.val _)) (by rw [Act.put_defers]; exact hd) he hn
    unfold evOps at he
    split at he
    · rename_i hg
      split at he
      · rename_i q t x hnt
        refine wpList_plain hg (fun K' hK' => ?_)
        -- a test for nil
        have go : ∀ b, (execOp a.eval o).run P w = .ok (.value (.bool b)) w → evOps T F ops.toList r ⟨St.put st.t o.dst (.bool b), st.h⟩ K = some out → o.wp P a w K' Q := by
          intro b hr hb
          exact wp_value hr (hK' _ _ (ih (st := ⟨St.put st.t o.dst (.bool b), st.h⟩) s (ht.put o.dst (.bool b)) (by rw [Act.put_defers]; exact hd) hb hn))
        have hrun : ∀ {e : TypeId} {ad : Option Addr} {n c : Nat}, P.underlying t = some (.slice e) → a.eval x = .slice ad n c → (execOp a.eval o).run P w = .ok (.value (.bool (if ad.isNone then q else !q))) w := by
          intro e ad n c hun hu
          unfold nilTest at hnt
          split at hnt
          · rename_i t' x' _ ho
            cases hnt
            unfold execOp
            rw [ho]
            have hg2 : (eqGuard .eql t x (.const (.slice none 0 0)) (.slice ad n c) (.slice none 0 0)).run P w = .ok () w := rfl
            have hc2 : a.eval (.const (.slice none 0 0)) = .slice none 0 0 := rfl
            simp only [hu, hc2, Sem.run_bind, hg2, Result.andThen_ok]
            rw [Lib.run_eql_slice_nil w t e ad n c 0 0 hun]
            cases ad <;> rfl
          · rename_i t' x' _ ho
            cases hnt
            unfold execOp
            rw [ho]
            have hg2 : (eqGuard .neq t x (.const (.slice none 0 0)) (.slice ad n c) (.slice none 0 0)).run P w = .ok () w := rfl
            have hc2 : a.eval (.const (.slice none 0 0)) = .slice none 0 0 := rfl
            simp only [hu, hc2, Sem.run_bind, hg2, Result.andThen_ok]
            rw [run_neq_slice_nil_any w t e ad n c 0 0 hun]
            cases ad <;> rfl
          · cases hnt
        unfold evNil at he
        split at he
        · rename_i e _ _ _ _ id hti hx
          split at he
          · rename_i rw' e' τ xs hb
            rw [nth_eq] at hb
            have hv := evalR_sound ht hx
            generalize hu : a.eval x = u at hv
            have hι := hv.whole_inv
            obtain ⟨ad, c, rfl, _, _, _, hne, _⟩ := s.vec hb hι
            have hrun := hrun (underlying_slice hT hti) hu
            cases hxs : xs.isEmpty with
            | false =>
              rw [hxs] at he
              have : ad.isNone = false := by
                cases ad with
                | some _ => rfl
                | none =>
                  have hx2 : xs.length ≠ 0 := by intro e; rw [List.eq_nil_of_length_eq_zero e] at hxs; cases hxs
                  obtain ⟨_, _, e⟩ := hne hx2; cases e
              rw [this] at hrun
              exact go _ hrun he
            | true => rw [hxs] at he; cases he
          · cases he
        · rename_i e _ _ _ _ id lo n size hti hx
          have hv := evalR_sound ht hx
          generalize hu : a.eval x = u at hv
          cases hv with | sub _ _ _ _ a1 a2 m c c' hι q1 q2 q3 q4 => ?_
          have hrun := hrun (underlying_slice hT hti) hu
          cases hxs : Nat.beq n 0 with
          | false =>
            rw [hxs] at he
            have hn0 : n ≠ 0 := by intro e; subst e; cases hxs
            obtain ⟨b, o', rfl, rfl⟩ := q4 hn0
            exact go _ hrun he
          | true => rw [hxs] at he; cases he
        · cases he
      · exact wpList_plain hg (fun K' hK' => (run ht he |> Oper.wp_mono hK'))
    · rename_i j want hg
      split at he
      · rename_i d hd'
        split at he
        · rename_i b hb
          rw [nth_eq] at hb
          obtain ⟨u, hu, hr⟩ := ht.get hb
          cases hr
          rw [nth_eq, Array.getElem?_toList] at hd'
          have hy : yielded ops a.tmps j = some b := by
            rw [Array.getElem?_toList] at hu
            unfold yielded
            rw [hd', Option.bind_some, hu]
          refine wpList_step (fun K' hK' => ?_)
          simp only [Region.wanted, hg, hy]
          have hset := fun (x : AV) (hx : AVR ι x (.bool b)) => ht.set_same hu hx
          cases b <;> cases want
          · simp only [cond_false, cond_true] at he
            rw [if_pos (by rfl)]
            exact Oper.wp_mono hK' (run (hset _ (.bool _)) he)
          · simp only [cond_false, cond_true] at he
            rw [if_neg (by decide)]
            exact hK' _ _ (skip (hset _ (.bool _)) he)
          · simp only [cond_false, cond_true] at he
            rw [if_neg (by decide)]
            exact hK' _ _ (skip (hset _ (.bool _)) he)
          · simp only [cond_true] at he
            rw [if_pos (by rfl)]
            exact Oper.wp_mono hK' (run (hset _ (.bool _)) he)
        · rename_i v hb
          rw [nth_eq] at hb
          cases hnb : noBool v with
          | false => rw [hnb] at he; cases he
          | true =>
            rw [hnb] at he
            simp only [cond_true] at he
            obtain ⟨u, hu, hr⟩ := ht.get hb
            cases hr
            rw [nth_eq, Array.getElem?_toList] at hd'
            have hy : yielded ops a.tmps j = none := by
              rw [Array.getElem?_toList] at hu
              unfold yielded
              rw [hd', Option.bind_some, hu]
              cases v <;> first | rfl | (cases hnb; done)
            refine wpList_step (fun K' hK' => ?_)
            simp only [Region.wanted, hg, hy]
            rw [if_neg (by cases want <;> decide)]
            exact hK' _ _ (skip ht he)
        · cases he
      · cases he

/-! ### Code -/

def Ex.to : Ex → Exit
  | .normal => .normal
  | .exit id => .exit id
  | .ret => .ret

/-- The bodies of the outermost loops. -/
def loopsOf : Code → List Code
  | .seq a b => loopsOf a ++ loopsOf b
  | .cond _ a b => loopsOf a ++ loopsOf b
  | .block _ c => loopsOf c
  | .loop c => [c]
  | _ => []

/-- The pieces of code behind others, where ways may meet. -/
def tailsOf : Code → List Code
  | .seq a b => b :: (tailsOf a ++ tailsOf b)
  | .cond _ a b => tailsOf a ++ tailsOf b
  | .block _ c => tailsOf c
  | _ => []

/-- A summary of a piece of code is right wherever at least 'n0' blocks are there. -/
def CodeOk (P : Program) (n0 : Nat) (l : LoopS) (c : Code) : Prop :=
  ∀ (w0 : World) (R0 Y : Nat → Prop) (ι0 ι : List Value) (st : St) (K : Kont) (out : Out) (a : Act) (w : World) (Q : Exit → Act → World → Prop),
    ι0.length ≤ n0 → l st K = some out → Sat w0 R0 Y ι0 ι st.h w → AVRs ι st.t a.tmps.toList → a.defers = [] →
    (∀ e ι' st' a' w', Sat w0 R0 Y ι0 ι' st'.h w' → AVRs ι' st'.t a'.tmps.toList → a'.defers = [] → K e st' = some out → Q e.to a' w') → c.wp P Q a w

/-- A loop's summary is right wherever at least 'n0' blocks are there. -/
abbrev LoopOk (P : Program) (n0 : Nat) (l : LoopS) (b : Code) : Prop := CodeOk P n0 l (.loop b)

/-- All of a code's loops and meeting places are right. -/
structure LoopsOk (P : Program) (n0 : Nat) (L : Nat → Option LoopS) (c : Code) : Prop where
  loops : ∀ b ∈ loopsOf c, ∀ l, L (key b) = some l → LoopOk P n0 l b
  tails : ∀ b ∈ tailsOf c, ∀ l, L (cut (key b)) = some l → CodeOk P n0 l b

/-- A region that draws its order may be taken in the text's. -/
def DrawOk (P : Program) (D : List Oper → St → Kont → Option Out) : Prop :=
  ∀ (ops : Array Oper) (w0 : World) (R0 Y : Nat → Prop) (ι0 ι : List Value) (st : St) (K : Kont) (out : Out) (a : Act) (w : World) (Q : Exit → Act → World → Prop) (id : Nat),
    D ops.toList st K = some out → Sat w0 R0 Y ι0 ι st.h w → AVRs ι st.t a.tmps.toList → a.defers = [] →
    (∀ ι' st' a' w', Sat w0 R0 Y ι0 ι' st'.h w' → AVRs ι' st'.t a'.tmps.toList → a'.defers = [] → K .normal st' = some out → Q .normal a' w') → (Code.region id ops true).wp P Q a w

theorem evCode_sound (hT : TOk P T) (hF : FOk P F) {D : List Oper → St → Kont → Option Out} (hD : DrawOk P D) {L : Nat → Option LoopS} {n0 : Nat} (hn0 : ι0.length ≤ n0) : ∀ (c : Code) (_ : LoopsOk P n0 L c)
    {ι : List Value} {st : St} {K : Kont} {a : Act} {w : World} {Q : Exit → Act → World → Prop}, evCode T F D L c st K = some out → Sat w0 R0 Y ι0 ι st.h w → AVRs ι st.t a.tmps.toList → a.defers = [] →
    (∀ e ι' st' a' w', Sat w0 R0 Y ι0 ι' st'.h w' → AVRs ι' st'.t a'.tmps.toList → a'.defers = [] → K e st' = some out → Q e.to a' w') → c.wp P Q a w := by
  intro c
  induction c with
  | skip => intro _ ι st K a w Q he s ht hd hn; exact wp_skip (hn .normal ι st a w s ht hd he)
  | region id ops draw =>
    intro _ ι st K a w Q he s ht hd hn
    simp only [evCode] at he
    cases draw with
    | false => exact wp_region_list (evOps_sound hT hF ops ops.toList s ht hd he (fun ι' st' a' w' h1 h2 h3 h4 => hn .normal ι' st' a' w' h1 h2 h3 h4))
    | true => exact hD ops _ _ _ _ _ _ _ _ _ _ _ id he s ht hd (fun ι' st' a' w' h1 h2 h3 h4 => hn .normal ι' st' a' w' h1 h2 h3 h4)
  | seq x y ihx ihy =>
    intro hL ι st K a w Q he s ht hd hn
    simp only [evCode] at he
    refine wp_seq (ihx ⟨fun b hb => hL.loops b (by simp [loopsOf, hb]), fun b hb => hL.tails b (by simp [tailsOf, hb])⟩ he s ht hd (fun e ι' st' a' w' h1 h2 h3 h4 => ?_))
    cases e with
    | normal =>
      simp only at h4
      split at h4
      · rename_i l hl
        exact hL.tails y (by simp [tailsOf]) l hl _ _ _ _ _ _ _ _ _ _ _ hn0 h4 h1 h2 h3 hn
      · exact ihy ⟨fun b hb => hL.loops b (by simp [loopsOf, hb]), fun b hb => hL.tails b (by simp [tailsOf, hb])⟩ h4 h1 h2 h3 hn
    | exit id => exact hn (.exit id) ι' st' a' w' h1 h2 h3 h4
    | ret => exact hn .ret ι' st' a' w' h1 h2 h3 h4
  | cond c x y ihx ihy =>
    intro hL ι st K a w Q he s ht hd hn
    simp only [evCode] at he
    split at he
    · rename_i q hc
      have hr := evalR_sound ht hc
      generalize hec : a.eval c = u at hr
      cases hr
      cases q with
      | true => exact wp_cond_true hec (ihx ⟨fun b hb => hL.loops b (by simp [loopsOf, hb]), fun b hb => hL.tails b (by simp [tailsOf, hb])⟩ he s ht hd hn)
      | false => exact wp_cond_false hec (ihy ⟨fun b hb => hL.loops b (by simp [loopsOf, hb]), fun b hb => hL.tails b (by simp [tailsOf, hb])⟩ he s ht hd hn)
    · cases he
  | block id x ih =>
    intro hL ι st K a w Q he s ht hd hn
    simp only [evCode] at he
    refine wp_block (ih ⟨fun b hb => hL.loops b (by simpa [loopsOf] using hb), fun b hb => hL.tails b (by simpa [tailsOf] using hb)⟩ he s ht hd (fun e ι' st' a' w' h1 h2 h3 h4 => ?_))
    cases e with
    | normal => exact hn .normal ι' st' a' w' h1 h2 h3 h4
    | ret => exact hn .ret ι' st' a' w' h1 h2 h3 h4
    | exit id' =>
      simp only [Ex.to, Exit.inBlock]
      simp only at h4
      cases hq : id' == id with
      | true =>
        rw [hq] at h4
        simp only [beq_iff_eq] at hq
        rw [if_pos hq]
        exact hn .normal ι' st' a' w' h1 h2 h3 h4
      | false =>
        rw [hq] at h4
        have : id' ≠ id := by simpa using hq
        rw [if_neg this]
        exact hn (.exit id') ι' st' a' w' h1 h2 h3 h4
  | loop x ih =>
    intro hL ι st K a w Q he s ht hd hn
    simp only [evCode] at he
    split at he
    · rename_i l hl
      exact hL.loops x (by simp [loopsOf]) l hl _ _ _ _ _ _ _ _ _ _ _ hn0 he s ht hd hn
    · cases he
  | exit id => intro _ ι st K a w Q he s ht hd hn; exact wp_exit (hn (.exit id) ι st a w s ht hd he)
  | ret => intro _ ι st K a w Q he s ht hd hn; exact wp_ret (hn .ret ι st a w s ht hd he)
  | rangeFunc f ps x y _ _ => intro _ ι st K a w Q he; cases he
  | scope x _ => intro _ ι st K a w Q he; cases he
  | label l => intro _ ι st K a w Q he; cases he
  | goto l => intro _ ι st K a w Q he; cases he
  | refuse y => intro _ ι st K a w Q he; cases he

/-! ### What is no more needed -/

theorem maskFrom_sound {keep : Nat → Bool} : ∀ {t : List AV} {us : List Value} (n : Nat), AVRs ι t us → AVRs ι (maskFrom keep n t) us := by
  intro t
  induction t with
  | nil => intro us n h; cases h; exact .nil
  | cons v r ih =>
    intro us n h
    cases h with | cons _ u _ s h1 h2 => ?_
    simp only [maskFrom]
    refine .cons _ _ _ _ ?_ (ih (n + 1) h2)
    cases keep n with
    | true => exact h1
    | false => exact .any _

theorem rangeN_get (n c i : Nat) (hi : i < c) : (rangeN n c)[i]? = some (n + i) := by
  induction c generalizing n i with
  | zero => omega
  | succ c ih =>
    cases i with
    | zero => simp [rangeN]
    | succ i => simp only [rangeN, List.getElem?_cons_succ]; rw [ih (n + 1) i (by omega)]; congr 1; omega

theorem rangeN_length (n c : Nat) : (rangeN n c).length = c := by
  induction c generalizing n with
  | zero => rfl
  | succ c ih => simp [rangeN, ih]

theorem Sat.gc (s : Sat w0 R0 Y ι0 ι h w) {n0 : Nat} (hn0 : ι0.length ≤ n0) {t : List AV} (hok : gcOk n0 t h = true) {us : List Value} (ht : AVRs ι t us) :
    ∃ ι', Sat w0 R0 Y ι0 ι' (gc n0 t h).2 w ∧ AVRs ι' (gc n0 t h).1 us := by
  simp only [gcOk, Bool.and_eq_true, Nat.ble_eq] at hok
  obtain ⟨hok, hle⟩ := hok
  obtain ⟨hs, hin⟩ := okIds_sub hok
  generalize hids : staying n0 t h = ids at *
  have hb : ∀ x ∈ ids, x < ι.length := fun x hx => by rw [s.len]; exact hs.below x hx
  have hRW : ∀ k, RW (pickι ι ids) (pickBlks h (indexOf ids) ids) k → RW ι h k := by
    intro k hk
    obtain ⟨id, b, u, _, h2, h3, h4, h5⟩ := sub_RW s hs _ hk
    exact ⟨id, b, u, h2, h3, h4, h5⟩
  refine ⟨pickι ι ids, ?_, ?_⟩
  · have sc := s.callee hs
    simp only [Ev.gc, hids]
    refine ⟨sc.len, ?_, ?_, sc.ne, fun k hk => s.old k (hRW k hk), s.frame, s.size, s.os, s.tape, s.output, s.ylow⟩
    · obtain ⟨r, rfl⟩ := s.pre
      refine ⟨(pickι (ι0 ++ r) ids).drop ι0.length, ?_⟩
      have : (pickι (ι0 ++ r) ids).take ι0.length = ι0 := by
        apply List.ext_getElem?
        intro i
        by_cases hi : i < ι0.length
        · rw [List.getElem?_take_of_lt hi]
          have hg : ids[i]? = some i := by
            rw [← hids]
            unfold staying
            rw [List.getElem?_append_left (by rw [rangeN_length]; omega), rangeN_get 0 n0 i (by omega)]; simp
          rw [pickι_get hb hg, List.getElem?_append_left hi]
        · rw [List.getElem?_eq_none (by simp; omega), List.getElem?_eq_none (by omega)]
      have h2 := List.take_append_drop ι0.length (pickι (ι0 ++ r) ids)
      rw [this] at h2
      exact h2.symm
    · intro i b u h1 h2
      rw [pickBlks_get] at h1
      cases hi : ids[i]? with
      | none => rw [hi] at h1; cases h1
      | some id =>
        rw [hi] at h1
        have hm := List.mem_of_getElem? hi
        rw [pickι_get hb hi] at h2
        simp only [Option.map_some, Option.some.injEq] at h1
        cases hbl : h[id]? with
        | none => rw [hbl] at h1; subst h1; trivial
        | some b' =>
          rw [hbl] at h1; subst h1
          refine BR.ren (BR.step (s.br id b' u hbl h2) (fun k _ hk => ⟨fun q => hk (q.imp _root_.id (hRW k)), rfl⟩) (fun _ _ _ => rfl) (Ext.refl _)) ?_
          intro x hx v hv
          have hxm := hs.closed id hm b' hbl x hx
          rw [pickι_get hb (indexOf_get hxm)]; exact hv
  · simp only [Ev.gc, hids]
    exact ht.ren (fun x hx u hu => by rw [pickι_get hb (indexOf_get (hin x hx))]; exact hu)

theorem Sat.norm (s : Sat w0 R0 Y ι0 ι h w) {n0 : Nat} (hn0 : ι0.length ≤ n0) {keep : Nat → Bool} {t : List AV} (hok : normOk n0 keep ⟨t, h⟩ = true) {us : List Value} (ht : AVRs ι t us) :
    ∃ ι', Sat w0 R0 Y ι0 ι' (norm n0 keep ⟨t, h⟩).h w ∧ AVRs ι' (norm n0 keep ⟨t, h⟩).t us :=
  s.gc hn0 hok (maskFrom_sound 0 ht)

/-! ### Loops -/

/-- A summary that is what the rounds come to is right. -/
theorem LoopOk.of_rounds (hT : TOk P T) (hF : FOk P F) {D : List Oper → St → Kont → Option Out} (hD : DrawOk P D) {L : Nat → Option LoopS} {n0 : Nat} {keep : Nat → Bool} {body : Code} (hL : LoopsOk P n0 L body)
    {l : LoopS} (hl : ∀ st K out, l st K = some out → normOk n0 keep st = true ∧ ∃ n, evLoop T F D L n0 keep body n (norm n0 keep st) K = some out) : LoopOk P n0 l body := by
  intro w0 R0 Y ι0 ι st K out a w Q hn0 he s ht hd hn
  obtain ⟨hok, n, hev⟩ := hl st K out he
  obtain ⟨ι1, s1, ht1⟩ := s.norm hn0 hok ht
  refine wp_loop_rounds n ?_
  have key : ∀ n {ι : List Value} {st : St} {a : Act} {w : World}, evLoop T F D L n0 keep body n st K = some out → Sat w0 R0 Y ι0 ι st.h w → AVRs ι st.t a.tmps.toList → a.defers = [] → Code.rounds P body Q n a w := by
    intro n
    induction n with
    | zero => intro ι st a w he; cases he
    | succ n ih =>
      intro ι st a w he s ht hd
      simp only [evLoop] at he
      rw [rounds_succ]
      refine evCode_sound hT hF hD hn0 body hL he s ht hd (fun e ι' st' a' w' h1 h2 h3 h4 => ?_)
      cases hq : normOk n0 keep st' with
      | false => rw [hq] at h4; cases h4
      | true =>
        rw [hq] at h4
        simp only [cond_true] at h4
        obtain ⟨ι2, s2, ht2⟩ := h1.norm hn0 hq h2
        cases e with
        | normal => exact ih h4 s2 ht2 h3
        | exit id => exact hn (.exit id) ι2 _ a' w' s2 ht2 h3 h4
        | ret => exact hn .ret ι2 _ a' w' s2 ht2 h3 h4
  exact key n hev s1 ht1 hd

/-- The continuation behind a piece of code that is told once: its end as a state of the given shape. -/
def once (n0 : Nat) (keep : Nat → Bool) (K : Kont) (e : Ex) (st : St) : Option Out :=
  bif normOk n0 keep st then K e (norm n0 keep st) else none

/-- A summary of a piece of code. -/
theorem CodeOk.of_once (hT : TOk P T) (hF : FOk P F) {D : List Oper → St → Kont → Option Out} (hD : DrawOk P D) {L : Nat → Option LoopS} {n0 : Nat} {keep : Nat → Bool} {c : Code} (hL : LoopsOk P n0 L c)
    {l : LoopS} (hl : ∀ st K out, l st K = some out → normOk n0 keep st = true ∧ evCode T F D L c (norm n0 keep st) (once n0 keep K) = some out) : CodeOk P n0 l c := by
  intro w0 R0 Y ι0 ι st K out a w Q hn0 he s ht hd hn
  obtain ⟨hok, hev⟩ := hl st K out he
  obtain ⟨ι1, s1, ht1⟩ := s.norm hn0 hok ht
  refine evCode_sound hT hF hD hn0 c hL hev s1 ht1 hd (fun e ι' st' a' w' h1 h2 h3 h4 => ?_)
  unfold once at h4
  cases hq : normOk n0 keep st' with
  | false => rw [hq] at h4; cases h4
  | true =>
    rw [hq] at h4
    simp only [cond_true] at h4
    obtain ⟨ι2, s2, ht2⟩ := h1.norm hn0 hq h2
    exact hn e ι2 _ a' w' s2 ht2 h3 h4

/-! ### Functions -/

theorem resultOf_sound (hT : TOk P T) (s : Sat w0 R0 Y ι0 ι h w) {t : List AV} {tmps : Array Value} (ht : AVRs ι t tmps.toList) : ∀ {rs : List ResultVar} {vs : List AV}, resultOf T t h rs = some vs →
    ∃ us, (∀ (f : ResultVar → Sem Value), (∀ u, f (.tmp u) = pure (tmps.getD u undef)) → (∀ a t, f (.cell a t) = (do loadVar t (← asAddr (tmps.getD a undef)))) → (rs.mapM f).run P w = .ok us w) ∧ AVRs ι vs us := by
  intro rs
  induction rs with
  | nil => intro vs he; cases he; exact ⟨[], fun _ _ _ => by simp, .nil⟩
  | cons x r ih =>
    intro vs he
    have getD : ∀ {n : Nat} {v : AV}, nth t n = some v → ∃ u, tmps.getD n undef = u ∧ AVR ι v u := by
      intro n v hv
      rw [nth_eq] at hv
      obtain ⟨u, hu, hr⟩ := ht.get hv
      rw [Array.getElem?_toList] at hu
      exact ⟨u, by simp [Array.getD_eq_getD_getElem?, hu], hr⟩
    cases x with
    | tmp n =>
      simp only [resultOf] at he
      split at he
      · rename_i v vs' hv hvs
        cases he
        obtain ⟨u, hu, hr⟩ := getD hv
        obtain ⟨us, h1, h2⟩ := ih hvs
        refine ⟨u :: us, fun f hf hc => ?_, .cons _ _ _ _ hr h2⟩
        simp only [List.mapM_cons, hf, Sem.run_bind, Sem.run_pure, Result.andThen_ok, hu, h1 f hf hc]
      · cases he
    | cell n ty =>
      simp only [resultOf] at he
      split at he
      · rename_i ti id off vs' hti hv hvs
        obtain ⟨u, hu, hr⟩ := getD hv
        cases hr with | ptr _ _ b hι => ?_
        obtain ⟨us, h1, h2⟩ := ih hvs
        have fin : ∀ {v : AV} {u' : Value}, (loadVar ty ⟨b, off, none⟩).run P w = .ok u' w → AVR ι v u' →
            ∃ us, (∀ (f : ResultVar → Sem Value), (∀ u, f (.tmp u) = pure (tmps.getD u undef)) → (∀ a t, f (.cell a t) = (do loadVar t (← asAddr (tmps.getD a undef)))) → ((ResultVar.cell n ty :: r).mapM f).run P w = .ok us w) ∧ AVRs ι (v :: vs') us := by
          intro v u' hl hr
          refine ⟨u' :: us, fun f hf hc => ?_, .cons _ _ _ _ hr h2⟩
          simp only [List.mapM_cons, hc, Sem.run_bind, Sem.run_pure, Result.andThen_ok, hu, asAddr, hl, h1 f hf hc]
        cases hb : nth h id with
        | none => rw [hb] at he; cases he
        | some blk =>
        rw [hb] at he
        cases blk with
        | dead => cases he
        | vec _ _ _ _ => cases he
        | cells t' cs =>
        rw [nth_eq] at hb
        obtain ⟨g, arr, e1, hg, hcs⟩ := s.br _ _ _ hb hι
        simp only [Value.pointer.injEq, Option.some.injEq, Addr.mk.injEq, and_true] at e1
        subst e1
        have hlen := hcs.length
        have hcell : ∀ (j : Nat) (v : Value), arr.toList[j]? = some v → w.cell? ⟨b, j, none⟩ = some v := by
          intro j v hv; simp only [World.cell?, hg]; simpa using hv
        split at he
        · rename_i fs hd1 hd
          cases hd1
          cases hle : Nat.ble (off + ti.size) cs.length with
          | false => rw [hle] at he; cases he
          | true =>
            rw [hle] at he
            simp only [cond_true, Option.some.injEq] at he
            subst he
            have hle' : off + ti.size ≤ cs.length := by simpa [Nat.ble_eq] using hle
            obtain ⟨arr', hu', _⟩ := desc_row hT hti hd
            refine fin (run_loadVar_mid w b off ty ((arr.toList.drop off).take ti.size) (.struct arr') ?_ hu' rfl ?_) ?_
            · intro j v hv
              have hj : j < ti.size := by have := get_lt hv; simp at this; omega
              rw [List.getElem?_take_of_lt hj, List.getElem?_drop] at hv
              exact hcell _ _ hv
            · rw [info_size hT hti]; simp; simp at hlen; omega
            · simpa using AVR.agg _ _ ((hcs.drop off).take ti.size)
        · rename_i t cs' hd1 hns
          cases hd1
          split at he
          · rename_i v hv2
            cases he
            rw [nth_eq] at hv2
            obtain ⟨u2, hu2, hr⟩ := hcs.get hv2
            obtain ⟨d, hd1, hd2⟩ := desc_notRow hT hti (fun fs e => hns fs e)
            exact fin (run_loadVar_one hd1 hd2 (hcell _ _ hu2)) hr
          · cases he
        · cases he
      · cases he

theorem finish_sound (hT : TOk P T) (s : Sat w0 R0 Y ι0 ι h w) {fn : Func} {st : St} (hh : st.h = h) {n0 : Nat} (hn0 : ι0.length ≤ n0) {a : Act} (ht : AVRs ι st.t a.tmps.toList) {v : AV} {h' : List Blk} (he : finish T n0 fn.results.toList st = some (v, h')) :
    ∃ u ι', (results fn a.tmps).run P w = .ok u w ∧ Sat w0 R0 Y ι0 ι' h' w ∧ AVR ι' v u := by
  subst hh
  unfold finish at he
  split at he
  · rename_i vs hvs
    obtain ⟨us, h1, h2⟩ := resultOf_sound hT s ht hvs
    cases hok : gcOk n0 vs st.h with
    | false => rw [hok] at he; cases he
    | true =>
      rw [hok] at he
      simp only [cond_true] at he
      obtain ⟨ι', s', h3⟩ := s.gc hn0 hok h2
      have hrun : (results fn a.tmps).run P w = .ok (if us.length = 1 then us.headD undef else .tuple us.toArray) w := by
        unfold results
        have hr : fn.results = fn.results.toList.toArray := by simp
        rw [hr, List.mapM_toArray]
        simp only [Sem.run_bind, Sem.run_map]
        rw [h1 _ (fun _ => rfl) (fun _ _ => rfl)]
        rcases us with _ | ⟨x, _ | ⟨y, us⟩⟩
        · rfl
        · rfl
        · simp
      split at he
      · rename_i u0 hu0
        cases he
        rw [hu0] at h3
        cases h3 with | cons _ u _ _ h4 h5 => ?_
        cases h5
        exact ⟨u, ι', by simpa using hrun, s', h4⟩
      · rename_i hne
        cases he
        refine ⟨.tuple us.toArray, ι', ?_, s', .tup _ _ h3⟩
        rw [hrun]
        have : us.length ≠ 1 := by
          intro e
          rw [h3.length] at e
          obtain ⟨x, hx⟩ := List.length_eq_one_iff.mp e
          exact hne x hx
        rw [if_neg this]
  · cases he

/-- What the evaluator says of a function's code is so. -/
theorem evFn_sound (hT : TOk P T) (hF : FOk P F) {D : List Oper → St → Kont → Option Out} (hD : DrawOk P D) {L : Nat → Option LoopS} {f : FuncId} {fn : Func} (hf : P.funcs[f]? = some fn) {c : Code} (hc : fn.body = some c)
    {args : List AV} {h : List Blk} (hL : LoopsOk P h.length L c) {v : AV} {h' : List Blk} (he : evFn T F D L fn args h = some (v, h')) : FnOk P f args h v h' := by
  intro w Y ι us s ha
  unfold evFn at he
  rw [hc] at he
  simp only at he
  refine calls_of_wp hf hc ?_
  refine evCode_sound (st := ⟨args ++ List.replicate (fn.ntmps - args.length) .any, h⟩) hT hF hD (n0 := h.length) (Nat.le_of_eq s.len) c hL he s ?_ rfl ?_
  · simp only [Array.toList_append, Array.toList_replicate]
    rw [show us.toArray.size = args.length from by simp [ha.length]]
    exact ha.append (AVRs.anys _ _ (by simp))
  · intro e ι' st' a' w' s' h2 h3 h4
    cases e with
    | exit id => cases h4
    | normal =>
      obtain ⟨u, ι2, g1, g2, g3⟩ := finish_sound hT s' rfl (Nat.le_of_eq s.len) h2 h4
      obtain ⟨r, hr⟩ := g2.pre
      subst hr
      exact ⟨h3, u, g1, u, r, rfl, g2, g3⟩
    | ret =>
      obtain ⟨u, ι2, g1, g2, g3⟩ := finish_sound hT s' rfl (Nat.le_of_eq s.len) h2 h4
      obtain ⟨r, hr⟩ := g2.pre
      subst hr
      exact ⟨h3, u, g1, u, r, rfl, g2, g3⟩

end
end Go.Ev

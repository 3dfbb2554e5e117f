/-
  Calls by summaries; every operation.
-/
import Derived.Test.YtcddghcjllgbiaaEvN
namespace Go.Ev
open Go.RowKit

/-- What a function's summary promises, in the callee's own numbers. -/
def FnOk (P : Program) (f : FuncId) (args : List AV) (h : List Blk) (v : AV) (h' : List Blk) : Prop :=
  ∀ (w : World) (Y : Nat → Prop) (ι us : List Value), Sat w (RW ι h) Y ι ι h w → AVRs ι args us →
    Calls P f us.toArray w fun e w' => ∃ u r, e = .returned u ∧ Sat w (RW ι h) Y ι (ι ++ r) h' w' ∧ AVR (ι ++ r) v u

/-- A function with a body, which is entered. -/
def Enters (P : Program) (f : FuncId) : Prop := ∃ fn, P.funcs[f]? = some fn ∧ (fn.name == "runtime.NumGoroutine") = false ∧ fn.body.isNone = false

def SumOk (P : Program) (f : FuncId) : Sum → Prop
  | .ext S val => ∀ vs r, S vs = some r → ∀ ι us, AVRs ι vs us → ∀ w, ∃ u w', (callFunc f us.toArray).run P w = .ok (.value u) w' ∧ WS w w' ∧ AVR ι (val r) u
  | .alt _ a b => SumOk P f a ∧ SumOk P f b
  | .rd S val => Enters P f ∧ ∀ args h r, S args h = some r → FnOk P f args h (val r) h
  | .mk S val => Enters P f ∧ ∀ args h r, S args h = some r → FnOk P f args h (val r).1 (h ++ (val r).2)
  | .wr S val => Enters P f ∧ ∀ args h r, S args h = some r → FnOk P f args h (val args h r).1 (val args h r).2 ∧ h.length ≤ (val args h r).2.length

def FOk (P : Program) (F : FuncId → Option Sum) : Prop := ∀ f s, F f = some s → SumOk P f s

section
variable {P : Program} {T : Types} {F : FuncId → Option Sum} {w0 w : World} {R0 Y : Nat → Prop} {ι0 ι : List Value} {h : List Blk} {out : Out}

theorem run_callFunc {f : FuncId} (he : Enters P f) (args : Array Value) : (callFunc f args).run P w = .ok (.enter f args) w := by
  obtain ⟨fn, h1, h2, h3⟩ := he
  simp only [callFunc, Sem.run_bind, run_program, Result.andThen_ok, h1, h2, h3, Bool.false_eq_true, if_false, Sem.run_pure]

theorem putBack_same {ids : List Nat} (hs : Sub h ids) (nb : List Blk) :
    putBack (backN ids h.length) ids (pickBlks h (indexOf ids) ids ++ nb) h = h ++ renBlks (backN ids h.length) nb := by
  obtain ⟨p1, p2, p3, p4⟩ := putBack_spec (backN ids h.length) ids (pickBlks h (indexOf ids) ids ++ nb) h hs.nodup hs.below (by simp [pickBlks_length])
  apply List.ext_getElem?
  intro j
  rcases Nat.lt_or_ge j h.length with q | q
  · rw [List.getElem?_append_left q]
    by_cases hm : j ∈ ids
    · have hg := indexOf_get hm
      have hlt := get_lt hg
      rw [p2 _ _ hg, List.getElem?_append_left (by rw [pickBlks_length]; exact hlt), pickBlks_get, hg]
      simp only [Option.map_some]
      have hb : h[j]? = some h[j] := List.getElem?_eq_getElem q
      rw [hb]
      congr 1
      refine Blk.ren_ren _ (fun x hx => ?_)
      have hxm := hs.closed j hm _ hb x hx
      have hgx := indexOf_get hxm
      unfold backN
      rw [show Nat.blt (indexOf ids x) ids.length = true from by simpa [Nat.blt_eq] using get_lt hgx]
      simp [getN_get hgx]
    · exact p3 j q hm
  · obtain ⟨d, rfl⟩ := Nat.exists_eq_add_of_le q
    rw [p4, List.getElem?_append_right (by rw [pickBlks_length]; omega), pickBlks_length, List.getElem?_append_right (by omega), renBlks_eq]
    simp

theorem call_sound {f : FuncId} {sm : Sum} (hf : SumOk P f sm) (s : Sat w0 R0 Y ι0 ι h w) {vs : List AV} {us : List Value} (hv : AVRs ι vs us) {K : AV → List Blk → Option Out} (he : sm.call vs h K = some out)
    {o : Oper} {a : Act} {next : Act → World → Prop} {Q : Exit → Act → World → Prop}
    (hn : ∀ r v h' u w', Sat w0 R0 Y ι0 (ι ++ r) h' w' → AVR (ι ++ r) v u → K v h' = some out → next (a.put o.dst u) w') :
    o.upon P a next Q ((callFunc f us.toArray).run P w) := by
  -- a call with a body
  have body : Enters P f → ∀ {ids : List Nat}, reachOf vs h = some ids → ∀ {v : AV} {hc : List Blk}, ids.length ≤ hc.length →
      FnOk P f (renL (indexOf ids) vs) (pickBlks h (indexOf ids) ids) v hc → K (v.ren (backN ids h.length)) (putBack (backN ids h.length) ids hc h) = some out →
      o.upon P a next Q ((callFunc f us.toArray).run P w) := by
    intro hen ids hre v hc hge hok hK
    rw [run_callFunc hen]
    rw [Oper.upon_enter]
    unfold reachOf at hre
    simp only at hre
    cases hq : okIds h vs (closure h.length h (addNew (idsL vs) [])) with
    | false => rw [hq] at hre; cases hre
    | true =>
      rw [hq] at hre
      simp only [cond_true, Option.some.injEq] at hre
      rw [hre] at hq
      obtain ⟨hs, hin⟩ := okIds_sub hq
      have hb : ∀ x ∈ ids, x < ι.length := fun x hx => by rw [s.len]; exact hs.below x hx
      have hargs : AVRs (pickι ι ids) (renL (indexOf ids) vs) us := hv.ren (fun x hx u hu => by rw [pickι_get hb (indexOf_get (hin x hx))]; exact hu)
      refine (hok w _ _ us (s.callee hs) hargs).mono ?_
      rintro e w' ⟨u, r, rfl, sc, hr⟩
      obtain ⟨s', hback⟩ := s.back hs hge sc
      exact hn r _ _ u w' s' (hr.ren (fun x _ u hu => hback x u hu)) hK
  induction sm with
  | alt c x y ihx ihy =>
    simp only [Sum.call] at he
    split at he
    · rename_i ids _
      cases hc : c (renL (indexOf ids) vs) (pickBlks h (indexOf ids) ids) with
      | true => rw [hc] at he; exact ihx hf.1 he
      | false => rw [hc] at he; exact ihy hf.2 he
    · cases he
  | ext S val =>
    simp only [Sum.call] at he
    cases hS : S vs with
    | none => rw [hS] at he; cases he
    | some v =>
      rw [hS] at he
      obtain ⟨u, w', h1, h2, h3⟩ := hf vs v hS ι us hv w
      rw [h1]
      exact hn [] (val v) h u w' (by simpa using s.same h2.heap h2.os h2.tape h2.output) (by simpa using h3) he
  | rd S val =>
    simp only [Sum.call] at he
    split at he
    · rename_i ids hre
      cases hS : S (renL (indexOf ids) vs) (pickBlks h (indexOf ids) ids) with
      | none => rw [hS] at he; cases he
      | some v =>
        rw [hS] at he
        refine body hf.1 hre (by simp [pickBlks_length]) (hf.2 _ _ _ hS) ?_
        have hq : okIds h vs ids = true := by
          unfold reachOf at hre; simp only at hre
          cases hq : okIds h vs (closure h.length h (addNew (idsL vs) [])) with
          | false => rw [hq] at hre; cases hre
          | true => rw [hq] at hre; simp only [cond_true, Option.some.injEq] at hre; rw [hre] at hq; exact hq
        have := putBack_same (okIds_sub hq).1 []
        simp only [List.append_nil, renBlks] at this
        rw [this]; exact he
    · cases he
  | mk S val =>
    simp only [Sum.call] at he
    split at he
    · rename_i ids hre
      cases hS : S (renL (indexOf ids) vs) (pickBlks h (indexOf ids) ids) with
      | none => rw [hS] at he; cases he
      | some v =>
        rw [hS] at he
        refine body hf.1 hre (by simp [pickBlks_length]) (hf.2 _ _ _ hS) ?_
        have hq : okIds h vs ids = true := by
          unfold reachOf at hre; simp only at hre
          cases hq : okIds h vs (closure h.length h (addNew (idsL vs) [])) with
          | false => rw [hq] at hre; cases hre
          | true => rw [hq] at hre; simp only [cond_true, Option.some.injEq] at hre; rw [hre] at hq; exact hq
        rw [putBack_same (okIds_sub hq).1 (val v).2]; exact he
    · cases he
  | wr S val =>
    simp only [Sum.call] at he
    split at he
    · rename_i ids hre
      cases hS : S (renL (indexOf ids) vs) (pickBlks h (indexOf ids) ids) with
      | none => rw [hS] at he; cases he
      | some v =>
        rw [hS] at he
        obtain ⟨h1, h2⟩ := hf.2 _ _ _ hS
        rw [pickBlks_length] at h2
        exact body hf.1 hre h2 h1 he
    · cases he

theorem Did.use {m : Sem Value} {K : AV → List Blk → Option Out} (hd : Did P w0 R0 Y ι0 ι w m K out) {o : Oper} {a : Act} {next : Act → World → Prop} {Q : Exit → Act → World → Prop}
    (hx : execOp a.eval o = (do pure (Next.value (← m)))) (hn : ∀ r v h' u w', Sat w0 R0 Y ι0 (ι ++ r) h' w' → AVR (ι ++ r) v u → K v h' = some out → next (a.put o.dst u) w') : o.wp P a w next Q := by
  obtain ⟨r, v, u, w', h', h1, h2, h3, h4⟩ := hd
  refine wp_value (u := u) (w' := w') ?_ (hn r v h' u w' h2 h3 h4)
  rw [hx, Sem.run_bind, h1]; rfl

theorem typedL_sound : ∀ {vs : List AV} {tys : List TypeId} {ι : List Value} {h : List Blk} {us : List Value} {K : List AV → List Blk → Option Out}, Sat w0 R0 Y ι0 ι h w → AVRs ι vs us → typedL T tys vs h K = some out →
    ∃ r vs' h', Sat w0 R0 Y ι0 (ι ++ r) h' w ∧ AVRs (ι ++ r) vs' us ∧ K vs' h' = some out := by
  intro vs
  induction vs with
  | nil => intro tys ι h us K s hv he; cases hv; exact ⟨[], [], h, by simpa using s, .nil, he⟩
  | cons v t ih =>
    intro tys ι h us K s hv he
    cases hv with | cons _ u _ ut hu ht => ?_
    simp only [typedL] at he
    obtain ⟨r1, v', h1, s1, hv1, he1⟩ := typed_sound s hu he
    obtain ⟨r2, vs', h2, s2, hv2, he2⟩ := ih s1 (ht.ext (Ext.app _ _)) he1
    refine ⟨r1 ++ r2, v' :: vs', h2, by simpa using s2, ?_, he2⟩
    have := hv1.ext (Ext.app (ι ++ r1) r2)
    exact .cons _ _ _ _ (by simpa using this) (by simpa using hv2)

theorem evBuiltin_sound (hT : TOk P T) (s : Sat w0 R0 Y ι0 ι h w) {b : Builtin} {tys : List TypeId} {vs : List AV} {us : List Value} (hv : AVRs ι vs us) {K : AV → List Blk → Option Out} (he : evBuiltin T b tys vs h K = some out) (ty : TypeId) :
    ∃ m : Sem Value, (∀ cs, builtin b tys.toArray ty cs us.toArray = (do pure (Next.value (← m)))) ∧ Did P w0 R0 Y ι0 ι w m K out := by
  unfold evBuiltin at he
  split at he
  · split at he
    · split at he
      · rename_i v n hl
        cases hv with | cons _ u _ _ hu ht => ?_
        cases ht
        exact ⟨_, fun _ => rfl, .plain s (lenOf_sound hT s hu hl ty) (WS.refl w) (.int _ _) he⟩
      · cases he
    · cases he
  · split at he
    · rename_i ty1 ty2 id x
      cases hq : ty1 == ty2 with
      | false => rw [hq] at he; cases he
      | true =>
        rw [hq] at he
        simp only [beq_iff_eq] at hq
        subst hq
        cases hv with | cons _ u _ _ hu ht => ?_
        cases ht with | cons _ u2 _ _ hu2 ht => ?_
        cases ht
        exact ⟨_, fun _ => rfl, evAppend_sound hT s hu hu2 he ty⟩
    · rename_i ty1 ty2 x
      cases hq : ty1 == ty2 with
      | false => rw [hq] at he; cases he
      | true =>
        rw [hq] at he
        simp only [beq_iff_eq] at hq
        subst hq
        cases hv with | cons _ u _ _ hu ht => ?_
        cases ht with | cons _ u2 _ _ hu2 ht => ?_
        cases ht
        exact ⟨_, fun _ => rfl, evAppendNew_sound hT s hu hu2 he ty⟩
    · cases he
  · split at he
    · split at he
      · rename_i hti hp
        split at he
        · rename_i ei hei
          rename_i size _
          cases hq : ei.size == size with
          | false => rw [hq] at he; cases he
          | true =>
            rw [hq] at he
            simp only [beq_iff_eq] at hq
            cases hv with | cons _ u _ _ hu ht => ?_
            cases ht with | cons _ u2 _ _ hu2 ht => ?_
            cases ht
            exact ⟨_, fun _ => rfl, evCopy_sound hT s hti hei hu hu2 hp hq he ty⟩
        · cases he
      · cases he
    · cases he
  · split at he
    · split at he
      · rename_i hp
        cases hv with | cons _ u _ _ hu ht => ?_
        cases ht
        exact ⟨_, fun _ => rfl, evClear_sound hT s hu hp he ty⟩
      · cases he
    · cases he
  · split at he
    · rename_i v t
      split at he
      · rename_i r hr
        cases hv with | cons _ u _ ut hu ht => ?_
        obtain ⟨z, w', h1, h2, h3⟩ := minmax_sound (P := P) true hu ht hr w
        refine ⟨_, fun _ => rfl, .plain s (v := r) (u := z) (w' := w') ?_ h2 h3 he⟩
        simpa [Builtin.max_] using h1
      · cases he
    · cases he
  · split at he
    · rename_i v t
      split at he
      · rename_i r hr
        cases hv with | cons _ u _ ut hu ht => ?_
        obtain ⟨z, w', h1, h2, h3⟩ := minmax_sound (P := P) false hu ht hr w
        refine ⟨_, fun _ => rfl, .plain s (v := r) (u := z) (w' := w') ?_ h2 h3 he⟩
        simpa [Builtin.min_] using h1
      · cases he
    · cases he
  · split at he
    · split at he
      · rename_i e; subst e
        cases hv with | cons _ u _ _ hu ht => ?_
        cases ht with | cons _ u2 _ _ hu2 ht => ?_
        cases ht; cases hu; cases hu2
        rename_i k a b
        refine ⟨_, fun _ => rfl, .plain s (u := .complex k a b) ?_ (WS.refl w) (.cpx _ _ _) he⟩
        show (if k = k then pure (.complex k a b) else stuck _ : Sem Value).run P w = _
        rw [if_pos rfl]; rfl
      · cases he
    · cases he
  · split at he
    · cases hv with | cons _ u _ _ hu ht => ?_
      cases ht; cases hu
      exact ⟨_, fun _ => rfl, .plain s rfl (WS.refl w) (.flt _ _) he⟩
    · cases he
  · split at he
    · cases hv with | cons _ u _ _ hu ht => ?_
      cases ht; cases hu
      exact ⟨_, fun _ => rfl, .plain s rfl (WS.refl w) (.flt _ _) he⟩
    · cases he
  · cases he
end
end Go.Ev

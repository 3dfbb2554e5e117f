/-
  Every operation does in the machine what it does to the state.
-/
import Derived.Test.YtcddghcjllgbiaaEvO
namespace Go.Ev
open Go.RowKit

section
variable {P : Program} {T : Types} {F : FuncId → Option Sum} {w0 w : World} {R0 Y : Nat → Prop} {ι0 ι : List Value} {h : List Blk} {out : Out}

theorem evalO_sound {t : List AV} {a : Act} (ht : AVRs ι t a.tmps.toList) {x : Option Operand} {r : Option AV} (he : evalO t x = some r) :
    (∀ v, r = some v → ∃ u, x.map a.eval = some u ∧ AVR ι v u) ∧ (r = none → x.map a.eval = none) := by
  unfold evalO at he
  split at he
  · cases he; exact ⟨fun v h => (by cases h), fun _ => rfl⟩
  · rename_i y
    split at he
    · rename_i v hv
      cases he
      exact ⟨fun v' h' => (by cases h'; exact ⟨a.eval y, rfl, evalR_sound ht hv⟩), fun h => (by cases h)⟩
    · cases he

theorem WS.sat (s : Sat w0 R0 Y ι0 ι h w) {w' : World} (hw : WS w w') : Sat w0 R0 Y ι0 ι h w' := s.same hw.heap hw.os hw.tape hw.output

theorem evOp_sound (hT : TOk P T) (hF : FOk P F) (s : Sat w0 R0 Y ι0 ι h w) {t : List AV} {o : Oper} {a : Act} (ht : AVRs ι t a.tmps.toList) {K : AV → List Blk → Option Out} (he : evOp T F o.op o.type t h K = some out)
    {next : Act → World → Prop} {Q : Exit → Act → World → Prop}
    (hn : ∀ r v h' u w', Sat w0 R0 Y ι0 (ι ++ r) h' w' → AVR (ι ++ r) v u → K v h' = some out → next (a.put o.dst u) w') : o.wp P a w next Q := by
  -- an operation that turns no world
  have val : ∀ {m : Sem Value} {v : AV} {u : Value} {w' : World}, execOp a.eval o = (do pure (Next.value (← m))) → m.run P w = .ok u w' → WS w w' → AVR ι v u → K v h = some out → o.wp P a w next Q :=
    fun hx hr hw hv hK => (Did.plain s hr hw hv hK).use hx hn
  unfold evOp at he
  split at he
  · -- move
    rename_i x hop
    split at he
    · rename_i v hv
      obtain ⟨r, v', h', s', hv', he'⟩ := typed_sound s (evalR_sound ht hv) he
      exact wp_value (by rw [show execOp a.eval o = pure (.value (a.eval x)) from by unfold execOp; rw [hop]]; rfl) (hn r v' h' _ w s' hv' he')
    · cases he
  · rename_i x hop
    split at he
    · rename_i v hv
      obtain ⟨r, v', h', s', hv', he'⟩ := typed_sound s (evalR_sound ht hv) he
      exact wp_value (by rw [show execOp a.eval o = pure (.value (a.eval x)) from by unfold execOp; rw [hop]]; rfl) (hn r v' h' _ w s' hv' he')
    · cases he
  · -- pick
    rename_i c x y hop
    split at he
    · rename_i q u v hc hu hv
      have hcr := evalR_sound ht hc
      have hur := evalR_sound ht hu
      have hvr := evalR_sound ht hv
      generalize hec : a.eval c = uc at hcr
      cases hcr
      cases q with
      | true =>
        refine wp_value (u := a.eval x) (w' := w) ?_ (hn [] u h _ w (by simpa using s) (by simpa using hur) he)
        unfold execOp; rw [hop]; simp [hec, asBool]
      | false =>
        refine wp_value (u := a.eval y) (w' := w) ?_ (hn [] v h _ w (by simpa using s) (by simpa using hvr) he)
        unfold execOp; rw [hop]; simp [hec, asBool]
    · cases he
  · -- alloc
    rename_i e hop
    split at he
    · rename_i ti hti
      exact (evAlloc_sound hT s hti he).use (by unfold execOp; rw [hop]) hn
    · cases he
  · -- box
    rename_i e x hop
    split at he
    · rename_i ti v hti hv
      obtain ⟨r, v', h', s', hv', he'⟩ := typed_sound s (evalR_sound ht hv) he
      cases hq : okVal v' && (cellsOf v').length == ti.size with
      | false => rw [hq] at he'; cases he'
      | true =>
        rw [hq] at he'
        simp only [Bool.and_eq_true] at hq
        refine (evBox_sound s' hv' hq.1 he').use (by unfold execOp; rw [hop]) (fun r2 v2 h2 u2 w2 s2 hv2 hK2 => ?_)
        exact hn (r ++ r2) v2 h2 u2 w2 (by simpa using s2) (by simpa using hv2) hK2
    · cases he
  · -- build
    rename_i sty ps hop
    split at he
    · rename_i fs _ _ _ z hti
      split at he
      · rename_i z' hb
        exact (evBuild_sound hT s ht hti hb he).use (by unfold execOp; rw [hop]) hn
      · cases he
    · cases he
  · -- buildSlice
    rename_i sty n ps hop
    split at he
    · rename_i e σ _ _ _ hti
      cases hq : Nat.ble (n * σ.size) 16777216 with
      | false => rw [hq] at he; cases he
      | true =>
        rw [hq] at he
        simp only [cond_true] at he
        split at he
        · rename_i l h' hb
          exact (evBuildSlice_sound hT s ht hti hq hb he).use (by unfold execOp; rw [hop]) hn
        · cases he
    · cases he
  · -- load
    rename_i ty x hop
    split at he
    · rename_i v hv
      exact (evLoad_sound hT s (evalR_sound ht hv) he).use (by unfold execOp; rw [hop]) hn
    · cases he
  · -- store
    rename_i ty x y hop
    split at he
    · rename_i p v hp hv
      obtain ⟨r, v', h', s', hv', he'⟩ := typed_sound s (evalR_sound ht hv) he
      obtain ⟨w', h2, h3, h4, h5⟩ := evStore_sound hT s' ((evalR_sound ht hp).ext (Ext.app _ _)) hv' he'
      refine wp_skip' (w' := w') ?_ (hn r .any h2 _ w' h4 (.any _) h5)
      unfold execOp; rw [hop]; simp [h3]
    · cases he
  · -- nilCheck
    rename_i x hop
    split at he
    · rename_i i off hv
      have hr := evalR_sound ht hv
      generalize hex : a.eval x = u at hr
      have hr0 := hr
      cases hr with | ptr _ _ b hι => ?_
      exact wp_value (by unfold execOp; rw [hop]; simp only [hex]; rfl) (hn [] _ h _ w (by simpa using s) (by simpa using hr0) he)
    · rename_i i j sz off hv
      have hr := evalR_sound ht hv
      generalize hex : a.eval x = u at hr
      have hr0 := hr
      cases hr with | elt _ _ _ _ b o n c hι => ?_
      exact wp_value (by unfold execOp; rw [hop]; simp only [hex]; rfl) (hn [] _ h _ w (by simpa using s) (by simpa using hr0) he)
    · rename_i f as cs hv
      have hr := evalR_sound ht hv
      generalize hex : a.eval x = u at hr
      have hr0 := hr
      cases hr with | fn _ _ _ us vs h1 h2 => ?_
      exact wp_value (by unfold execOp; rw [hop]; simp only [hex]; rfl) (hn [] _ h _ w (by simpa using s) (by simpa using hr0) he)
    · cases he
  · -- binOp
    rename_i op xt x y yt hop
    split at he
    · rename_i u v hu hv
      obtain ⟨⟨r, z, w', h1, h2, h3, h4⟩, hg⟩ := binAV_sound (P := P) (w := w) hT xt (evalR_sound ht hu) (evalR_sound ht hv) he
      exact val (m := do eqGuard op xt x y (a.eval x) (a.eval y); binOp op xt (a.eval x) (a.eval y)) (by unfold execOp; rw [hop]) (by rw [Sem.run_bind, hg]; exact h1) h2 h3 h4
    · cases he
  · -- unOp
    rename_i op xt x hop
    split at he
    · rename_i u hu
      obtain ⟨r, z, h1, h2, h3⟩ := unAV_sound (P := P) (w := w) (evalR_sound ht hu) he
      exact val (by unfold execOp; rw [hop]) h1 (WS.refl w) h2 h3
    · cases he
  · -- convert
    rename_i sty dty x hop
    split at he
    · rename_i v hv
      obtain ⟨r, z, w', h1, h2, h3, h4⟩ := evConvert_sound (P := P) (w := w) hT (evalR_sound ht hv) he
      exact val (by unfold execOp; rw [hop]) h1 h2 h3 h4
    · cases he
  · -- makeFunc
    rename_i f as cs hop
    split at he
    · rename_i u v hu hv
      have h1 := evalRs_sound ht hu
      have h2 := evalRs_sound ht hv
      refine val (m := Instr.makeFunc (.func f) (as.map a.eval) (cs.map a.eval)) (u := .func (.func f) (as.map a.eval) (cs.map a.eval)) (by unfold execOp; rw [hop]) rfl (WS.refl w) ?_ he
      have e : ∀ (l : Array Operand), l.map a.eval = (l.toList.map a.eval).toArray := fun l => by apply Array.ext'; simp
      rw [e as, e cs]
      exact .fn _ _ _ _ _ h1 h2
    · cases he
  · -- makeSlice
    rename_i sty l c hop
    split at he
    · rename_i e σ _ _ _ kn n km m hti hl hc
      split at he
      · rename_i ei hei
        cases hm : making m ei.bytes with
        | none => rw [hm] at he; cases he
        | some m' =>
          rw [hm] at he
          simp only [Option.bind_some] at he
          cases hu : upto n m' with
          | none => rw [hu] at he; cases he
          | some n' =>
            rw [hu] at he
            simp only [Option.bind_some] at he
            have h1 := evalR_sound ht hl
            have h2 := evalR_sound ht hc
            generalize hel : a.eval l = ul at h1
            generalize hec : a.eval c = uc at h2
            cases h1; cases h2
            exact (evMake_sound (kn := kn) (km := km) hT s hti hei hm hu he).use (by unfold execOp; rw [hop]; simp only [hel, hec]) hn
      · cases he
    · cases he
  · -- slice
    rename_i xt x lo hi hop
    split at he
    · rename_i v l u hv hl hu
      obtain ⟨l1, l2⟩ := evalO_sound ht hl
      obtain ⟨u1, u2⟩ := evalO_sound ht hu
      exact (evSlice_sound hT s (evalR_sound ht hv) l1 l2 u1 u2 he).use (by unfold execOp; rw [hop]; rfl) hn
    · cases he
  · -- s[:0:0]
    rename_i xt x lo hi m hop
    cases hq : is3 lo hi m with
    | false => rw [hq] at he; cases he
    | true =>
      rw [hq] at he
      obtain ⟨k1, k2, rfl, rfl, rfl⟩ := is3_eq hq
      simp only [cond_true] at he
      split at he
      · rename_i v hv
        exact (evSlice3_sound (k := k1) (k' := k2) hT s (evalR_sound ht hv) he).use (by unfold execOp; rw [hop]; rfl) hn
      · cases he
  · -- fieldAddr
    rename_i sty x f hop
    split at he
    · rename_i fs _ _ _ _ v hti hv
      split at he
      · rename_i off ft hf
        split at he
        · rename_i fi hfi
          cases hq : Nat.blt 0 fi.size with
          | false => rw [hq] at he; cases he
          | true =>
            rw [hq] at he
            simp only [cond_true] at he
            have hr := evalR_sound ht hv
            generalize hex : a.eval x = u at hr
            split at he
            · rename_i i0 off0
              cases hr with | ptr _ _ b hι => ?_
              exact val (by unfold execOp; rw [hop]; simp only [hex]) (evFieldAddr_sound hT hti hf hfi hq (b := b) (off := off0)) (WS.refl w) (.ptr _ _ _ hι) he
            · rename_i i0 j0 s0 off0
              cases hr with | elt _ _ _ _ b ob n c hι => ?_
              refine val (by unfold execOp; rw [hop]; simp only [hex]) (evFieldAddr_sound hT hti hf hfi hq (b := b) (off := ob + j0 * s0 + off0)) (WS.refl w) ?_ he
              rw [Nat.add_assoc (ob + _)]
              exact .elt _ _ _ _ _ _ _ _ hι
            · cases he
        · cases he
      · cases he
    · cases he
  · -- field
    rename_i sty x f hop
    split at he
    · rename_i fs _ _ _ _ cs hti hv
      have hr := evalR_sound ht hv
      generalize hex : a.eval x = u at hr
      cases hr with | agg _ us hcs => ?_
      split at he
      · rename_i off ft hf
        split at he
        · rename_i fi hfi
          split at he
          · rename_i gs hd
            refine val (by unfold execOp; rw [hop]; simp only [hex]) (evField_sound hT hti hf hfi (.inl ⟨⟨gs, hd⟩, rfl⟩)) (WS.refl w) (.agg _ _ ((hcs.drop off).take fi.size)) he
          · rename_i hd
            split at he
            · rename_i v hv'
              rw [nth_eq] at hv'
              obtain ⟨u, hu, hr⟩ := hcs.get hv'
              exact val (by unfold execOp; rw [hop]; simp only [hex]) (evField_sound hT hti hf hfi (.inr ⟨fun gs e => hd gs e, hu⟩)) (WS.refl w) hr he
            · cases he
        · cases he
      · cases he
    · cases he
  · -- indexAddr
    rename_i sty x i hop
    split at he
    · rename_i e _ _ _ _ v j hti hv hj
      split at he
      · rename_i ei hei
        exact (evIndexAddr_sound hT s hti hei (evalR_sound ht hv) (evalR_sound ht hj) he).use (by unfold execOp; rw [hop]) hn
      · cases he
    · cases he
  · -- index
    rename_i xt x i hop
    split at he
    · rename_i _ _ _ s' k j hti hv hj
      have hr := evalR_sound ht hv
      have hrj := evalR_sound ht hj
      generalize hex : a.eval x = u at hr
      generalize hei : a.eval i = ui at hrj
      cases hr; cases hrj
      cases hb : bt s' j with
      | none => rw [hb] at he; cases he
      | some b =>
        rw [hb] at he
        exact val (by unfold execOp; rw [hop]; simp only [hex, hei]) (evIndex_sound (k := k) (underlying_str hT hti) hb) (WS.refl w) (.int _ _) he
    · cases he
  · -- extract
    rename_i x i hop
    split at he
    · rename_i vs hv
      have hr := evalR_sound ht hv
      generalize hex : a.eval x = u at hr
      cases hr with | tup _ us hcs => ?_
      split at he
      · rename_i v hv'
        rw [nth_eq] at hv'
        obtain ⟨u, hu, hr⟩ := hcs.get hv'
        refine val (m := Instr.extract (.tuple us.toArray) i) (by unfold execOp; rw [hop]; simp only [hex]) ?_ (WS.refl w) hr he
        simp [Instr.extract, hu]
      · cases he
    · cases he
  · -- call
    rename_i c hop
    split at he
    · cases he
    · rename_i vs hvs
      obtain ⟨r, vs', h', s', hv', he'⟩ := typedL_sound s (evalRs_sound ht hvs) he
      have eargs : c.args.map a.eval = (c.args.toList.map a.eval).toArray := by apply Array.ext'; simp
      split at he'
      · rename_i b hcal
        obtain ⟨m, hm, hdid⟩ := evBuiltin_sound (P := P) hT s' hv' he' o.type
        refine hdid.use ?_ (fun r2 v2 h2 u2 w2 s2 hv2 hK2 => hn (r ++ r2) v2 h2 u2 w2 (by simpa using s2) (by simpa using hv2) hK2)
        unfold execOp; rw [hop]
        simp only [resolve, hcal, pure_bind, invoke, eargs]
        have := hm (c.args.map fun | .const _ => true | _ => false)
        exact this
      · rename_i f hcal
        split at he'
        · rename_i fid first captured hf
          split at he'
          · rename_i sm hsm
            have hr := evalR_sound ht hf
            generalize hef : a.eval f = uf at hr
            cases hr with | fn _ _ _ us1 us2 h1 h2 => ?_
            have hargs : AVRs (ι ++ r) (first ++ vs' ++ captured) (us1 ++ c.args.toList.map a.eval ++ us2) := ((h1.ext (Ext.app _ _)).append hv').append (h2.ext (Ext.app _ _))
            have := call_sound (P := P) (o := o) (a := a) (next := next) (Q := Q) (hF fid sm hsm) s' hargs he' (fun r2 v2 h2 u2 w2 s2 hv2 hK2 => hn (r ++ r2) v2 h2 u2 w2 (by simpa using s2) (by simpa using hv2) hK2)
            unfold Oper.wp
            rw [show execOp a.eval o = callFunc fid (us1 ++ c.args.toList.map a.eval ++ us2).toArray from ?_]
            · exact this
            · unfold execOp; rw [hop]
              simp only [resolve, hcal, hef, Deferred.ofValue, pure_bind, invoke, eargs]
              congr 1
              simp
          · cases he'
        · cases he'
      · cases he'
  · cases he
end
end Go.Ev

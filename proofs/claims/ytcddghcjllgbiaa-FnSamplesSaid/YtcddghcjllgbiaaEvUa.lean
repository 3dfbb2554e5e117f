/-
  Regions whose order is drawn, second way: any order does what one does.
-/
import Derived.Test.YtcddghcjllgbiaaEvU
namespace Go.Ev
open Go.RowKit
set_option linter.unusedSimpArgs false

/-! ### A place that nothing points to -/

def junk : Value := .bool true

def Jext (ι ι' : List Value) : Prop := ∀ (id : Nat) (u : Value), ι[id]? = some u → u ≠ junk → ι'[id]? = some u

mutual
theorem AVR.jext {ι ι' : List Value} (he : Jext ι ι') {x : AV} {u : Value} (h : AVR ι x u) : AVR ι' x u := by
  cases h with
  | any => exact .any _
  | bool => exact .bool _
  | int => exact .int _ _
  | flt => exact .flt _ _
  | cpx => exact .cpx _ _ _
  | str => exact .str _
  | val => exact .val _
  | ptr id off b h => exact .ptr _ _ _ (he _ _ h (fun e => by cases e))
  | elt id i size off b o n c h => exact .elt _ _ _ _ _ _ _ _ (he _ _ h (fun e => by cases e))
  | whole id a n c h => exact .whole _ _ _ _ (he _ _ h (fun e => by cases e))
  | sub id lo len size a a' n c c' h h1 h2 h3 h4 => exact .sub _ _ _ _ a a' n c c' (he _ _ h (fun e => by cases e)) h1 h2 h3 h4
  | nocap a => exact .nocap a
  | fn f as cs us vs h1 h2 => exact .fn _ _ _ _ _ (h1.jext he) (h2.jext he)
  | agg cs us h => exact .agg _ _ (h.jext he)
  | tup cs us h => exact .tup _ _ (h.jext he)
theorem AVRs.jext {ι ι' : List Value} (he : Jext ι ι') {x : List AV} {u : List Value} (h : AVRs ι x u) : AVRs ι' x u := by
  cases h with
  | nil => exact .nil
  | cons x u r s h1 h2 => exact .cons _ _ _ _ (h1.jext he) (h2.jext he)
end

theorem BR.jext {w : World} {A : Nat → Prop} {ι ι' : List Value} {u : Value} {b : Blk} (h : BR w A ι u b) (he : Jext ι ι') : BR w A ι' u b := by
  cases b with
  | dead => trivial
  | cells t cs =>
    obtain ⟨g, arr, rfl, hb, hv⟩ := h
    exact ⟨g, arr, rfl, hb, hv.jext he⟩
  | vec rw e τ xs => cases rw <;> exact h

theorem over_at {α : Type} {xs ys : List α} {lo : Nat} (hl : lo + ys.length ≤ xs.length) (p : Nat) :
    (over xs ys lo)[p]? = if p < lo then xs[p]? else if p < lo + ys.length then ys[p - lo]? else xs[p]? := by
  unfold over
  have h1 : (xs.take lo).length = lo := by simp; omega
  split
  · rename_i q
    rw [List.append_assoc, List.getElem?_append_left (by omega), List.getElem?_take_of_lt q]
  · rename_i q
    split
    · rename_i z
      rw [List.append_assoc, List.getElem?_append_right (by omega), h1, List.getElem?_append_left (by omega)]
    · rename_i z
      rw [List.getElem?_append_right (by simp; omega)]
      simp only [List.length_append, h1, List.getElem?_drop]
      congr 1; omega

section
variable {P : Program} {T : Types} {F : FuncId → Option Sum} {w0 w : World} {R0 Y : Nat → Prop} {ι0 ι : List Value} {h : List Blk} {out : Out}

/-- Behind an operation: what it has made lies in the places that were kept for it. -/
theorem Sat.backAt (s : Sat w0 R0 Y ι0 ι h w) {ids : List Nat} (hs : Sub h ids) {r : List Value} {hc : List Blk} {w' : World} {base wid : Nat}
    (hge : ids.length ≤ hc.length) (hle : hc.length ≤ ids.length + wid) (hsl : okSlots ids base wid h.length = true) (hj : ∀ p ∈ rangeN base wid, ι0.length ≤ p ∧ ι[p]? = some junk)
    (sc : Sat w (RW (pickι ι ids) (pickBlks h (indexOf ids) ids)) (Yc Y ι h ids (indexOf ids)) (pickι ι ids) (pickι ι ids ++ r) hc w') :
    ∃ ι2, Sat w0 R0 Y ι0 ι2 (putBack (backN (ids ++ rangeN base wid) 0) (ids ++ rangeN base (hc.length - ids.length)) hc h) w' ∧
    (∀ (i : Nat) (u : Value), (pickι ι ids ++ r)[i]? = some u → ι2[backN (ids ++ rangeN base wid) 0 i]? = some u) ∧ Jext ι ι2 ∧ (∀ p, p ∉ rangeN base wid → ι2[p]? = ι[p]?) := by
  have hb : ∀ x ∈ ids, x < ι.length := fun x hx => by rw [s.len]; exact hs.below x hx
  have hlr : r.length = hc.length - ids.length := by
    have := sc.len; simp [pickι] at this; omega
  have hk : hc.length - ids.length ≤ wid := by omega
  have hnd := noDup_app hs.nodup hsl hk
  have hsl2 := hsl
  simp only [okSlots, Bool.and_eq_true, disjN_iff, Nat.ble_eq] at hsl2
  generalize hm : backN (ids ++ rangeN base wid) 0 = m at *
  generalize hL : ids ++ rangeN base (hc.length - ids.length) = L at *
  have hlen : L.length = hc.length := by
    rw [← hL, List.length_append, rangeN_len]; omega
  have hbel : ∀ x ∈ L, x < h.length := by
    intro x hx
    rw [← hL, List.mem_append, mem_rangeN] at hx
    rcases hx with q | q
    · exact hs.below x q
    · omega
  obtain ⟨p1, p2, p3, _⟩ := putBack_spec m L hc h hnd hbel (by omega)
  have hroom : base + r.length ≤ ι.length := by rw [s.len]; omega
  have hget := over_at (ys := r) hroom
  have hsame : ∀ p, p ∉ rangeN base wid → (over ι r base)[p]? = ι[p]? := by
    intro p hp
    rw [hget p]
    rw [mem_rangeN] at hp
    split
    · rfl
    · split
      · omega
      · rfl
  have hjx : Jext ι (over ι r base) := by
    intro id u hu hne
    rw [hsame id ?_]
    · exact hu
    · intro q
      rw [(hj id q).2] at hu
      exact hne (Option.some.inj hu).symm
  -- each number of the operation's own has its place
  have hpl : ∀ (i id : Nat), L[i]? = some id → m i = id ∧ (pickι ι ids ++ r)[i]? = (over ι r base)[id]? := by
    intro i id hi
    refine ⟨?_, ?_⟩
    · rw [← hm]; rw [← hL] at hi; exact backN_app hk hi
    · rw [← hL] at hi
      rcases Nat.lt_or_ge i ids.length with q | q
      · rw [List.getElem?_append_left q] at hi
        rw [List.getElem?_append_left (by simpa [pickι] using q), pickι_get hb hi, hsame]
        exact fun z => hsl2.1 id z (List.mem_of_getElem? hi)
      · rw [List.getElem?_append_right q] at hi
        have hlt := get_lt hi
        rw [rangeN_len] at hlt
        rw [rangeN_get _ _ _ hlt] at hi
        cases hi
        rw [List.getElem?_append_right (by simpa [pickι] using q), hget]
        rw [if_neg (by omega), if_pos (by omega)]
        simp [pickι]
  have hback : ∀ (i : Nat) (u : Value), (pickι ι ids ++ r)[i]? = some u → (over ι r base)[m i]? = some u := by
    intro i u hi
    have hlt := get_lt hi
    have hlt2 : i < L.length := by
      rw [hlen]; simp [pickι] at hlt; omega
    obtain ⟨h1, h2⟩ := hpl i L[i] (List.getElem?_eq_getElem hlt2)
    rw [h1, ← h2]; exact hi
  have cls : ∀ (j : Nat) (b : Blk) (u : Value), (putBack m L hc h)[j]? = some b → (over ι r base)[j]? = some u →
      (j ∉ L ∧ h[j]? = some b ∧ ι[j]? = some u ∧ j ∉ ids) ∨ (∃ i c, hc[i]? = some c ∧ b = c.ren m ∧ (pickι ι ids ++ r)[i]? = some u ∧ j = m i) := by
    intro j b u hj' hu
    by_cases hmem : j ∈ L
    · have hg := indexOf_get hmem
      obtain ⟨e1, e2⟩ := hpl _ _ hg
      rw [p2 _ _ hg] at hj'
      cases hcc : hc[indexOf L j]? with
      | none => rw [hcc] at hj'; cases hj'
      | some c =>
        rw [hcc] at hj'
        simp only [Option.map_some, Option.some.injEq] at hj'
        exact .inr ⟨indexOf L j, c, hcc, hj'.symm, by rw [e2]; exact hu, e1.symm⟩
    · have hlt : j < h.length := by
        have := get_lt hj'; rw [p1] at this; omega
      have hnid : j ∉ ids := fun q => hmem (by rw [← hL, List.mem_append]; exact .inl q)
      have hnsl : ¬ (base ≤ j ∧ j < base + r.length) := fun q => hmem (by rw [← hL, List.mem_append, mem_rangeN]; exact .inr (by omega))
      rw [p3 j hlt hmem] at hj'
      rw [hget j] at hu
      refine .inl ⟨hmem, hj', ?_, hnid⟩
      split at hu
      · exact hu
      · split at hu
        · omega
        · exact hu
  have hRW : ∀ k, RW (over ι r base) (putBack m L hc h) k →
      (∃ j b u, j ∉ ids ∧ h[j]? = some b ∧ b.rw = true ∧ ι[j]? = some u ∧ vblock u = some k) ∨ RW (pickι ι ids ++ r) hc k := by
    rintro k ⟨j, b, u, h1, h2, h3, h4⟩
    rcases cls j b u h1 h3 with ⟨g0, g2, g3, g1⟩ | ⟨i, c, g1, g2, g3, _⟩
    · exact .inl ⟨j, b, u, g1, g2, h2, g3, h4⟩
    · subst g2; rw [Blk.rw_ren] at h2
      exact .inr ⟨i, c, u, g1, h2, g3, h4⟩
  have hout : ∀ {j : Nat} {b : Blk} {u : Value} {k : Nat}, j ∉ ids → h[j]? = some b → b.rw = true → ι[j]? = some u → vblock u = some k → ¬ RW (pickι ι ids) (pickBlks h (indexOf ids) ids) k := by
    intro j b u k hj hb' hr hu hk hq
    obtain ⟨id, c, v, g1, g2, g3, g4, g5⟩ := sub_RW s hs _ hq
    exact hj (by rw [s.ne _ _ _ _ _ _ k hb' g2 hr g3 hu g4 hk g5]; exact g1)
  have hYc : ∀ {j : Nat} {b : Blk} {u : Value} {k : Nat}, j ∉ ids → h[j]? = some b → b.rw = true → ι[j]? = some u → vblock u = some k → Yc Y ι h ids (indexOf ids) k :=
    fun hj hb' hr hu hk => ⟨.inr ⟨_, _, _, hb', hr, hu, hk⟩, hout hj hb' hr hu hk⟩
  have hA : ∀ k, (Y k ∨ RW (over ι r base) (putBack m L hc h) k) → (Yc Y ι h ids (indexOf ids) k ∨ RW (pickι ι ids ++ r) hc k) := by
    rintro k (q | q)
    · left
      refine ⟨.inl q, fun hq => ?_⟩
      obtain ⟨id, c, v, g1, g2, g3, g4, g5⟩ := sub_RW s hs _ hq
      exact (s.old k ⟨id, c, v, g2, g3, g4, g5⟩).2 q
    · rcases hRW k q with ⟨j, b, u, g1, g2, g3, g4, g5⟩ | g
      · exact .inl (hYc g1 g2 g3 g4 g5)
      · exact .inr g
  have hsm : ∀ k, k < w.heap.size → ¬ RW (pickι ι ids) (pickBlks h (indexOf ids) ids) k → w'.heap[k]? = w.heap[k]? := fun k hk hn => sc.frame k hk hn
  have hheld : ∀ {k : Nat}, RW (pickι ι ids ++ r) hc k → RW (pickι ι ids) (pickBlks h (indexOf ids) ids) k ∨ w.heap.size ≤ k := fun hk => (sc.old _ hk).1
  refine ⟨over ι r base, ⟨?_, ?_, ?_, ?_, ?_, ?_, Nat.le_trans s.size sc.size, sc.os.trans s.os, sc.tape.trans s.tape, sc.output.trans s.output, s.ylow⟩, hback, hjx, hsame⟩
  · rw [p1]
    have : (over ι r base).length = ι.length := by simp [over]; omega
    rw [this, s.len]; omega
  · obtain ⟨r0, hr0⟩ := s.pre
    refine ⟨(over ι r base).drop ι0.length, ?_⟩
    have : (over ι r base).take ι0.length = ι0 := by
      apply List.ext_getElem?
      intro i
      by_cases hi : i < ι0.length
      · rw [List.getElem?_take_of_lt hi, hsame i (fun q => by have := (hj i q).1; omega), hr0, List.getElem?_append_left hi]
      · rw [List.getElem?_eq_none (by simp; omega), List.getElem?_eq_none (by omega)]
    have h2 := List.take_append_drop ι0.length (over ι r base)
    rw [this] at h2
    exact h2.symm
  · intro j b u h1 h2
    rcases cls j b u h1 h2 with ⟨g0, g2, g3, g1⟩ | ⟨i, c, g1, g2, g3, _⟩
    · refine BR.jext ((s.br j b u g2 g3).step (fun k hk hn => ⟨fun q => hn ?_, hsm k hk (fun q => hn ?_)⟩) (fun hr k hk => ?_) (Ext.refl _)) hjx
      · rcases hA k q with q | q
        · exact q.1
        · rcases hheld q with q | q
          · obtain ⟨id, c, v, e1, e2, e3, e4, e5⟩ := sub_RW s hs _ q
            exact .inr ⟨id, c, v, e2, e3, e4, e5⟩
          · omega
      · obtain ⟨id, c, v, e1, e2, e3, e4, e5⟩ := sub_RW s hs _ q
        exact .inr ⟨id, c, v, e2, e3, e4, e5⟩
      · exact hsm k ((s.br j b u g2 g3).lt hr hk) (hout g1 g2 hr g3 hk)
    · subst g2
      refine BR.ren (BR.step (sc.br i c u g1 g3) (fun k _ hn => ⟨fun q => hn (hA k q), rfl⟩) (fun _ _ _ => rfl) (Ext.refl _)) (fun x _ v hv => hback x v hv)
  · intro j1 j2 b1 b2 u1 u2 k h1 h2 r1 r2 h3 h4 v1 v2
    rcases cls j1 b1 u1 h1 h3 with ⟨_, g2, g3, g1⟩ | ⟨i1, c1, g1, g2, g3, g4⟩ <;> rcases cls j2 b2 u2 h2 h4 with ⟨_, e2, e3, e1⟩ | ⟨i2, c2, e1, e2, e3, e4⟩
    · exact s.ne _ _ _ _ _ _ k g2 e2 r1 r2 g3 e3 v1 v2
    · exfalso
      subst e2; rw [Blk.rw_ren] at r2
      have hq : RW (pickι ι ids ++ r) hc k := ⟨i2, c2, u2, e1, r2, e3, v2⟩
      rcases hheld hq with q | q
      · exact hout g1 g2 r1 g3 v1 q
      · have := (s.br _ _ _ g2 g3).lt r1 v1; omega
    · exfalso
      subst g2; rw [Blk.rw_ren] at r1
      have hq : RW (pickι ι ids ++ r) hc k := ⟨i1, c1, u1, g1, r1, g3, v1⟩
      rcases hheld hq with q | q
      · exact hout e1 e2 r2 e3 v2 q
      · have := (s.br _ _ _ e2 e3).lt r2 v2; omega
    · subst g2; subst e2
      rw [Blk.rw_ren] at r1 r2
      have := sc.ne _ _ _ _ _ _ k g1 e1 r1 r2 g3 e3 v1 v2
      subst this; rw [g4, e4]
  · intro k hk
    rcases hRW k hk with ⟨j, b, u, g1, g2, g3, g4, g5⟩ | g
    · exact s.old k ⟨j, b, u, g2, g3, g4, g5⟩
    · rcases hheld g with q | q
      · obtain ⟨id, c, v, e1, e2, e3, e4, e5⟩ := sub_RW s hs _ q
        exact s.old k ⟨id, c, v, e2, e3, e4, e5⟩
      · exact ⟨.inr (Nat.le_trans s.size q), fun hy => by have := s.ylow k hy; have := s.size; omega⟩
  · intro k hk hR
    rw [hsm k (Nat.lt_of_lt_of_le hk s.size) (fun q => ?_)]
    · exact s.frame k hk hR
    · obtain ⟨id, c, v, e1, e2, e3, e4, e5⟩ := sub_RW s hs _ q
      rcases (s.old k ⟨id, c, v, e2, e3, e4, e5⟩).1 with z | z
      · exact hR z
      · omega

/-- One operation. -/
theorem effL_step (hT : TOk P T) (hF : FOk P F) {ops : Array Oper} {i : Nat} {o : Oper} (hi : ops[i]? = some o) {Q : Exit → Act → World → Prop} {next : Act → World → Prop} {t : List AV} {a : Act} (s : Sat w0 R0 Y ι0 ι h w) (ht : AVRs ι t a.tmps.toList)
    {base : Nat} (hj : ∀ p ∈ rangeN base (widOf o.op), ι0.length ≤ p ∧ ι[p]? = some junk) {ids : List Nat} {v : AV} {h' : List Blk} (he : effL T F ops.toList o base t h = some (ids, (v, h')))
    (hn : ∀ ι' a' w', Sat w0 R0 Y ι0 ι' h' w' → AVRs ι' (St.put t o.dst v) a'.tmps.toList → a'.defers = a.defers → (∀ p, p ∉ rangeN base (widOf o.op) → ι'[p]? = ι[p]?) → next a' w') : wpOp P ops Q i next a w := by
  unfold wpOp
  rw [hi]
  simp only
  unfold effL at he
  obtain ⟨wd, hw, he⟩ := bind_inv he
  cases wd with
  | false =>
    simp only [cond_false, Option.some.injEq, Prod.mk.injEq] at he
    obtain ⟨_, rfl, rfl⟩ := he
    rw [wantedA_sound ht hw, if_neg (by decide)]
    exact hn _ _ _ s (ht.put o.dst (.val _)) (Act.put_defers _ _ _) (fun _ _ => rfl)
  | true =>
    simp only [cond_true] at he
    rw [wantedA_sound ht hw, if_pos rfl]
    unfold stepR at he
    cases hdi : directIds o.op t with
    | some is =>
      rw [hdi] at he
      simp only at he
      obtain ⟨⟨u, h2⟩, hev, he⟩ := bind_inv he
      obtain ⟨hl, he⟩ := cond_inv he
      simp only [Option.some.injEq, Prod.mk.injEq] at he
      obtain ⟨_, rfl, rfl⟩ := he
      have hl' : h2.length = h.length := by simpa using hl
      have hq : quietOp F o.op = true := by
        unfold directIds at hdi
        cases hr : regOp o.op with
        | true => exact regOp_quiet hr
        | false =>
          rw [hr] at hdi
          simp only [cond_false] at hdi
          split at hdi
          · rename_i hop; rw [hop]; rfl
          · cases hdi
      have e := evOp_quiet hq hev hl'
      subst e
      refine .inl (evOp_sound hT hF s ht hev (fun r v' h'' u' w' s' hv hK => ?_))
      obtain ⟨rfl, rfl⟩ := pr_some hK
      have hr0 : r = [] := by
        have h1 := s'.len; have h2 := s.len
        simp only [List.length_append] at h1
        exact List.eq_nil_of_length_eq_zero (by omega)
      subst hr0
      rw [List.append_nil] at s' hv
      exact hn ι _ _ s' (ht.put o.dst hv) (Act.put_defers _ _ _) (fun _ _ => rfl)
    | none =>
    rw [hdi] at he
    simp only at he
    unfold locR at he
    split at he
    case h_2 => cases he
    rename_i ids' hre
    obtain ⟨hos, he⟩ := cond_inv he
    obtain ⟨⟨u, hc⟩, hev, he⟩ := bind_inv he
    obtain ⟨hfit, he⟩ := cond_inv he
    simp only [Option.some.injEq, Prod.mk.injEq] at he
    obtain ⟨rfl, rfl, rfl⟩ := he
    obtain ⟨hs, hin⟩ := okIds_sub (reachOf_some hre).2
    simp only [fits, Bool.and_eq_true, Nat.ble_eq] at hfit
    have hb : ∀ x ∈ ids', x < ι.length := fun x hx => by rw [s.len]; exact hs.below x hx
    have hargs : AVRs (pickι ι ids') (renL (indexOf ids') (maskFrom (readsT (readsOp o.op)) 0 t)) a.tmps.toList :=
      (maskFrom_sound 0 ht).ren (fun x hx u hu => by rw [pickι_get hb (indexOf_get (hin x hx))]; exact hu)
    refine .inl (evOp_sound hT hF (s.callee hs) hargs hev (fun r v' h'' u' w' s' hv hK => ?_))
    obtain ⟨rfl, rfl⟩ := pr_some hK
    obtain ⟨ι2, s2, hback, hjx, hsame⟩ := s.backAt hs hfit.1 hfit.2 hos hj s'
    exact hn ι2 _ _ s2 ((ht.jext hjx).put o.dst (hv.ren (fun x _ u hu => hback x u hu))) (Act.put_defers _ _ _) hsame

theorem Sat.junks (s : Sat w0 R0 Y ι0 ι h w) : ∀ n, Sat w0 R0 Y ι0 (ι ++ List.replicate n junk) (h ++ List.replicate n .dead) w := by
  intro n
  induction n with
  | zero => simpa using s
  | succ n ih =>
    rw [show List.replicate (n + 1) junk = List.replicate n junk ++ [junk] from by rw [List.replicate_succ'], show List.replicate (n + 1) Blk.dead = List.replicate n Blk.dead ++ [Blk.dead] from by rw [List.replicate_succ'], ← List.append_assoc, ← List.append_assoc]
    exact ih.push (fun _ _ => rfl) (Nat.le_refl _) rfl rfl rfl junk .dead (fun q => by cases q) trivial

/-! ### The order -/

def pairOkL (ops : List Oper) (x y : Nat) : Bool :=
  !(x == y) && !hasN (afterOf ops x) y &&
  ((match nth ops x, nth ops y with
    | some a, some b => okStat ops a b
    | _, _ => false) || reachB ops x y)

def okTailL (ops : List Oper) (x : Nat) : List Nat → Bool
  | [] => true
  | y :: r => pairOkL ops x y && okTailL ops x r

def okOrderL (ops : List Oper) (n : Nat) : List Nat → Bool
  | [] => true
  | x :: r => selfOk ops n x && okTailL ops x r && okOrderL ops n r

def goodOrderL (ops : List Oper) (ix : List Nat) : Bool := okOrderL ops ops.length ix && covers ix ops.length

def PairOkL (ops : List Oper) (x y : Nat) : Prop :=
  x ≠ y ∧ y ∉ afterOf ops x ∧ ((∃ a b, nth ops x = some a ∧ nth ops y = some b ∧ okStat ops a b = true) ∨ ∃ n, reaches ops n x y = true)

theorem pairOkL_sound {ops : List Oper} {x y : Nat} (he : pairOkL ops x y = true) : PairOkL ops x y := by
  simp only [pairOkL, Bool.or_eq_true, Bool.and_eq_true, Bool.not_eq_true', beq_eq_false_iff_ne] at he
  obtain ⟨⟨h1, h2⟩, h3⟩ := he
  refine ⟨h1, fun hm => absurd (h2.symm.trans (hasN_iff.mpr hm)) (by decide), ?_⟩
  rcases h3 with h3 | h3
  · refine .inl ?_
    split at h3
    · rename_i a b ha hb; exact ⟨a, b, ha, hb, h3⟩
    · cases h3
  · refine .inr ?_
    simp only [reachB, Bool.or_eq_true] at h3
    rcases h3 with (h3 | h3) | h3 <;> exact ⟨_, h3⟩

theorem okTailL_sound {ops : List Oper} {x : Nat} : ∀ {l : List Nat}, okTailL ops x l = true → ∀ y ∈ l, PairOkL ops x y := by
  intro l
  induction l with
  | nil => intro _ y hy; cases hy
  | cons z r ih =>
    intro he y hy
    simp only [okTailL, Bool.and_eq_true] at he
    cases hy with
    | head => exact pairOkL_sound he.1
    | tail _ hy => exact ih he.2 y hy

theorem okOrderL_sound {ops : List Oper} {n : Nat} : ∀ {l : List Nat}, okOrderL ops n l = true → l.Pairwise (PairOkL ops) ∧ ∀ x ∈ l, x < n ∧ ∀ j ∈ afterOf ops x, j < n ∧ j ≠ x := by
  intro l
  induction l with
  | nil => intro _; exact ⟨.nil, fun x hx => by cases hx⟩
  | cons x r ih =>
    intro he
    simp only [okOrderL, Bool.and_eq_true] at he
    obtain ⟨⟨h1, h2⟩, h3⟩ := he
    obtain ⟨k1, k2⟩ := ih h3
    refine ⟨.cons (okTailL_sound h2) k1, ?_⟩
    intro y hy
    cases hy with
    | head =>
      simp only [selfOk, Bool.and_eq_true, Nat.blt_eq, List.all_eq_true, Bool.not_eq_true', beq_eq_false_iff_ne] at h1
      exact h1
    | tail _ hy => exact k2 y hy

theorem frontL {ops : List Oper} {n i : Nat} {o : Oper} {K : Kont} (hi : nth ops i = some o) (r : List Nat) : ∀ (l : List Nat) (done : List Foot) (st : St),
    (∀ x ∈ l, x ≠ i ∧ reachB ops x i = false ∧ ∃ a, nth ops x = some a ∧ okStat ops a o = true) →
    evOpsL T F ops n (l ++ i :: r) done st K = some out → evOpsL T F ops n (i :: (l ++ r)) done st K = some out := by
  intro l
  induction l with
  | nil => intro done st _ he; exact he
  | cons x l ih =>
    intro done st hx he
    obtain ⟨hne, hnr, a, ha, hok⟩ := hx x (by simp)
    rw [List.cons_append, evOpsL_cons ha] at he
    obtain ⟨y, hy, he⟩ := bind_inv he
    obtain ⟨hd, he⟩ := cond_inv he
    have := ih _ _ (fun z hz => hx z (by simp [hz])) he
    rw [List.cons_append]
    refine swapL ha hi hne hok hnr _ _ _ _ ?_
    rw [evOpsL_cons ha, hy]
    simp only [Option.bind_some]
    rw [hd]
    exact this

theorem any_soundL (hT : TOk P T) (hF : FOk P F) (ops : Array Oper) (n : Nat) {Q : Exit → Act → World → Prop} {K : Kont} : ∀ (fuel : Nat) (rem : List Nat) (listed : Array Bool) {ι : List Value} {st : St} {a : Act} {w : World} {done : List Foot},
    rem.length ≤ fuel → listed.size = ops.size → rem.Pairwise (PairOkL ops.toList) → (∀ x ∈ rem, x < ops.size ∧ ∀ j ∈ afterOf ops.toList x, j < ops.size ∧ j ≠ x) →
    (∀ i, i < ops.size → (listed[i]? = some false ↔ i ∈ rem)) → DownClosed ops.toList (fun i => listed[i]? = some true) →
    (∀ x ∈ rem, ∀ p ∈ slotsOf ops.toList n x, ι0.length ≤ p ∧ ι[p]? = some junk) →
    evOpsL T F ops.toList n rem done st K = some out → Sat w0 R0 Y ι0 ι st.h w → AVRs ι st.t a.tmps.toList → a.defers = [] →
    (∀ ι' st' a' w', Sat w0 R0 Y ι0 ι' st'.h w' → AVRs ι' st'.t a'.tmps.toList → a'.defers = [] → K .normal st' = some out → Q .normal a' w') →
    wpAny P .any ops Q fuel listed a w := by
  -- ready
  have rdy : ∀ {listed : Array Bool} {i : Nat}, listed.size = ops.size → (i ∈ Region.ready .any ops listed ↔ i < ops.size ∧ listed[i]? = some false ∧ ∀ j ∈ afterOf ops.toList i, listed[j]? = some true) := by
    intro listed i hs
    simp only [Region.ready, List.mem_filter, List.mem_range, Bool.and_eq_true, Bool.not_eq_true']
    constructor
    · rintro ⟨h1, h2, h3⟩
      refine ⟨h1, ?_, ?_⟩
      · have : i < listed.size := by omega
        simp only [Array.getD_eq_getD_getElem?, Array.getElem?_eq_getElem this, Option.getD_some] at h2 ⊢
        rw [h2]
      · intro j hj
        unfold afterOf at hj
        rw [nth_eq, Array.getElem?_toList] at hj
        rw [Array.getElem?_eq_getElem h1] at hj h3
        simp only [List.mem_map, List.mem_filter] at hj
        obtain ⟨e, ⟨he1, he2⟩, rfl⟩ := hj
        simp only [Option.map_some, Option.getD_some, Array.all_eq_true'] at h3
        have := h3 e (by simpa using he1)
        rw [he2] at this
        simp only [Bool.not_true, Bool.false_or] at this
        cases hl : listed[e.on]? with
        | none => simp [Array.getD_eq_getD_getElem?, hl] at this
        | some b => simp [Array.getD_eq_getD_getElem?, hl] at this; rw [this]
    · rintro ⟨h1, h2, h3⟩
      refine ⟨h1, by simp [Array.getD_eq_getD_getElem?, h2], ?_⟩
      rw [Array.getElem?_eq_getElem h1]
      simp only [Option.map_some, Option.getD_some, Array.all_eq_true']
      intro e he
      cases hb : Region.binds .any e with
      | false => rfl
      | true =>
        have := h3 e.on (by
          unfold afterOf
          rw [nth_eq, Array.getElem?_toList, Array.getElem?_eq_getElem h1]
          simp only [List.mem_map, List.mem_filter]
          exact ⟨e, ⟨by simpa using he, hb⟩, rfl⟩)
        simp [Array.getD_eq_getD_getElem?, this]
  -- nothing ready, nothing left
  have fin : ∀ {rem : List Nat} {listed : Array Bool}, listed.size = ops.size → rem.Pairwise (PairOkL ops.toList) → (∀ x ∈ rem, x < ops.size ∧ ∀ j ∈ afterOf ops.toList x, j < ops.size ∧ j ≠ x) →
      (∀ i, i < ops.size → (listed[i]? = some false ↔ i ∈ rem)) → Region.ready .any ops listed = [] → rem = [] := by
    intro rem listed hs hp hx hl hr
    cases rem with
    | nil => rfl
    | cons x r =>
      have hxx := hx x (by simp)
      have : x ∈ Region.ready .any ops listed := by
        refine (rdy hs).mpr ⟨hxx.1, (hl x hxx.1).mpr (by simp), fun j hj => ?_⟩
        obtain ⟨hj1, hj2⟩ := hxx.2 j hj
        have hj3 : j < listed.size := by omega
        cases hq : listed[j] with
        | true => rw [Array.getElem?_eq_getElem hj3, hq]
        | false =>
          have hm := (hl j hj1).mp (by rw [Array.getElem?_eq_getElem hj3, hq])
          cases hm with
          | head => exact absurd rfl hj2
          | tail _ hm =>
            cases hp with | cons h1 _ => exact absurd hj (h1 j hm).2.1
      rw [hr] at this; cases this
  intro fuel
  induction fuel with
  | zero =>
    intro rem listed ι st a w done hf hs hp hx hl hdc hj he sat ht hd hn
    have : rem = [] := List.eq_nil_of_length_eq_zero (by omega)
    subst this
    refine ⟨?_, hn _ st a w sat ht hd he⟩
    apply List.eq_nil_iff_forall_not_mem.mpr
    intro i hi
    obtain ⟨h1, h2, _⟩ := (rdy hs).mp hi
    exact absurd ((hl i h1).mp h2) (by simp)
  | succ fuel ih =>
    intro rem listed ι st a w done hf hs hp hx hl hdc hj he sat ht hd hn
    refine ⟨fun hr => ?_, fun i hi => ?_⟩
    · have := fin hs hp hx hl hr
      subst this
      exact hn _ st a w sat ht hd he
    · obtain ⟨h1, h2, h3⟩ := (rdy hs).mp hi
      have hm := (hl i h1).mp h2
      obtain ⟨l1, l2, rfl⟩ := List.append_of_mem hm
      rw [List.pairwise_append] at hp
      obtain ⟨p1, p2, p3⟩ := hp
      rw [List.pairwise_cons] at p2
      have hio : ops[i]? = some ops[i] := Array.getElem?_eq_getElem h1
      have hin : nth ops.toList i = some ops[i] := by rw [nth_eq, Array.getElem?_toList, hio]
      have hne1 : i ∉ l1 := fun q => (p3 i q i (by simp)).1 rfl
      have hne2 : i ∉ l2 := fun q => (p2.1 i q).1 rfl
      have hfr := frontL hin l2 l1 done st (fun x hx' => by
        have hp := p3 x hx' i (by simp)
        have hnr : ∀ n, reaches ops.toList n x i = true → False := by
          intro n hr
          have hlx := reaches_sound hdc n hr h3
          have := (hl x (hx x (by simp [hx'])).1).mpr (by simp [hx'])
          rw [hlx] at this; cases this
        refine ⟨hp.1, ?_, ?_⟩
        · cases hq : reachB ops.toList x i with
          | false => rfl
          | true =>
            simp only [reachB, Bool.or_eq_true] at hq
            rcases hq with (hq | hq) | hq <;> exact absurd hq (fun z => hnr _ z)
        · rcases hp.2.2 with ⟨a', b', ha, hb, hok⟩ | ⟨n, hr⟩
          · rw [hin] at hb; cases hb; exact ⟨a', ha, hok⟩
          · exact (hnr n hr).elim) he
      rw [evOpsL_cons hin] at hfr
      obtain ⟨⟨fp, v, h'⟩, hv, hfr⟩ := bind_inv hfr
      obtain ⟨_, hfr⟩ := cond_inv hfr
      have hji := hj i (by simp)
      simp only [slotsOf, hin] at hji
      refine effL_step hT hF hio sat ht hji hv (fun ι' a' w' s' ht' hd' hsame => ?_)
      have hsz : i < listed.size := by omega
      refine ih (l1 ++ l2) (listed.setIfInBounds i true) (st := ⟨St.put st.t ops[i].dst v, h'⟩) (by simp at hf ⊢; omega) (by simpa using hs) ?_ ?_ ?_ ?_ ?_ hfr s' ht' (by rw [hd', hd]) hn
      · rw [List.pairwise_append]
        exact ⟨p1, p2.2, fun x hx y hy => p3 x hx y (by simp [hy])⟩
      · intro x hx'
        refine hx x ?_
        simp only [List.mem_append, List.mem_cons] at hx' ⊢
        rcases hx' with q | q
        · exact .inl q
        · exact .inr (.inr q)
      · intro k hk
        by_cases e : k = i
        · subst e
          rw [Array.getElem?_setIfInBounds_self_of_lt hsz]
          simp [hne1, hne2]
        · rw [Array.getElem?_setIfInBounds_ne (Ne.symm e), hl k hk]
          simp [e]
      · intro y hy j hjy
        have up : ∀ {k : Nat}, listed[k]? = some true → (listed.setIfInBounds i true)[k]? = some true := by
          intro k hk
          by_cases e : k = i
          · subst e; rw [Array.getElem?_setIfInBounds_self_of_lt hsz]
          · rw [Array.getElem?_setIfInBounds_ne (Ne.symm e)]; exact hk
        by_cases e : y = i
        · subst e; exact up (h3 j hjy)
        · rw [Array.getElem?_setIfInBounds_ne (Ne.symm e)] at hy
          exact up (hdc y hy j hjy)
      · intro x hx' p hp'
        have hxr : x ∈ l1 ++ i :: l2 := by
          simp only [List.mem_append, List.mem_cons] at hx' ⊢
          rcases hx' with q | q
          · exact .inl q
          · exact .inr (.inr q)
        obtain ⟨q1, q2⟩ := hj x hxr p hp'
        refine ⟨q1, ?_⟩
        rw [hsame p ?_]; exact q2
        have hxs := (hx x hxr).1
        have hxo : nth ops.toList x = some ops[x] := by rw [nth_eq, Array.getElem?_toList, Array.getElem?_eq_getElem hxs]
        simp only [slotsOf, hxo] at hp'
        refine slots_disj (fun e => ?_) hxo hin p hp'
        subst e
        simp only [List.mem_append] at hx'
        exact hx'.elim hne1 hne2

def drawOrd (F : FuncId → Option Sum) (ops : List Oper) : List Nat := orderGo F ops ops.length (rangeN 0 ops.length) []

/-- Without the places that nothing lies in. -/
def packed (n0 : Nat) (K : Kont) (_e : Ex) (st : St) : Option Out := bif gcOk n0 st.t st.h then K .normal ⟨(gc n0 st.t st.h).1, (gc n0 st.t st.h).2⟩ else none

def evDrawL (T : Types) (F : FuncId → Option Sum) (ops : List Oper) (ix : List Nat) (st : St) (K : Kont) : Option Out :=
  evOpsL T F ops st.h.length ix [] ⟨st.t, st.h ++ List.replicate (offs ops ops.length) .dead⟩ (packed st.h.length K)

def evDraw (T : Types) (F : FuncId → Option Sum) (ops : List Oper) (st : St) (K : Kont) : Option Out :=
  bif goodOrder F ops (drawOrd F ops) then evOpsD T F ops (opersAt ops (drawOrd F ops)) st K
  else bif goodOrderL ops (drawOrd F ops) then evDrawL T F ops (drawOrd F ops) st K else none

theorem evDraw_ok (hT : TOk P T) (hF : FOk P F) (hm : P.follows .mixedOrders = true) : DrawOk P (evDraw T F) := by
  intro ops w0 R0 Y ι0 ι st K out a w Q id he s ht hd hn
  unfold evDraw at he
  cases hg0 : goodOrder F ops.toList (drawOrd F ops.toList) with
  | true =>
    rw [hg0] at he
    refine evDrawS_ok hT hF hm ops w0 R0 Y ι0 ι st K out a w Q id ?_ s ht hd hn
    unfold evDrawS
    unfold drawOrd at hg0 he
    rw [hg0]; exact he
  | false =>
    rw [hg0] at he
    simp only [cond_false] at he
    obtain ⟨hg, he⟩ := cond_inv he
    simp only [goodOrderL, Bool.and_eq_true] at hg
    obtain ⟨k1, k2⟩ := okOrderL_sound hg.1
    have hc := covers_sound hg.2
    generalize hix : drawOrd F ops.toList = ix at *
    have hlen : ix.length ≤ ops.size := by
      have hnd : ix.Nodup := k1.imp (fun h => h.1)
      have hsub : ix ⊆ List.range ops.size := fun x hx => List.mem_range.mpr (by simpa using (k2 x hx).1)
      simpa using hnd.length_le_of_subset hsub
    refine wp_region_any hm ?_
    unfold evDrawL at he
    have s1 := (s.same (w' := { w with drawn := w.drawn + 1 }) rfl rfl rfl rfl).junks (offs ops.toList ops.toList.length)
    refine any_soundL hT hF ops st.h.length ops.size ix _ hlen (by simp) k1 (by simpa using k2) ?_ ?_ ?_ he s1 (ht.ext (Ext.app _ _)) hd ?_
    · intro i hi
      simp only [Array.getElem?_replicate, hi, if_true, true_iff]
      exact hc i (by simpa using hi)
    · intro y hy
      simp only [Array.getElem?_replicate] at hy
      split at hy <;> simp at hy
    · intro x hx p hp
      have hxs := (k2 x hx).1
      have hxo : nth ops.toList x = some ops.toList[x] := by rw [nth_eq, List.getElem?_eq_getElem hxs]
      simp only [slotsOf, hxo, mem_rangeN] at hp
      have hle := offs_lt (ops := ops.toList) hxs hxo
      have hl0 : ι0.length ≤ ι.length := by obtain ⟨r, rfl⟩ := s.pre; simp
      have hl1 := s.len
      refine ⟨by omega, ?_⟩
      rw [List.getElem?_append_right (by omega), List.getElem?_replicate, if_pos (by omega)]
    · intro ι' st' a' w' s' ht' hd' hK
      unfold packed at hK
      obtain ⟨hgc, hK⟩ := cond_inv hK
      obtain ⟨ι2, s2, ht2⟩ := s'.gc (n0 := st.h.length) (by rw [← s.len]; obtain ⟨r, rfl⟩ := s.pre; simp) hgc ht'
      exact hn ι2 ⟨(gc st.h.length st'.t st'.h).1, (gc st.h.length st'.t st'.h).2⟩ a' w' s2 ht2 hd' hK

end
end Go.Ev

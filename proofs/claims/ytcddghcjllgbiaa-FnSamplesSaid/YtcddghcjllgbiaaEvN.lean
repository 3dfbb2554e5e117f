/-
  Renaming of blocks; calls.
-/
import Derived.Test.YtcddghcjllgbiaaEvM
namespace Go.Ev
open Go.RowKit

/-! ### Lists of numbers -/

theorem hasN_iff {l : List Nat} {x : Nat} : hasN l x = true ↔ x ∈ l := by
  induction l with
  | nil => simp [hasN]
  | cons a r ih =>
    simp only [hasN, Bool.or_eq_true, beq_iff_eq, List.mem_cons, ih]
    exact ⟨fun h => h.imp Eq.symm id, fun h => h.imp Eq.symm id⟩

theorem subN_iff {a b : List Nat} : subN a b = true ↔ ∀ x ∈ a, x ∈ b := by
  induction a with
  | nil => simp [subN]
  | cons x r ih => simp [subN, ih, hasN_iff]

theorem belowN_iff {a : List Nat} {n : Nat} : belowN a n = true ↔ ∀ x ∈ a, x < n := by
  induction a with
  | nil => simp [belowN]
  | cons x r ih => simp [belowN, ih, Nat.blt_eq]

theorem noDup_get {l : List Nat} (h : noDup l = true) : ∀ {i j x : Nat}, l[i]? = some x → l[j]? = some x → i = j := by
  induction l with
  | nil => intro i j x hi; simp at hi
  | cons a r ih =>
    simp only [noDup, Bool.and_eq_true, Bool.not_eq_true'] at h
    have hna : a ∉ r := fun q => by have := hasN_iff.2 q; rw [h.1] at this; cases this
    intro i j x hi hj
    cases i <;> cases j
    · rfl
    · simp at hi hj; subst hi; exact absurd (List.mem_of_getElem? hj) hna
    · simp at hi hj; subst hj; exact absurd (List.mem_of_getElem? hi) hna
    · simp at hi hj; exact congrArg _ (ih h.2 hi hj)

theorem indexOf_get {l : List Nat} {x : Nat} (h : x ∈ l) : l[indexOf l x]? = some x := by
  induction l with
  | nil => cases h
  | cons a r ih =>
    simp only [indexOf]
    cases e : a == x with
    | true => simp at e; simp [e]
    | false =>
      simp at e
      rcases List.mem_cons.1 h with q | q
      · exact absurd q.symm e
      · simpa using ih q

theorem getN_get {l : List Nat} {i x : Nat} (h : l[i]? = some x) : getN l i = x := by
  induction l generalizing i with
  | nil => simp at h
  | cons a r ih => cases i with
    | zero => simpa [getN] using h
    | succ i => simpa [getN] using ih (by simpa using h)

theorem idsAt_mem {h : List Blk} {ids : List Nat} {id x : Nat} {b : Blk} (hid : id ∈ ids) (hb : h[id]? = some b) (hx : x ∈ b.ids) : x ∈ idsAt h ids := by
  induction ids with
  | nil => cases hid
  | cons a r ih =>
    simp only [idsAt, List.mem_append]
    rcases List.mem_cons.1 hid with rfl | q
    · left; simp only [blkIdsAt, nth_eq, hb]; exact hx
    · exact .inr (ih q)

/-! ### Renaming -/

mutual
theorem AVR.ren {ι1 ι2 : List Value} {m : Nat → Nat} : ∀ {v : AV} {u : Value}, (∀ id ∈ v.ids, ∀ u, ι1[id]? = some u → ι2[m id]? = some u) → AVR ι1 v u → AVR ι2 (v.ren m) u
  | v, u, hm, h => by
    cases h with
    | any => exact .any _
    | bool => exact .bool _
    | int => exact .int _ _
    | flt => exact .flt _ _
    | cpx => exact .cpx _ _ _
    | str => exact .str _
    | val => exact .val _
    | ptr id off b h => exact .ptr _ _ _ (hm _ (by simp [AV.ids]) _ h)
    | elt id i size off b o n c h => exact .elt _ _ _ _ _ _ _ _ (hm _ (by simp [AV.ids]) _ h)
    | whole id a n c h => exact .whole _ _ _ _ (hm _ (by simp [AV.ids]) _ h)
    | sub id lo len size a a' n c c' h h1 h2 h3 h4 => exact .sub _ _ _ _ a a' n c c' (hm _ (by simp [AV.ids]) _ h) h1 h2 h3 h4
    | nocap a => exact .nocap a
    | fn f as cs us vs h1 h2 => exact .fn _ _ _ _ _ (AVRs.ren (fun id q => hm id (by simp [AV.ids, q])) h1) (AVRs.ren (fun id q => hm id (by simp [AV.ids, q])) h2)
    | agg cs us h => exact .agg _ _ (AVRs.ren (fun id q => hm id (by simpa [AV.ids] using q)) h)
    | tup cs us h => exact .tup _ _ (AVRs.ren (fun id q => hm id (by simpa [AV.ids] using q)) h)
theorem AVRs.ren {ι1 ι2 : List Value} {m : Nat → Nat} : ∀ {v : List AV} {u : List Value}, (∀ id ∈ idsL v, ∀ u, ι1[id]? = some u → ι2[m id]? = some u) → AVRs ι1 v u → AVRs ι2 (renL m v) u
  | v, u, hm, h => by
    cases h with
    | nil => exact .nil
    | cons x u r s h1 h2 => exact .cons _ _ _ _ (AVR.ren (fun id q => hm id (by simp [idsL, q])) h1) (AVRs.ren (fun id q => hm id (by simp [idsL, q])) h2)
end

mutual
theorem ren_ren {f g : Nat → Nat} : ∀ (v : AV), (∀ id ∈ v.ids, g (f id) = id) → (v.ren f).ren g = v
  | .any, _ => rfl
  | .bool _, _ => rfl
  | .int _ _, _ => rfl
  | .nocap, _ => rfl
  | .flt _ _, _ => rfl
  | .cpx _ _ _, _ => rfl
  | .str _, _ => rfl
  | .val _, _ => rfl
  | .ptr id off, h => by simp [AV.ren, h id (by simp [AV.ids])]
  | .elt id i s o, h => by simp [AV.ren, h id (by simp [AV.ids])]
  | .whole id, h => by simp [AV.ren, h id (by simp [AV.ids])]
  | .sub id a b c, h => by simp [AV.ren, h id (by simp [AV.ids])]
  | .fn F a b, h => by simp only [AV.ren]; rw [renL_renL a (fun id q => h id (by simp [AV.ids, q])), renL_renL b (fun id q => h id (by simp [AV.ids, q]))]
  | .agg cs, h => by simp only [AV.ren]; rw [renL_renL cs (fun id q => h id (by simpa [AV.ids] using q))]
  | .tup cs, h => by simp only [AV.ren]; rw [renL_renL cs (fun id q => h id (by simpa [AV.ids] using q))]
theorem renL_renL {f g : Nat → Nat} : ∀ (l : List AV), (∀ id ∈ idsL l, g (f id) = id) → renL g (renL f l) = l
  | [], _ => rfl
  | x :: r, h => by simp only [renL]; rw [ren_ren x (fun id q => h id (by simp [idsL, q])), renL_renL r (fun id q => h id (by simp [idsL, q]))]
end

theorem Blk.ren_ren {f g : Nat → Nat} (b : Blk) (h : ∀ id ∈ b.ids, g (f id) = id) : (b.ren f).ren g = b := by
  cases b with
  | dead => rfl
  | cells t cs => simp only [Blk.ren]; rw [renL_renL cs (by simpa [Blk.ids] using h)]
  | vec => rfl

theorem Blk.rw_ren (b : Blk) (m : Nat → Nat) : (b.ren m).rw = b.rw := by cases b <;> rfl

theorem BR.ren {w : World} {A : Nat → Prop} {ι1 ι2 : List Value} {m : Nat → Nat} {u : Value} {b : Blk} (h : BR w A ι1 u b) (hm : ∀ id ∈ b.ids, ∀ u, ι1[id]? = some u → ι2[m id]? = some u) : BR w A ι2 u (b.ren m) := by
  cases b with
  | dead => trivial
  | cells t cs =>
    obtain ⟨g, arr, rfl, hb, hv⟩ := h
    exact ⟨g, arr, rfl, hb, hv.ren (by simpa [Blk.ids] using hm)⟩
  | vec rw e τ xs => cases rw <;> exact h

theorem pickBlks_get (h : List Blk) (m : Nat → Nat) (ids : List Nat) (i : Nat) : (pickBlks h m ids)[i]? = (ids[i]?).map fun id => match h[id]? with | some b => b.ren m | none => .dead := by
  induction ids generalizing i with
  | nil => simp [pickBlks]
  | cons a r ih => cases i with
    | zero => simp [pickBlks, nth_eq]; cases h[a]? <;> rfl
    | succ i => simpa [pickBlks] using ih i

theorem pickBlks_length (h : List Blk) (m : Nat → Nat) (ids : List Nat) : (pickBlks h m ids).length = ids.length := by
  induction ids with
  | nil => rfl
  | cons a r ih => simp [pickBlks, ih]

theorem renBlks_eq (m : Nat → Nat) (l : List Blk) : renBlks m l = l.map (·.ren m) := by
  induction l with
  | nil => rfl
  | cons a r ih => simp [renBlks, ih]

/-- The caller's blocks behind a call. -/
theorem putBack_spec (m : Nat → Nat) : ∀ (ids : List Nat) (bs h : List Blk), noDup ids = true → (∀ x ∈ ids, x < h.length) → ids.length ≤ bs.length →
    (putBack m ids bs h).length = h.length + (bs.length - ids.length) ∧
    (∀ (i id : Nat), ids[i]? = some id → (putBack m ids bs h)[id]? = (bs[i]?).map (·.ren m)) ∧
    (∀ j, j < h.length → j ∉ ids → (putBack m ids bs h)[j]? = h[j]?) ∧
    (∀ q, (putBack m ids bs h)[h.length + q]? = (bs[ids.length + q]?).map (·.ren m)) := by
  intro ids
  induction ids with
  | nil =>
    intro bs h _ _ _
    refine ⟨by simp [putBack, renBlks_eq], fun i id hi => by simp at hi, fun j hj _ => ?_, fun q => ?_⟩
    · simp only [putBack]; rw [List.getElem?_append_left hj]
    · simp only [putBack, renBlks_eq]; rw [List.getElem?_append_right (by omega)]; simp
  | cons a r ih =>
    intro bs h hn hb hl
    cases bs with
    | nil => simp at hl
    | cons b bs =>
      simp only [noDup, Bool.and_eq_true, Bool.not_eq_true'] at hn
      have hna : a ∉ r := fun q => by have := hasN_iff.2 q; rw [hn.1] at this; cases this
      have ha : a < h.length := hb a (by simp)
      have hle : (setNth h a (b.ren m)).length = h.length := by rw [setNth_eq]; simp
      obtain ⟨g1, g2, g3, g4⟩ := ih bs (setNth h a (b.ren m)) hn.2 (fun x hx => by rw [hle]; exact hb x (by simp [hx])) (by simpa using hl)
      rw [hle] at g1 g3 g4
      refine ⟨by simp only [putBack]; rw [g1]; simp, fun i id hi => ?_, fun j hj hjn => ?_, fun q => ?_⟩
      · cases i with
        | zero =>
          simp at hi; subst hi
          simp only [putBack]
          rw [g3 a ha hna, setNth_eq, List.getElem?_set_self ha]; simp
        | succ i => simpa [putBack] using g2 i id (by simpa using hi)
      · simp only [putBack]
        rw [g3 j hj (fun q => hjn (by simp [q])), setNth_eq, List.getElem?_set_ne (fun e => hjn (by simp [e]))]
      · simp only [putBack]
        rw [g4 q]
        congr 1
        rw [show (a :: r).length + q = r.length + q + 1 from by simp; omega]; rfl

/-! ### A callee's state out of the caller's -/

section
variable {w0 w : World} {R0 Y : Nat → Prop} {ι0 ι : List Value} {h : List Blk}

/-- The addresses of some blocks. -/
def pickι (ι : List Value) (ids : List Nat) : List Value := ids.map fun id => (ι[id]?).getD undef

theorem pickι_get {ids : List Nat} (hb : ∀ x ∈ ids, x < ι.length) {i id : Nat} (hi : ids[i]? = some id) : (pickι ι ids)[i]? = ι[id]? := by
  have hlt := hb id (List.mem_of_getElem? hi)
  simp only [pickι, List.getElem?_map, hi, Option.map_some]
  rw [List.getElem?_eq_getElem hlt]; rfl

structure Sub (h : List Blk) (ids : List Nat) : Prop where
  closed : ∀ id ∈ ids, ∀ b, h[id]? = some b → ∀ x ∈ b.ids, x ∈ ids
  nodup : noDup ids = true
  below : ∀ x ∈ ids, x < h.length

theorem okIds_sub {vs : List AV} {ids : List Nat} (hok : okIds h vs ids = true) : Sub h ids ∧ ∀ x ∈ idsL vs, x ∈ ids := by
  simp only [okIds, Bool.and_eq_true] at hok
  obtain ⟨⟨⟨h1, h2⟩, h3⟩, h4⟩ := hok
  exact ⟨⟨fun id hid b hb x hx => subN_iff.1 h2 x (idsAt_mem hid hb hx), h3, belowN_iff.1 h4⟩, subN_iff.1 h1⟩

theorem sub_RW (s : Sat w0 R0 Y ι0 ι h w) {ids : List Nat} (hs : Sub h ids) (m : Nat → Nat) {k : Nat} (hk : RW (pickι ι ids) (pickBlks h m ids) k) :
    ∃ id b u, id ∈ ids ∧ h[id]? = some b ∧ b.rw = true ∧ ι[id]? = some u ∧ vblock u = some k := by
  obtain ⟨i, b, u, h1, h2, h3, h4⟩ := hk
  rw [pickBlks_get] at h1
  cases hi : ids[i]? with
  | none => rw [hi] at h1; cases h1
  | some id =>
    rw [hi] at h1
    have hm := List.mem_of_getElem? hi
    rw [pickι_get (fun x hx => by rw [s.len]; exact hs.below x hx) hi] at h3
    simp only [Option.map_some, Option.some.injEq] at h1
    cases hb : h[id]? with
    | none => rw [hb] at h1; subst h1; simp [Blk.rw] at h2
    | some b' =>
      rw [hb] at h1; subst h1
      rw [Blk.rw_ren] at h2
      exact ⟨id, b', u, hm, hb, h2, h3, h4⟩

theorem sub_RW' (s : Sat w0 R0 Y ι0 ι h w) {ids : List Nat} (hs : Sub h ids) (m : Nat → Nat) {k id : Nat} {b : Blk} {u : Value} (hid : id ∈ ids) (hb : h[id]? = some b) (hr : b.rw = true) (hu : ι[id]? = some u) (hk : vblock u = some k) :
    RW (pickι ι ids) (pickBlks h m ids) k := by
  obtain ⟨i, hi, rfl⟩ := List.mem_iff_getElem.1 hid
  have hi' : ids[i]? = some ids[i] := List.getElem?_eq_getElem hi
  refine ⟨i, b.ren m, u, ?_, by rw [Blk.rw_ren]; exact hr, ?_, hk⟩
  · rw [pickBlks_get, hi']; simp [hb]
  · rw [pickι_get (fun x hx => by rw [s.len]; exact hs.below x hx) hi']; exact hu

/-- What the callee must not touch. -/
def Yc (Y : Nat → Prop) (ι : List Value) (h : List Blk) (ids : List Nat) (m : Nat → Nat) (k : Nat) : Prop := (Y k ∨ RW ι h k) ∧ ¬ RW (pickι ι ids) (pickBlks h m ids) k

theorem Sat.callee (s : Sat w0 R0 Y ι0 ι h w) {ids : List Nat} (hs : Sub h ids) :
    Sat w (RW (pickι ι ids) (pickBlks h (indexOf ids) ids)) (Yc Y ι h ids (indexOf ids)) (pickι ι ids) (pickι ι ids) (pickBlks h (indexOf ids) ids) w := by
  have hb : ∀ x ∈ ids, x < ι.length := fun x hx => by rw [s.len]; exact hs.below x hx
  refine ⟨by simp [pickι, pickBlks_length], ⟨[], by simp⟩, ?_, ?_, fun k hk => ⟨.inl hk, fun q => q.2 hk⟩, fun _ _ _ => rfl, Nat.le_refl _, rfl, rfl, rfl, ?_⟩
  · intro i b u h1 h2
    rw [pickBlks_get] at h1
    cases hi : ids[i]? with
    | none => rw [hi] at h1; cases h1
    | some id =>
      rw [hi] at h1
      have hm := List.mem_of_getElem? hi
      rw [pickι_get hb hi] at h2
      simp only [Option.map_some, Option.some.injEq] at h1
      cases hbl : h[id]? with
      | none => rw [hbl] at h1; subst h1; trivial
      | some b' =>
        rw [hbl] at h1; subst h1
        refine BR.ren (BR.step (s.br id b' u hbl h2) (fun k _ hk => ⟨fun q => hk ?_, rfl⟩) (fun _ _ _ => rfl) (Ext.refl _)) ?_
        · rcases q with q | q
          · exact q.1
          · obtain ⟨j, c, v, _, g2, g3, g4, g5⟩ := sub_RW s hs _ q
            exact .inr ⟨j, c, v, g2, g3, g4, g5⟩
        · intro x hx v hv
          have hxm := hs.closed id hm b' hbl x hx
          rw [pickι_get hb (indexOf_get hxm)]; exact hv
  · intro i j b c u v k h1 h2 r1 r2 h3 h4 v1 v2
    rw [pickBlks_get] at h1 h2
    cases hi : ids[i]? with
    | none => rw [hi] at h1; cases h1
    | some id =>
      cases hj : ids[j]? with
      | none => rw [hj] at h2; cases h2
      | some jd =>
        rw [hi] at h1; rw [hj] at h2
        rw [pickι_get hb hi] at h3
        rw [pickι_get hb hj] at h4
        simp only [Option.map_some, Option.some.injEq] at h1 h2
        cases g1 : h[id]? with
        | none => rw [g1] at h1; subst h1; simp [Blk.rw] at r1
        | some b' =>
          cases g2 : h[jd]? with
          | none => rw [g2] at h2; subst h2; simp [Blk.rw] at r2
          | some c' =>
            rw [g1] at h1; rw [g2] at h2; subst h1; subst h2
            rw [Blk.rw_ren] at r1 r2
            have := s.ne _ _ _ _ _ _ k g1 g2 r1 r2 h3 h4 v1 v2
            subst this
            exact noDup_get hs.nodup hi hj
  · intro k hk
    rcases hk.1 with q | q
    · exact Nat.lt_of_lt_of_le (s.ylow k q) s.size
    · exact s.rw_lt q

/-- Behind the call: the caller's state. -/
theorem Sat.back (s : Sat w0 R0 Y ι0 ι h w) {ids : List Nat} (hs : Sub h ids) {r : List Value} {hc : List Blk} {w' : World} (hge : ids.length ≤ hc.length)
    (sc : Sat w (RW (pickι ι ids) (pickBlks h (indexOf ids) ids)) (Yc Y ι h ids (indexOf ids)) (pickι ι ids) (pickι ι ids ++ r) hc w') :
    Sat w0 R0 Y ι0 (ι ++ r) (putBack (backN ids h.length) ids hc h) w' ∧
    (∀ (i : Nat) (u : Value), (pickι ι ids ++ r)[i]? = some u → (ι ++ r)[backN ids h.length i]? = some u) := by
  have hb : ∀ x ∈ ids, x < ι.length := fun x hx => by rw [s.len]; exact hs.below x hx
  obtain ⟨p1, p2, p3, p4⟩ := putBack_spec (backN ids h.length) ids hc h hs.nodup hs.below hge
  have hlr : r.length = hc.length - ids.length := by
    have := sc.len; simp [pickι] at this; omega
  -- numbers back
  have hback : ∀ (i : Nat) (u : Value), (pickι ι ids ++ r)[i]? = some u → (ι ++ r)[backN ids h.length i]? = some u := by
    intro i u hi
    unfold backN
    cases hq : Nat.blt i ids.length with
    | true =>
      have hlt : i < ids.length := by simpa [Nat.blt_eq] using hq
      have hg : ids[i]? = some ids[i] := List.getElem?_eq_getElem hlt
      rw [List.getElem?_append_left (by simpa [pickι] using hlt), pickι_get hb hg] at hi
      simp only [cond_true, getN_get hg]
      exact Ext.app ι r _ _ hi
    | false =>
      have hge' : ids.length ≤ i := by
        rcases Nat.lt_or_ge i ids.length with q | q
        · have : Nat.blt i ids.length = true := by simpa [Nat.blt_eq] using q
          rw [hq] at this; cases this
        · exact q
      rw [List.getElem?_append_right (by simpa [pickι] using hge')] at hi
      simp only [cond_false]
      rw [List.getElem?_append_right (by rw [s.len]; omega), ← hi]
      congr 1; simp [pickι]; rw [s.len]; omega
  -- each of the caller's numbers is one of three
  have cls : ∀ (j : Nat) (b : Blk) (u : Value), (putBack (backN ids h.length) ids hc h)[j]? = some b → (ι ++ r)[j]? = some u →
      (j ∉ ids ∧ h[j]? = some b ∧ ι[j]? = some u) ∨ (∃ i c, hc[i]? = some c ∧ b = c.ren (backN ids h.length) ∧ (pickι ι ids ++ r)[i]? = some u ∧ j = backN ids h.length i) := by
    intro j b u hj hu
    rcases Nat.lt_or_ge j h.length with q | q
    · by_cases hm : j ∈ ids
      · have hg := indexOf_get hm
        have hlt := get_lt hg
        rw [p2 _ _ hg] at hj
        rw [List.getElem?_append_left (by rw [s.len]; exact q)] at hu
        cases hcc : hc[indexOf ids j]? with
        | none => rw [hcc] at hj; cases hj
        | some c =>
          rw [hcc] at hj
          simp only [Option.map_some, Option.some.injEq] at hj
          refine .inr ⟨indexOf ids j, c, hcc, hj.symm, ?_, ?_⟩
          · rw [List.getElem?_append_left (by simpa [pickι] using hlt), pickι_get hb hg]; exact hu
          · unfold backN
            rw [show Nat.blt (indexOf ids j) ids.length = true from by simpa [Nat.blt_eq] using hlt]
            simp [getN_get hg]
      · rw [p3 j q hm] at hj
        rw [List.getElem?_append_left (by rw [s.len]; exact q)] at hu
        exact .inl ⟨hm, hj, hu⟩
    · obtain ⟨d, rfl⟩ := Nat.exists_eq_add_of_le q
      rw [p4] at hj
      cases hcc : hc[ids.length + d]? with
      | none => rw [hcc] at hj; cases hj
      | some c =>
        rw [hcc] at hj
        simp only [Option.map_some, Option.some.injEq] at hj
        refine .inr ⟨ids.length + d, c, hcc, hj.symm, ?_, ?_⟩
        · rw [List.getElem?_append_right (by simp [pickι])]
          rw [List.getElem?_append_right (by rw [s.len]; omega)] at hu
          rw [← hu]; congr 1; simp [pickι]; rw [s.len]; omega
        · unfold backN
          rw [show Nat.blt (ids.length + d) ids.length = false from by
            cases e : Nat.blt (ids.length + d) ids.length with
            | false => rfl
            | true => rw [Nat.blt_eq] at e; omega]
          simp
  have hRW : ∀ k, RW (ι ++ r) (putBack (backN ids h.length) ids hc h) k →
      (∃ j b u, j ∉ ids ∧ h[j]? = some b ∧ b.rw = true ∧ ι[j]? = some u ∧ vblock u = some k) ∨ RW (pickι ι ids ++ r) hc k := by
    rintro k ⟨j, b, u, h1, h2, h3, h4⟩
    rcases cls j b u h1 h3 with ⟨g1, g2, g3⟩ | ⟨i, c, g1, g2, g3, _⟩
    · exact .inl ⟨j, b, u, g1, g2, h2, g3, h4⟩
    · subst g2; rw [Blk.rw_ren] at h2
      exact .inr ⟨i, c, u, g1, h2, g3, h4⟩
  -- a block of one that isn't handed over isn't the callee's
  have hout : ∀ {j : Nat} {b : Blk} {u : Value} {k : Nat}, j ∉ ids → h[j]? = some b → b.rw = true → ι[j]? = some u → vblock u = some k → ¬ RW (pickι ι ids) (pickBlks h (indexOf ids) ids) k := by
    intro j b u k hj hb' hr hu hk hq
    obtain ⟨id, c, v, g1, g2, g3, g4, g5⟩ := sub_RW s hs _ hq
    exact hj (by rw [s.ne _ _ _ _ _ _ k hb' g2 hr g3 hu g4 hk g5]; exact g1)
  have hYc : ∀ {j : Nat} {b : Blk} {u : Value} {k : Nat}, j ∉ ids → h[j]? = some b → b.rw = true → ι[j]? = some u → vblock u = some k → Yc Y ι h ids (indexOf ids) k :=
    fun hj hb' hr hu hk => ⟨.inr ⟨_, _, _, hb', hr, hu, hk⟩, hout hj hb' hr hu hk⟩
  have hA : ∀ k, (Y k ∨ RW (ι ++ r) (putBack (backN ids h.length) ids hc h) k) → (Yc Y ι h ids (indexOf ids) k ∨ RW (pickι ι ids ++ r) hc k) := by
    rintro k (q | q)
    · left
      refine ⟨.inl q, fun hq => ?_⟩
      obtain ⟨id, c, v, g1, g2, g3, g4, g5⟩ := sub_RW s hs _ hq
      exact (s.old k ⟨id, c, v, g2, g3, g4, g5⟩).2 q
    · rcases hRW k q with ⟨j, b, u, g1, g2, g3, g4, g5⟩ | g
      · exact .inl (hYc g1 g2 g3 g4 g5)
      · exact .inr g
  -- the callee turned nothing else
  have hsame : ∀ k, k < w.heap.size → ¬ RW (pickι ι ids) (pickBlks h (indexOf ids) ids) k → w'.heap[k]? = w.heap[k]? := fun k hk hn => sc.frame k hk hn
  have hheld : ∀ {k : Nat}, RW (pickι ι ids ++ r) hc k → RW (pickι ι ids) (pickBlks h (indexOf ids) ids) k ∨ w.heap.size ≤ k := fun hk => (sc.old _ hk).1
  refine ⟨⟨?_, ?_, ?_, ?_, ?_, ?_, Nat.le_trans s.size sc.size, sc.os.trans s.os, sc.tape.trans s.tape, sc.output.trans s.output, s.ylow⟩, hback⟩
  · rw [p1, List.length_append, s.len, hlr]
  · obtain ⟨r0, rfl⟩ := s.pre; exact ⟨r0 ++ r, by simp⟩
  · intro j b u h1 h2
    rcases cls j b u h1 h2 with ⟨g1, g2, g3⟩ | ⟨i, c, g1, g2, g3, _⟩
    · refine (s.br j b u g2 g3).step (fun k hk hn => ⟨fun q => hn ?_, hsame k hk (fun q => hn ?_)⟩) (fun hr k hk => ?_) (Ext.app _ _)
      · rcases hA k q with q | q
        · exact q.1
        · rcases hheld q with q | q
          · obtain ⟨id, c, v, e1, e2, e3, e4, e5⟩ := sub_RW s hs _ q
            exact .inr ⟨id, c, v, e2, e3, e4, e5⟩
          · omega
      · obtain ⟨id, c, v, e1, e2, e3, e4, e5⟩ := sub_RW s hs _ q
        exact .inr ⟨id, c, v, e2, e3, e4, e5⟩
      · exact hsame k ((s.br j b u g2 g3).lt hr hk) (hout g1 g2 hr g3 hk)
    · subst g2
      refine BR.ren (BR.step (sc.br i c u g1 g3) (fun k _ hn => ⟨fun q => hn (hA k q), rfl⟩) (fun _ _ _ => rfl) (Ext.refl _)) (fun x _ v hv => hback x v hv)
  · intro j1 j2 b1 b2 u1 u2 k h1 h2 r1 r2 h3 h4 v1 v2
    rcases cls j1 b1 u1 h1 h3 with ⟨g1, g2, g3⟩ | ⟨i1, c1, g1, g2, g3, g4⟩ <;> rcases cls j2 b2 u2 h2 h4 with ⟨e1, e2, e3⟩ | ⟨i2, c2, e1, e2, e3, e4⟩
    · exact s.ne _ _ _ _ _ _ k g2 e2 r1 r2 g3 e3 v1 v2
    · exfalso
      subst e2; rw [Blk.rw_ren] at r2
      have hq : RW (pickι ι ids ++ r) hc k := ⟨i2, c2, u2, e1, r2, e3, v2⟩
      rcases hheld hq with q | q
      · exact hout g1 g2 r1 g3 v1 q
      · have := (s.br _ _ _ g2 g3).lt r1 v1; omega
    · exfalso
      subst g2; rw [Blk.rw_ren] at r1
      have hq : RW (pickι ι ids ++ r) hc k := ⟨i1, c1, u1, g1, r1, g3, v1⟩
      rcases hheld hq with q | q
      · exact hout e1 e2 r2 e3 v2 q
      · have := (s.br _ _ _ e2 e3).lt r2 v2; omega
    · subst g2; subst e2
      rw [Blk.rw_ren] at r1 r2
      have := sc.ne _ _ _ _ _ _ k g1 e1 r1 r2 g3 e3 v1 v2
      subst this; rw [g4, e4]
  · intro k hk
    rcases hRW k hk with ⟨j, b, u, g1, g2, g3, g4, g5⟩ | g
    · exact s.old k ⟨j, b, u, g2, g3, g4, g5⟩
    · rcases hheld g with q | q
      · obtain ⟨id, c, v, e1, e2, e3, e4, e5⟩ := sub_RW s hs _ q
        exact s.old k ⟨id, c, v, e2, e3, e4, e5⟩
      · exact ⟨.inr (Nat.le_trans s.size q), fun hy => by have := s.ylow k hy; have := s.size; omega⟩
  · intro k hk hR
    rw [hsame k (Nat.lt_of_lt_of_le hk s.size) (fun q => ?_)]
    · exact s.frame k hk hR
    · obtain ⟨id, c, v, e1, e2, e3, e4, e5⟩ := sub_RW s hs _ q
      rcases (s.old k ⟨id, c, v, e2, e3, e4, e5⟩).1 with z | z
      · exact hR z
      · omega
end
end Go.Ev

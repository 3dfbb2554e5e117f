/-
  Built-in functions.
-/
import Derived.Test.YtcddghcjllgbiaaEvL
namespace Go.Ev
open Go.RowKit
set_option linter.unusedSimpArgs false

section
variable {P : Program} {T : Types} {w0 w : World} {R0 Y : Nat → Prop} {ι0 ι : List Value} {h : List Blk} {out : Out}

theorem lenOf_sound (hT : TOk P T) (s : Sat w0 R0 Y ι0 ι h w) {ty : TypeId} {v : AV} {u : Value} (hv : AVR ι v u) {n : Nat} (he : lenOf T ty h v = some n) (ty' : TypeId) :
    (Builtin.len_ #[ty] ty' #[u]).run P w = .ok (.int .i64 n) w := by
  unfold lenOf at he
  split at he
  · rename_i hti
    have hu := underlying_slice hT hti
    split at he
    · rename_i hb
      rw [nth_eq] at hb
      cases he
      obtain ⟨a, c, rfl, _⟩ := s.vec hb hv.whole_inv
      simp [Builtin.len_, run_underlying hu, goInt]
    · cases he
  · rename_i hti
    have hu := underlying_slice hT hti
    cases he; cases hv
    simp [Builtin.len_, run_underlying hu, goInt]
  · rename_i hti
    have hu := underlying_slice hT hti
    cases he; cases hv
    simp [Builtin.len_, run_underlying hu, goInt]
  · rename_i hti
    have hu := underlying_str hT hti
    cases he; cases hv
    simp [Builtin.len_, run_underlying hu, goInt]
  · cases he

/-- What a slice value reads as: the cells, group by group. -/
theorem vecOf_sound (s : Sat w0 R0 Y ι0 ι h w) {x : AV} {u : Value} (hx : AVR ι x u) {τ : Ty} {ys : List τ.den} (he : vecOf h x = some ⟨τ, ys⟩) :
    0 < τ.size ∧ ∃ a c, u = .slice a ys.length c ∧ ∃ cells : List Value, cells.length = ys.length * τ.size ∧
      (∀ i (_ : i < ys.length), DR w (fun k => Y k ∨ RW ι h k) τ ys[i] ((cells.drop (i * τ.size)).take τ.size)) ∧
      (ys.length ≠ 0 → ∃ b o, a = some ⟨b, o, none⟩ ∧ ∀ (j : Nat) (v : Value), cells[j]? = some v → w.cell? ⟨b, o + j, none⟩ = some v) := by
  -- from elements to one list of cells
  have glue : ∀ {τ : Ty} {xs : List τ.den} {b o : Nat}, (∀ i (_ : i < xs.length), ∃ l : List Value, l.length = τ.size ∧ (∀ (j : Nat) (v : Value), l[j]? = some v → w.cell? ⟨b, o + i * τ.size + j, none⟩ = some v) ∧ DR w (fun k => Y k ∨ RW ι h k) τ xs[i] l) →
      ∃ cells : List Value, cells.length = xs.length * τ.size ∧ (∀ i (_ : i < xs.length), DR w (fun k => Y k ∨ RW ι h k) τ xs[i] ((cells.drop (i * τ.size)).take τ.size)) ∧
        (∀ (j : Nat) (v : Value), cells[j]? = some v → w.cell? ⟨b, o + j, none⟩ = some v) := by
    intro τ xs
    induction xs with
    | nil => intro b o _; exact ⟨[], by simp, fun i hi => by simp at hi, fun j v hv => by simp at hv⟩
    | cons y r ih =>
      intro b o hl
      obtain ⟨l0, h1, h2, h3⟩ := hl 0 (by simp)
      obtain ⟨cells, g1, g2, g3⟩ := ih (b := b) (o := o + τ.size) (fun i hi => by
        obtain ⟨l, k1, k2, k3⟩ := hl (i + 1) (by simpa using hi)
        refine ⟨l, k1, fun j v hv => ?_, by simpa using k3⟩
        have := k2 j v hv
        rw [show o + τ.size + i * τ.size + j = o + (i + 1) * τ.size + j from by rw [Nat.add_mul]; omega]; exact this)
      refine ⟨l0 ++ cells, by simp [g1, h1, Nat.add_mul]; omega, fun i hi => ?_, fun j v hv => ?_⟩
      · cases i with
        | zero => rw [Nat.zero_mul, List.drop_zero, List.take_append_of_le_length (by omega), List.take_of_length_le (by omega)]; simpa using h3
        | succ i =>
          rw [show (i + 1) * τ.size = l0.length + i * τ.size from by rw [Nat.add_mul]; omega, ← List.drop_drop, List.drop_left]
          simpa using g2 i (by simpa using hi)
      · by_cases hj : j < l0.length
        · rw [List.getElem?_append_left hj] at hv
          have := h2 j v hv
          rw [show o + j = o + 0 * τ.size + j from by omega]; exact this
        · rw [List.getElem?_append_right (by omega)] at hv
          have := g3 _ v hv
          rw [show o + τ.size + (j - l0.length) = o + j from by omega] at this; exact this
  have empty : ∀ {τ : Ty} {xs : List τ.den}, xs.length = 0 → ∃ cells : List Value, cells.length = xs.length * τ.size ∧ (∀ i (_ : i < xs.length), DR w (fun k => Y k ∨ RW ι h k) τ xs[i] ((cells.drop (i * τ.size)).take τ.size)) :=
    fun hz => ⟨[], by simp [hz], fun i hi => by omega⟩
  unfold vecOf at he
  split at he
  · split at he
    · rename_i id _ rw' e τ0 xs hb
      rw [nth_eq] at hb
      obtain ⟨rfl, hys⟩ := Sigma.mk.inj (Option.some.inj he)
      obtain rfl := eq_of_heq hys
      obtain ⟨a, c, rfl, _, _, hpos, hne, _⟩ := s.vec hb hx.whole_inv
      refine ⟨hpos, a, c, rfl, ?_⟩
      by_cases hz : xs.length = 0
      · obtain ⟨cells, g1, g2⟩ := empty hz
        exact ⟨cells, g1, g2, fun q => absurd hz q⟩
      · obtain ⟨b, o, rfl⟩ := hne hz
        obtain ⟨cells, g1, g2, g3⟩ := glue (b := b) (o := o) (fun i hi => s.elem hb hx.whole_inv hi)
        exact ⟨cells, g1, g2, fun _ => ⟨b, o, rfl, g3⟩⟩
    · cases he
  · split at he
    · rename_i id lo len size _ rw' e τ0 xs hb
      rw [nth_eq] at hb
      cases hq : size == τ0.size with
      | false => rw [hq] at he; cases he
      | true =>
        rw [hq] at he
        simp only [beq_iff_eq] at hq
        subst hq
        simp only [cond_true] at he
        obtain ⟨rfl, hys⟩ := Sigma.mk.inj (Option.some.inj he)
        obtain rfl := eq_of_heq hys
        cases hx with | sub _ _ _ _ a a' m c c' hι q1 q2 q3 q4 => ?_
        obtain ⟨_, _, e1, _, _, hpos, hne, _⟩ := s.vec hb hι
        simp only [Value.slice.injEq] at e1
        obtain ⟨rfl, rfl, rfl⟩ := e1
        have hlen : ((xs.drop lo).take len).length = len := by simp; omega
        refine ⟨hpos, a', c', by rw [hlen], ?_⟩
        by_cases hz : len = 0
        · obtain ⟨cells, g1, g2⟩ := empty (hlen.trans hz)
          exact ⟨cells, g1, g2, fun q => absurd (hlen.trans hz) q⟩
        · obtain ⟨b, o, rfl, rfl⟩ := q4 hz
          obtain ⟨cells, g1, g2, g3⟩ := glue (τ := τ0) (xs := (xs.drop lo).take len) (b := b) (o := o + lo * τ0.size) (fun i hi => by
            have hi' : lo + i < xs.length := by omega
            obtain ⟨l, k1, k2, k3⟩ := s.elem hb hι hi'
            refine ⟨l, k1, fun j v hv => ?_, ?_⟩
            · have := k2 j v hv
              rw [show o + lo * τ0.size + i * τ0.size + j = o + (lo + i) * τ0.size + j from by rw [Nat.add_mul]; omega]; exact this
            · rw [List.getElem_take, List.getElem_drop]; exact k3)
          exact ⟨cells, g1, g2, fun _ => ⟨b, _, rfl, g3⟩⟩
    · cases he
  · cases he

theorem DR.one {A : Nat → Prop} {τ : Ty} {x : τ.den} {cs : List Value} (h : DR w A τ x cs) : ∀ v ∈ cs, v.oneCell' = true := by
  induction τ generalizing cs with
  | bool => cases h; simp [Value.oneCell']
  | int k => cases h; simp [Value.oneCell']
  | flt k => obtain ⟨b, rfl, _⟩ := h; simp [Value.oneCell']
  | cpx k => obtain ⟨a, b, rfl, _⟩ := h; simp [Value.oneCell']
  | str => cases h; simp [Value.oneCell']
  | slice σ ih => obtain ⟨a, c, rfl, _⟩ := h; simp [Value.oneCell']
  | unit => cases h; simp
  | pair a b iha ihb =>
    obtain ⟨l, r, rfl, h1, h2⟩ := h
    intro v hv
    rcases List.mem_append.1 hv with q | q
    · exact iha h1 v q
    · exact ihb h2 v q

theorem groups_one {A : Nat → Prop} {τ : Ty} {xs : List τ.den} {cells : List Value} (hpos : 0 < τ.size) (hl : cells.length = xs.length * τ.size) (hd : ∀ i (_ : i < xs.length), DR w A τ xs[i] ((cells.drop (i * τ.size)).take τ.size)) :
    ∀ v ∈ cells, v.oneCell' = true := by
  intro v hv
  obtain ⟨j, hj, rfl⟩ := List.mem_iff_getElem.1 hv
  have hi : j / τ.size < xs.length := by
    rw [Nat.div_lt_iff_lt_mul hpos]; omega
  refine (hd _ hi).one _ (List.mem_iff_getElem?.2 ⟨j % τ.size, ?_⟩)
  rw [List.getElem?_take_of_lt (Nat.mod_lt _ hpos), List.getElem?_drop, Nat.mul_comm, Nat.div_add_mod, List.getElem?_eq_getElem hj]

theorem room_spec {n b : Nat} (h : room n b = some ()) : n * b ≤ 140737488355328 ∧ n ≤ maxLen := by
  unfold room at h; split at h
  · rename_i g; exact ⟨g.1, by simp [maxLen]; omega⟩
  · cases h

theorem evAppend_sound (hT : TOk P T) (s : Sat w0 R0 Y ι0 ι h w) {ty : TypeId} {id : Nat} {x : AV} {v u : Value} (hv : AVR ι (.whole id) v) (hx : AVR ι x u) {K : AV → List Blk → Option Out} (he : evAppend T ty id x h K = some out) (ty' : TypeId) :
    Did P w0 R0 Y ι0 ι w (Builtin.append_ #[ty, ty] ty' #[v, u]) K out := by
  unfold evAppend at he
  split at he
  · rename_i e σ _ _ _ e' τ xs hti hb
    rw [nth_eq] at hb
    have hu := underlying_slice hT hti
    obtain ⟨_, ei', hei', hτ, hsz, hpos'⟩ := elem_facts hT hti
    split at he
    · rename_i ei τ' ys hei hvec
      rw [hei'] at hei; cases hei
      split at he
      · rename_i q; subst q
        cases hq : e == e' && decide (σ = τ') with
        | false => rw [hq] at he; cases he
        | true =>
          rw [hq] at he
          simp only [Bool.and_eq_true, beq_iff_eq, decide_eq_true_eq] at hq
          obtain ⟨rfl, rfl⟩ := hq
          simp only [cond_true] at he
          cases hr : room (xs.length + ys.length) ei'.bytes with
          | none => rw [hr] at he; cases he
          | some _ =>
            rw [hr] at he
            simp only [Option.bind_some] at he
            obtain ⟨hr1, hr2⟩ := room_spec hr
            obtain ⟨i, _, zv, hi, _, hs1, hb1, _, _, hzv, _, hzp⟩ := (hT.facts hei').ex
            have hι := hv.whole_inv
            obtain ⟨hpos, cells, ho, hd⟩ := s.br _ _ _ hb hι
            obtain ⟨_, a, c, rfl, news, hn1, hn2, hn3⟩ := vecOf_sound s hx hvec
            have hzs : zv.cells.size = σ.size := by
              obtain ⟨c0, ec, hd0⟩ := zPrefix_DR (w := w) (A := fun _ => False) σ (hzp σ hτ)
              rw [List.append_nil] at ec
              have := hd0.length; rw [← ec] at this; simpa using this
            have hone := groups_one hpos hn1 hn2
            have hid := get_lt hb
            -- what the machine does
            have key : ∃ v' w', (Builtin.append_ #[ty, ty] ty' #[v, .slice a ys.length c]).run P w = .ok v' w' ∧ w'.ownsRow 0 e σ.size v' (xs.length + ys.length) (cells ++ news) ∧ w.grownBy w' v.ownBlock ∧
                (∀ k, vblock v' = some k → vblock v = some k ∨ w.heap.size ≤ k) ∧ ∃ a' c', v' = .slice a' (xs.length + ys.length) c' := by
              by_cases hz : ys.length = 0 ∧ a = none
              · obtain ⟨hz, rfl⟩ := hz
                have hnews : news = [] := List.eq_nil_of_length_eq_zero (by rw [hn1, hz]; simp)
                subst hnews
                have hrun : (Builtin.append_ #[ty, ty] ty' #[v, .slice none ys.length c]).run P w = .ok v w := by
                  rw [hz]
                  rcases ho.2 with ⟨rfl, hn⟩ | ⟨g, cap, cur, rfl, _, _, hnc, _⟩
                  · simp [Builtin.append_, run_underlying hu, sizeOf, typeInfo, hi, Builtin.lenOf, Builtin.firstCells]
                  · simp [Builtin.append_, run_underlying hu, sizeOf, typeInfo, hi, Builtin.lenOf, Builtin.firstCells, hnc, storeCells]
                refine ⟨v, w, hrun, by rw [hz]; simpa using ho, ⟨rfl, rfl, rfl, Nat.le_refl _, fun _ _ _ => rfl⟩, fun k hk => .inl hk, ?_⟩
                obtain ⟨a, c, rfl, _⟩ := s.vec hb hι
                exact ⟨a, c, by rw [hz]; rfl⟩
              · have hax : ∃ b o, a = some ⟨b, o, none⟩ ∨ (ys.length = 0 ∧ ∃ ad, a = some ad) := by
                  by_cases hy : ys.length = 0
                  · cases a with
                    | none => exact absurd ⟨hy, rfl⟩ hz
                    | some ad => exact ⟨0, 0, .inr ⟨hy, ad, rfl⟩⟩
                  · obtain ⟨b, o, rfl, _⟩ := hn3 hy; exact ⟨b, o, .inl rfl⟩
                have had : ∃ ad, a = some ad ∧ ∀ (j : Nat) (u : Value), news[j]? = some u → w.cell? (ad.add j) = some u := by
                  by_cases hy : ys.length = 0
                  · obtain ⟨_, _, q⟩ := hax
                    have hnews : news = [] := List.eq_nil_of_length_eq_zero (by rw [hn1, hy]; simp)
                    subst hnews
                    rcases q with rfl | ⟨_, ad, rfl⟩
                    · exact ⟨_, rfl, fun j u hq => by simp at hq⟩
                    · exact ⟨_, rfl, fun j u hq => by simp at hq⟩
                  · obtain ⟨b, o, rfl, hc⟩ := hn3 hy
                    exact ⟨_, rfl, fun j u hq => by rw [Addr.add_mid]; exact hc j u hq⟩
                obtain ⟨ad, rfl, hnews⟩ := had
                have hsi : i.size = σ.size := by rw [hs1, hsz]
                rcases ho.2 with ⟨rfl, hn⟩ | ⟨g, cap, cur, rfl, _, hg, hnc, hcm, hcs, htake⟩
                · have hcells : cells = [] := List.eq_nil_of_length_eq_zero (by rw [ho.1, hn]; simp)
                  subst hcells
                  obtain ⟨v', w', k1, k2, k3, k4⟩ := run_append_own (P := P) w w.heap.size ty ty' e i zv σ.size i.bytes hu hi hzv hsi rfl hzs hpos (.slice none 0 0) 0 [] (World.ownsRow_nil w _ e σ.size) ad ys.length c news hn1 hnews hone (by omega) (by rw [hn] at hr1; rw [hb1]; exact hr1) (Nat.le_refl _)
                  refine ⟨v', w', k1, ?_, k3, fun k hk => ?_, ?_⟩
                  · rw [hn]; obtain ⟨q1, q2⟩ := k2
                    refine ⟨by simpa using q1, q2.imp _root_.id ?_⟩
                    rintro ⟨g, cap, cur, rfl, _, r⟩; exact ⟨g, cap, cur, rfl, Nat.zero_le _, r⟩
                  · rcases k2.2 with ⟨rfl, _⟩ | ⟨g, cap, cur, rfl, hge, _⟩
                    · simp [vblock] at hk
                    · simp [vblock] at hk; subst hk; exact .inr hge
                  · rcases k2.2 with ⟨rfl, e0⟩ | ⟨g, cap, cur, rfl, hge, _⟩
                    · exact ⟨none, 0, by rw [hn, e0]⟩
                    · exact ⟨_, _, by rw [hn]⟩
                · by_cases hroom : xs.length + ys.length ≤ cap
                  · obtain ⟨w', k1, k2, k3⟩ := run_append_fits (P := P) w 0 ty ty' e i σ.size hu hi hsi g xs.length cap cells ho ad ys.length c news hn1 hnews hone hroom
                    exact ⟨_, w', k1, k2, k3, fun k hk => .inl hk, _, _, rfl⟩
                  · have holds : ∀ (j : Nat) (u : Value), cells[j]? = some u → w.cell? ((⟨g, 0, none⟩ : Addr).add j) = some u := ho.cells (g := g) rfl
                    have hr := run_append_grow (P := P) w ty ty' e i zv hu hi hzv ⟨g, 0, none⟩ xs.length cap cells (by rw [hsi]; exact ho.1) holds ad ys.length c news (by rw [hsi]; exact hn1) hnews (by omega) (by simp [maxLen] at hr2; omega) (growslice_fits (by omega) (by rw [hb1]; exact hr1))
                    have hge := grownCap_ge w (xs.length + ys.length) cap e
                    have hcm' : grownCap w (xs.length + ys.length) cap e ≤ maxLen := grownCap_le_maxLen w _ cap e hr2
                    have hlen : (cells ++ news).length = (xs.length + ys.length) * σ.size := by rw [List.length_append, ho.1, hn1, Nat.add_mul]
                    refine ⟨_, _, hr, ⟨hlen, .inr ⟨w.heap.size, _, _, rfl, Nat.zero_le _, heap_alloc_new w.drew _, hge, hcm', ?_, ?_⟩⟩, ⟨rfl, rfl, rfl, by simp, fun k hk _ => heap_alloc_old w.drew _ k hk⟩, fun k hk => ?_, _, _, rfl⟩
                    · simp only [Array.size_append, List.size_toArray, size_zeroCells, hzs, ho.1, hn1, ← Nat.add_mul]
                      congr 1
                      omega
                    · simp only [Array.toList_append, List.append_assoc]
                      rw [← List.append_assoc, ← hlen]
                      exact List.take_left
                    · simp [vblock] at hk; omega
            obtain ⟨v', w', h1, h2, h3, h4, a', c', h5⟩ := key
            have hblk : ∀ k, k < w.heap.size → vblock v ≠ some k → w'.heap[k]? = w.heap[k]? := by
              intro k hk hne
              refine h3.block k hk (fun e => hne ?_)
              obtain ⟨a, c, rfl, _⟩ := s.vec hb hι
              cases a <;> simp_all [Value.ownBlock, vblock]
            have hsub : ∀ k, RW (ι ++ [v']) (h.set id .dead ++ [.vec true e σ (xs ++ ys)]) k → RW ι h k ∨ w.heap.size ≤ k := by
              intro k hk
              rcases hk.push (by simp [s.len]) with ⟨j, bl, v3, p1, p2, p3, p4⟩ | ⟨_, q⟩
              · by_cases ej : j = id
                · subst ej; rw [List.getElem?_set_self hid] at p1; cases p1; simp [Blk.rw] at p2
                · rw [List.getElem?_set_ne (Ne.symm ej)] at p1; exact .inl ⟨j, bl, v3, p1, p2, p3, p4⟩
              · rcases h4 k q with r | r
                · exact .inl ⟨id, _, _, hb, rfl, hι, r⟩
                · exact .inr r
            have hstep : ∀ k, k < w.heap.size → ¬ (Y k ∨ RW ι h k) → ¬ (Y k ∨ RW (ι ++ [v']) (h.set id .dead ++ [.vec true e σ (xs ++ ys)]) k) ∧ w'.heap[k]? = w.heap[k]? := by
              intro k hk hA
              refine ⟨fun q => hA (q.imp _root_.id (fun q => ?_)), hblk k hk (fun q => hA (.inr ⟨id, _, _, hb, rfl, hι, q⟩))⟩
              rcases hsub k q with r | r
              · exact r
              · omega
            refine ⟨[v'], .whole h.length, v', w', _, h1, ?_, ?_, he⟩
            · rw [setNth_eq]
              refine s.move hb rfl hι hblk h3.size h3.os h3.tape h3.output v' _ (fun _ => h4) ⟨hpos, cells ++ news, by rw [List.length_append]; exact h2, fun j hj => ?_⟩
              rw [List.length_append] at hj
              by_cases hj' : j < xs.length
              · rw [List.getElem_append_left hj']
                have hm : j * σ.size + σ.size ≤ cells.length := by
                  rw [ho.1]
                  have := Nat.mul_le_mul_right σ.size (show j + 1 ≤ xs.length from hj')
                  rw [Nat.add_mul, Nat.one_mul] at this; exact this
                rw [List.drop_append_of_le_length (by omega), List.take_append_of_le_length (by simp; omega)]
                exact (hd j hj').step hstep
              · rw [List.getElem_append_right (by omega)]
                have hm : j * σ.size = cells.length + (j - xs.length) * σ.size := by
                  rw [ho.1, ← Nat.add_mul]; congr 1; omega
                rw [hm, ← List.drop_drop, List.drop_left]
                exact (hn2 _ (by omega)).step hstep
            · rw [h5]
              refine .whole _ _ _ _ ?_
              rw [← s.len, List.getElem?_append_right (Nat.le_refl _)]; simp
      · cases he
    · cases he
  · cases he

theorem order_notNaN {k : FloatKind} {a b : Nat} {o : Ordering} (h : k.format.order a b = some o) : isNaNW k a = false ∧ isNaNW k b = false := by
  constructor
  · cases e : isNaNW k a with
    | false => rfl
    | true =>
      obtain ⟨s, t, q⟩ := read_nan e
      simp only [Ieee.Format.order, q] at h; cases h
  · cases e : isNaNW k b with
    | false => rfl
    | true =>
      obtain ⟨s, t, q⟩ := read_nan e
      simp only [Ieee.Format.order, q] at h
      cases q' : k.format.read a <;> rw [q'] at h <;> cases h

theorem max2_flt (k : FloatKind) (a b : Nat) (w : World) : ∃ z w', (Builtin.max2 (.float k a) (.float k b)).run P w = .ok (.float k z) w' ∧ WS w w' ∧ can k z = fmax k (can k a) (can k b) := by
  unfold fmax
  rw [order_can]
  simp only [Builtin.max2]
  cases h : k.format.order a b with
  | none =>
    refine ⟨(Question.nanMinMax k true a b).cut (w.tape w.drawn (.nanMinMax k true a b)), { w with drawn := w.drawn + 1 }, ?_, WS.drew w _, can_of_nan (cut_nanMinMax ..)⟩
    simp [choose, Sem.run, Question.forced]
  | some o =>
    obtain ⟨ha, hb⟩ := order_notNaN h
    rw [can_of_not ha, can_of_not hb]
    cases o with
    | lt => exact ⟨b, w, rfl, WS.refl w, can_of_not hb⟩
    | gt => exact ⟨a, w, rfl, WS.refl w, can_of_not ha⟩
    | eq => exact ⟨_, w, rfl, WS.refl w, by split <;> first | exact can_of_not hb | exact can_of_not ha⟩

theorem min2_flt (k : FloatKind) (a b : Nat) (w : World) : ∃ z w', (Builtin.min2 (.float k a) (.float k b)).run P w = .ok (.float k z) w' ∧ WS w w' ∧ can k z = fmin k (can k a) (can k b) := by
  unfold fmin
  rw [order_can]
  simp only [Builtin.min2]
  cases h : k.format.order a b with
  | none =>
    refine ⟨(Question.nanMinMax k false a b).cut (w.tape w.drawn (.nanMinMax k false a b)), { w with drawn := w.drawn + 1 }, ?_, WS.drew w _, can_of_nan (cut_nanMinMax ..)⟩
    simp [choose, Sem.run, Question.forced]
  | some o =>
    obtain ⟨ha, hb⟩ := order_notNaN h
    rw [can_of_not ha, can_of_not hb]
    cases o with
    | lt => exact ⟨a, w, rfl, WS.refl w, can_of_not ha⟩
    | gt => exact ⟨b, w, rfl, WS.refl w, can_of_not hb⟩
    | eq => exact ⟨_, w, rfl, WS.refl w, by split <;> first | exact can_of_not hb | exact can_of_not ha⟩

theorem minmax_sound (mx : Bool) : ∀ {vs : List AV} {v r : AV} {u : Value} {us : List Value}, AVR ι v u → AVRs ι vs us → evMinMax mx v vs = some r →
    ∀ w : World, ∃ z w', (us.foldlM (if mx then Builtin.max2 else Builtin.min2) u).run P w = .ok z w' ∧ WS w w' ∧ AVR ι r z := by
  intro vs
  induction vs with
  | nil => intro v r u us hv hvs he w; cases hvs; simp only [evMinMax, Option.some.injEq] at he; subst he; exact ⟨u, w, rfl, WS.refl w, hv⟩
  | cons x t ih =>
    intro v r u us hv hvs he w
    cases hvs with | cons _ ux _ ut hx ht => ?_
    unfold evMinMax at he
    split at he
    · rename_i heq; cases heq
    · rename_i heq
      obtain ⟨rfl, rfl⟩ := List.cons.inj heq
      cases hv; cases hx
      split at he
      · rename_i e; subst e
        rename_i k a b
        obtain ⟨z, w', h1, h2, h3⟩ := ih (AVR.int k _) ht he w
        refine ⟨z, w', ?_, h2, h3⟩
        rw [List.foldlM_cons, Sem.run_bind]
        cases mx <;> simpa [Builtin.max2, Builtin.min2] using h1
      · cases he
    · rename_i heq
      obtain ⟨rfl, rfl⟩ := List.cons.inj heq
      cases hv; cases hx
      split at he
      · rename_i e; subst e
        rename_i k a b
        cases mx with
        | true =>
          obtain ⟨z1, w1, g1, g2, g3⟩ := max2_flt (P := P) k a b w
          obtain ⟨z, w', h1, h2, h3⟩ := ih (v := .flt k (can k z1)) (.flt k z1) ht (by rw [g3]; exact he) w1
          refine ⟨z, w', ?_, g2.trans h2, h3⟩
          rw [List.foldlM_cons, Sem.run_bind]
          simp only [if_true] at h1 ⊢
          rw [g1]; exact h1
        | false =>
          obtain ⟨z1, w1, g1, g2, g3⟩ := min2_flt (P := P) k a b w
          obtain ⟨z, w', h1, h2, h3⟩ := ih (v := .flt k (can k z1)) (.flt k z1) ht (by rw [g3]; exact he) w1
          refine ⟨z, w', ?_, g2.trans h2, h3⟩
          rw [List.foldlM_cons, Sem.run_bind]
          simp only [Bool.false_eq_true, if_false] at h1 ⊢
          rw [g1]; exact h1
      · cases he
    · cases he

/-- Onto s[:0:0]. -/
theorem evAppendNew_sound (hT : TOk P T) (s : Sat w0 R0 Y ι0 ι h w) {ty : TypeId} {x : AV} {v u : Value} (hv : AVR ι .nocap v) (hx : AVR ι x u) {K : AV → List Blk → Option Out} (he : evAppendNew T ty x h K = some out) (ty' : TypeId) :
    Did P w0 R0 Y ι0 ι w (Builtin.append_ #[ty, ty] ty' #[v, u]) K out := by
  unfold evAppendNew at he
  split at he
  · rename_i e σ _ _ _ hti
    have hu := underlying_slice hT hti
    obtain ⟨_, ei', hei', hτ, hsz, hpos'⟩ := elem_facts hT hti
    split at he
    · rename_i ei τ' ys hei hvec
      rw [hei'] at hei; cases hei
      split at he
      · rename_i q; subst q
        cases hq : ys.isEmpty with
        | true => rw [hq] at he; cases he
        | false =>
          rw [hq] at he
          simp only [cond_false] at he
          have hne : ys.length ≠ 0 := by intro e; rw [List.eq_nil_of_length_eq_zero e] at hq; cases hq
          cases hr : room ys.length ei'.bytes with
          | none => rw [hr] at he; cases he
          | some _ =>
            rw [hr] at he
            simp only [Option.bind_some] at he
            obtain ⟨hr1, hr2⟩ := room_spec hr
            obtain ⟨i, _, zv, hi, _, hs1, hb1, _, _, hzv, _, hzp⟩ := (hT.facts hei').ex
            obtain ⟨hpos, a, c, rfl, news, hn1, hn2, hn3⟩ := vecOf_sound s hx hvec
            have hzs : zv.cells.size = τ'.size := by
              obtain ⟨c0, ec, hd0⟩ := zPrefix_DR (w := w) (A := fun _ => False) τ' (hzp τ' hτ)
              rw [List.append_nil] at ec
              have := hd0.length; rw [← ec] at this; simpa using this
            have hone := groups_one hpos hn1 hn2
            obtain ⟨b, o, rfl, hc⟩ := hn3 hne
            have hnews : ∀ (j : Nat) (u : Value), news[j]? = some u → w.cell? ((⟨b, o, none⟩ : Addr).add j) = some u := fun j u hq => by rw [Addr.add_mid]; exact hc j u hq
            have hsi : i.size = τ'.size := by rw [hs1, hsz]
            cases hv with | nocap ad => ?_
            have key : ∃ v' w', (Builtin.append_ #[ty, ty] ty' #[.slice ad 0 0, .slice (some ⟨b, o, none⟩) ys.length c]).run P w = .ok v' w' ∧ w'.ownsRow w.heap.size e τ'.size v' ys.length news ∧ w.grownBy w' none := by
              cases ad with
              | none =>
                obtain ⟨v', w', k1, k2, k3, k4⟩ := run_append_own (P := P) w w.heap.size ty ty' e i zv τ'.size i.bytes hu hi hzv hsi rfl hzs hpos (.slice none 0 0) 0 [] (World.ownsRow_nil w _ e τ'.size) ⟨b, o, none⟩ ys.length c news hn1 hnews hone (by omega) (by rw [hb1, Nat.zero_add]; exact hr1) (Nat.le_refl _)
                exact ⟨v', w', k1, by simpa using k2, k3⟩
              | some ad =>
                have hr := run_append_grow (P := P) w ty ty' e i zv hu hi hzv ad 0 0 [] (by simp) (fun j v hq => by simp at hq) ⟨b, o, none⟩ ys.length c news (by rw [hsi]; exact hn1) hnews (by omega) (by simp [maxLen] at hr2; omega) (growslice_fits (by omega) (by rw [hb1, Nat.zero_add]; exact hr1))
                simp only [Nat.zero_add] at hr
                have hge := grownCap_ge w ys.length 0 e
                have hcm' : grownCap w ys.length 0 e ≤ maxLen := grownCap_le_maxLen w _ 0 e (by omega)
                refine ⟨_, _, hr, ⟨hn1, .inr ⟨w.heap.size, _, _, rfl, Nat.le_refl _, heap_alloc_new w.drew _, hge, hcm', ?_, ?_⟩⟩, ⟨rfl, rfl, rfl, by simp, fun k hk _ => heap_alloc_old w.drew _ k hk⟩⟩
                · simp only [Array.size_append, List.size_toArray, size_zeroCells, hzs, hn1, List.length_nil, Nat.zero_add, ← Nat.add_mul]
                  congr 1
                  omega
                · simp only [Array.toList_append, List.nil_append, ← hn1]
                  exact List.take_left
            obtain ⟨v', w', h1, h2, h3⟩ := key
            have hblk : ∀ k, k < w.heap.size → w'.heap[k]? = w.heap[k]? := fun k hk => h3.block k hk (by simp)
            have hfresh : ∀ k, vblock v' = some k → w.heap.size ≤ k := by
              intro k hk
              rcases h2.2 with ⟨rfl, _⟩ | ⟨g, cap, cur, rfl, hge, _⟩
              · simp [vblock] at hk
              · simp [vblock] at hk; subst hk; exact hge
            have hpush : ∀ k, RW (ι ++ [v']) (h ++ [.vec true e τ' ys]) k → RW ι h k ∨ w.heap.size ≤ k := by
              intro k hk
              rcases hk.push s.len with r | ⟨_, q⟩
              · exact .inl r
              · exact .inr (hfresh k q)
            refine ⟨[v'], .whole h.length, v', w', _, h1, ?_, ?_, he⟩
            · refine s.push hblk h3.size h3.os h3.tape h3.output v' (.vec true e τ' ys) (fun _ k hk => hfresh k hk) ⟨hpos, news, ?_, fun j hj => ?_⟩
              · obtain ⟨q1, q2⟩ := h2
                refine ⟨q1, q2.imp _root_.id ?_⟩
                rintro ⟨g, cap, cur, rfl, _, r⟩; exact ⟨g, cap, cur, rfl, Nat.zero_le _, r⟩
              · refine (hn2 j hj).step (fun k hk hA => ⟨fun q => hA (q.imp _root_.id (fun q => ?_)), hblk k hk⟩)
                rcases hpush k q with r | r
                · exact r
                · omega
            · obtain ⟨q1, q2⟩ := h2
              rcases q2 with ⟨rfl, q⟩ | ⟨g, cap, cur, rfl, _⟩
              · exact absurd q hne
              · refine .whole _ _ _ _ ?_
                rw [← s.len, List.getElem?_append_right (Nat.le_refl _)]; simp
      · cases he
    · cases he
  · cases he

/-! ### copy, clear -/

theorem group_over {cells ds : List Value} {sz lo m j : Nat} (hds : ds.length = m * sz) (hi : lo * sz + m * sz ≤ cells.length) :
    ((cells.take (lo * sz) ++ ds ++ cells.drop (lo * sz + m * sz)).drop (j * sz)).take sz =
      if j < lo then (cells.drop (j * sz)).take sz else if j < lo + m then (ds.drop ((j - lo) * sz)).take sz else (cells.drop (j * sz)).take sz := by
  have la : (cells.take (lo * sz)).length = lo * sz := by simp; omega
  have mm : ∀ a b : Nat, a < b → a * sz + sz ≤ b * sz := fun a b h => by
    have := Nat.mul_le_mul_right sz (show a + 1 ≤ b from h); rw [Nat.add_mul, Nat.one_mul] at this; exact this
  apply List.ext_getElem?
  intro q
  by_cases hq : q < sz
  · rw [List.getElem?_take_of_lt hq, List.getElem?_drop, get3, la, hds]
    by_cases j1 : j < lo
    · have := mm j lo j1
      rw [if_pos (by omega), if_pos j1, List.getElem?_take_of_lt (by omega), List.getElem?_take_of_lt hq, List.getElem?_drop]
    · have h1 : lo * sz ≤ j * sz := Nat.mul_le_mul_right _ (by omega)
      rw [if_neg (by omega), if_neg j1]
      by_cases j2 : j < lo + m
      · have := mm j (lo + m) j2; rw [Nat.add_mul] at this
        rw [if_pos (by omega), if_pos j2, List.getElem?_take_of_lt hq, List.getElem?_drop, Nat.sub_mul]
        congr 1; omega
      · have h2 : (lo + m) * sz ≤ j * sz := Nat.mul_le_mul_right _ (by omega)
        rw [Nat.add_mul] at h2
        rw [if_neg (by omega), if_neg j2, List.getElem?_take_of_lt hq, List.getElem?_drop, List.getElem?_drop]
        congr 1; omega
  · rw [List.getElem?_eq_none (by simp; omega)]
    split
    · rw [List.getElem?_eq_none (by simp; omega)]
    · split <;> rw [List.getElem?_eq_none (by simp; omega)]

theorem over_length {α : Type} {xs ys : List α} {lo : Nat} (h : lo + ys.length ≤ xs.length) : (over xs ys lo).length = xs.length := by
  simp [over]; omega

theorem over_get {α : Type} {xs ys : List α} {lo j : Nat} (h : lo + ys.length ≤ xs.length) (hj : j < (over xs ys lo).length) :
    (over xs ys lo)[j] = if _ : j < lo then xs[j]'(by rw [over_length h] at hj; exact hj) else if _ : j < lo + ys.length then ys[j - lo]'(by omega) else xs[j]'(by rw [over_length h] at hj; exact hj) := by
  rw [over_length h] at hj
  by_cases q1 : j < lo
  · simp only [over, q1, dite_true]
    rw [List.getElem_append_left (by simp; omega), List.getElem_append_left (by simp; omega), List.getElem_take]
  · by_cases q2 : j < lo + ys.length
    · simp only [over, q1, q2, dite_true, dite_false]
      rw [List.getElem_append_left (by simp; omega), List.getElem_append_right (by simp; omega)]
      congr 1; simp; omega
    · simp only [over, q1, q2, dite_false]
      rw [List.getElem_append_right (by simp; omega), List.getElem_drop]
      congr 1; simp; omega

/-- Elements written over others of a row. -/
theorem Sat.overwrite (s : Sat w0 R0 Y ι0 ι h w) {id : Nat} {e : TypeId} {τ : Ty} {xs ys : List τ.den} (hb : h[id]? = some (.vec true e τ xs)) {b o n c : Nat} (hu : ι[id]? = some (.slice (some ⟨b, o, none⟩) n c))
    {lo : Nat} (hle : lo + ys.length ≤ xs.length) {ds : List Value} (hl : ds.length = ys.length * τ.size)
    (hd : ∀ i (_ : i < ys.length), DR w (fun k => Y k ∨ RW ι h k) τ ys[i] ((ds.drop (i * τ.size)).take τ.size)) (h1 : ∀ v ∈ ds, v.oneCell' = true) :
    ∃ w', (storeCells ⟨b, o + lo * τ.size, none⟩ ds).run P w = .ok () w' ∧ Sat w0 R0 Y ι0 ι (h.set id (.vec true e τ (over xs ys lo))) w' := by
  obtain ⟨h0, cells, ho, hdx⟩ := s.br _ _ _ hb hu
  obtain ⟨hlc, hr⟩ := ho
  rcases hr with ⟨e1, hn⟩ | ⟨g, cap, cur, e1, hg0, hc, g1, g2, g3, g4⟩
  · cases e1
  · simp only [Value.slice.injEq, Option.some.injEq, Addr.mk.injEq] at e1
    obtain ⟨⟨rfl, rfl, _⟩, rfl, rfl⟩ := e1
    have hmul : lo * τ.size + ys.length * τ.size ≤ xs.length * τ.size := by
      rw [← Nat.add_mul]; exact Nat.mul_le_mul_right _ hle
    have hcap : xs.length * τ.size ≤ c * τ.size := Nat.mul_le_mul_right _ g1
    have hcs : cur.toList.length = c * τ.size := by simpa using g3
    have hstore := run_storeCells_at (P := P) b (0 + lo * τ.size) e ds 0 cur w hc (by simp at hcs; omega) h1
    simp only [Nat.add_zero] at hstore
    refine ⟨_, hstore, ?_⟩
    have hnew : (cur.toList.take (0 + lo * τ.size) ++ ds ++ cur.toList.drop (0 + lo * τ.size + ds.length)).length = c * τ.size := by
      simp; simp at hcs; omega
    have hsame : ∀ k, (Y k ∨ RW ι (h.set id (.vec true e τ (over xs ys lo))) k) ↔ (Y k ∨ RW ι h k) := by
      intro k
      refine or_congr Iff.rfl ⟨?_, ?_⟩
      · rintro ⟨j, bl, v3, p1, p2, p3, p4⟩
        by_cases ej : j = id
        · subst ej; rw [hu] at p3; cases p3; exact ⟨_, _, _, hb, rfl, hu, p4⟩
        · rw [List.getElem?_set_ne (Ne.symm ej)] at p1; exact ⟨j, bl, v3, p1, p2, p3, p4⟩
      · rintro ⟨j, bl, v3, p1, p2, p3, p4⟩
        by_cases ej : j = id
        · subst ej; rw [hu] at p3; cases p3
          exact ⟨_, _, _, List.getElem?_set_self (get_lt hb), rfl, hu, p4⟩
        · exact ⟨j, bl, v3, by rw [List.getElem?_set_ne (Ne.symm ej)]; exact p1, p2, p3, p4⟩
    have hgRW : RW ι h b := ⟨id, _, _, hb, rfl, hu, rfl⟩
    have hstep : ∀ k, k < w.heap.size → ¬ (Y k ∨ RW ι h k) → ¬ (Y k ∨ RW ι (h.set id (.vec true e τ (over xs ys lo))) k) ∧ (w.setRow b (cur.toList.take (0 + lo * τ.size) ++ ds ++ cur.toList.drop (0 + lo * τ.size + ds.length)).toArray).heap[k]? = w.heap[k]? := by
      intro k _ hk
      exact ⟨fun q => hk ((hsame k).1 q), setRow_other w b k _ (fun q => hk (.inr (by rw [q]; exact hgRW)))⟩
    refine s.turn hb rfl hu (fun k _ hk => setRow_other w b k _ (fun e => hk (by subst e; rfl))) (by simp) rfl rfl rfl _ ?_
    refine ⟨h0, cells.take (lo * τ.size) ++ ds ++ cells.drop (lo * τ.size + ys.length * τ.size), ⟨?_, .inr ⟨b, c, _, by rw [over_length hle], hg0, setRow_heap w b cur _ e (0, 0) hc, by rw [over_length hle]; exact g1, g2, by simpa using hnew, ?_⟩⟩, ?_⟩
    · rw [over_length hle]; simp; omega
    · rw [over_length hle]
      apply List.ext_getElem?
      intro q
      have ecells : ∀ q, q < xs.length * τ.size → cells[q]? = cur.toList[q]? := by
        intro q hq; rw [← g4, List.getElem?_take_of_lt hq]
      have la : (cells.take (lo * τ.size)).length = lo * τ.size := by simp; omega
      have lb : (cur.toList.take (0 + lo * τ.size)).length = lo * τ.size := by simp; simp at hcs; omega
      by_cases hq : q < xs.length * τ.size
      · rw [List.getElem?_take_of_lt hq, List.toList_toArray, get3, get3, la, lb, hl]
        by_cases q1' : q < lo * τ.size
        · rw [if_pos q1', if_pos q1', List.getElem?_take_of_lt (by omega), List.getElem?_take_of_lt q1', ecells q hq]
        · by_cases q2' : q < lo * τ.size + ys.length * τ.size
          · rw [if_neg q1', if_neg q1', if_pos q2', if_pos q2']
          · rw [if_neg q1', if_neg q1', if_neg q2', if_neg q2', List.getElem?_drop, List.getElem?_drop, ecells _ (by omega)]
            congr 1; omega
      · rw [List.getElem?_eq_none (by simp; omega), List.getElem?_eq_none (by simp; omega)]
    · intro j hj
      have hj' : j < xs.length := by rw [over_length hle] at hj; exact hj
      rw [over_get hle hj, group_over hl (by omega)]
      split
      · exact (hdx j hj').step hstep
      · split
        · exact (hd _ (by omega)).step hstep
        · exact (hdx j hj').step hstep

/-- A part of a row as a value. -/
theorem partOf_sound (s : Sat w0 R0 Y ι0 ι h w) {v : AV} {u : Value} (hv : AVR ι v u) {id lo n size : Nat} (he : partOf h v = some (id, lo, n, size)) {rw' : Bool} {e : TypeId} {τ : Ty} {xs : List τ.den} (hb : h[id]? = some (.vec rw' e τ xs)) (hz : size = τ.size) :
    ∃ a' c', u = .slice a' n c' ∧ lo + n ≤ xs.length ∧ ((∃ b o m c, ι[id]? = some (.slice (some ⟨b, o, none⟩) m c) ∧ a' = some ⟨b, o + lo * τ.size, none⟩) ∨ n = 0) := by
  unfold partOf at he
  split at he
  · split at he
    · rename_i hb'
      rw [nth_eq] at hb'
      cases he
      have hι := hv.whole_inv
      rw [hb] at hb'
      cases hb'
      obtain ⟨a, c, rfl, _, _, _, hne, _⟩ := s.vec hb hι
      refine ⟨a, c, rfl, by omega, ?_⟩
      by_cases hn : xs.length = 0
      · exact .inr hn
      · obtain ⟨b, o, rfl⟩ := hne hn
        exact .inl ⟨b, o, _, _, hι, by simp⟩
    · cases he
  · cases he
    cases hv with | sub _ _ _ _ a a' m c c' hι q1 q2 q3 q4 => ?_
    obtain ⟨_, _, e1, _, _, hpos, hne, _⟩ := s.vec hb hι
    simp only [Value.slice.injEq] at e1
    obtain ⟨rfl, rfl, rfl⟩ := e1
    refine ⟨a', c', rfl, q1, ?_⟩
    by_cases hn : n = 0
    · exact .inr hn
    · obtain ⟨b, o, rfl, rfl⟩ := q4 hn
      exact .inl ⟨b, o, _, _, hι, by rw [hz]⟩
  · cases he

theorem over_nil {α : Type} (xs ys : List α) (lo : Nat) (h : ys.length = 0) : over xs ys lo = xs := by
  rw [List.eq_nil_of_length_eq_zero h]; simp [over]

theorem set_same {α : Type} {l : List α} {n : Nat} {x : α} (h : l[n]? = some x) : l.set n x = l := by
  apply List.ext_getElem?
  intro i
  by_cases e : i = n
  · subst e; rw [List.getElem?_set_self (get_lt h), h]
  · rw [List.getElem?_set_ne (Ne.symm e)]

theorem zeroCells_list {τ : Ty} (zv : Array Value) (hz : zv.size = τ.size) (n : Nat) : (Builtin.zeroCells zv n).toList.length = n * τ.size := by
  simp [size_zeroCells, hz]

theorem evClear_sound (hT : TOk P T) (s : Sat w0 R0 Y ι0 ι h w) {ty : TypeId} {v : AV} {u : Value} (hv : AVR ι v u) {id lo n size : Nat} (hp : partOf h v = some (id, lo, n, size)) {K : AV → List Blk → Option Out} (he : evClear T ty id lo n size h K = some out) (ty' : TypeId) :
    Did P w0 R0 Y ι0 ι w (Builtin.clear_ #[ty] ty' #[u]) K out := by
  unfold evClear at he
  split at he
  · rename_i e σ _ _ _ e' τ xs hti hb
    rw [nth_eq] at hb
    have hu := underlying_slice hT hti
    obtain ⟨_, ei, hei, hτ, hsz, hpos⟩ := elem_facts hT hti
    split at he
    · rename_i q; subst q
      cases hq : e == e' && size == σ.size && Nat.ble (lo + n) xs.length with
      | false => rw [hq] at he; cases he
      | true =>
        rw [hq] at he
        simp only [Bool.and_eq_true, beq_iff_eq, Nat.ble_eq] at hq
        obtain ⟨⟨rfl, hz⟩, hle⟩ := hq
        simp only [cond_true] at he
        obtain ⟨a', c', rfl, _, hcase⟩ := partOf_sound s hv hp hb hz
        rcases hcase with ⟨b, o, m, c, hι, rfl⟩ | rfl
        · obtain ⟨i, _, zv, hi, _, hs1, hb1, _, _, hzv, _, hzp⟩ := (hT.facts hei).ex
          obtain ⟨c0, ec, hd0⟩ := zPrefix_DR (w := w) (A := fun k => Y k ∨ RW ι h k) σ (hzp σ hτ)
          rw [List.append_nil] at ec
          have hzs : zv.cells.size = σ.size := by have := hd0.length; rw [← ec] at this; simpa using this
          have hdl : (Builtin.zeroCells zv.cells n).toList.length = n * σ.size := by simp [size_zeroCells, hzs]
          have hgr : ∀ j (_ : j < (List.replicate n σ.zero).length), DR w (fun k => Y k ∨ RW ι h k) σ (List.replicate n σ.zero)[j] (((Builtin.zeroCells zv.cells n).toList.drop (j * σ.size)).take σ.size) := by
            intro j hj
            simp only [List.length_replicate] at hj
            rw [List.getElem_replicate]
            have hjm : j * σ.size + σ.size ≤ n * σ.size := by
              have := Nat.mul_le_mul_right σ.size (show j + 1 ≤ n from hj)
              rw [Nat.add_mul, Nat.one_mul] at this; exact this
            have eg : (((Builtin.zeroCells zv.cells n).toList.drop (j * σ.size)).take σ.size) = zv.cells.toList := by
              apply List.ext_getElem?
              intro q
              by_cases hq : q < σ.size
              · rw [List.getElem?_take_of_lt hq, List.getElem?_drop]
                simp only [Builtin.zeroCells, Array.toList_map, Array.toList_range, List.getElem?_map]
                rw [List.getElem?_range (by rw [hzs]; omega)]
                simp only [Option.map_some]
                have : (j * σ.size + q) % zv.cells.size = q := by
                  rw [hzs, Nat.add_comm, Nat.add_mul_mod_self_right, Nat.mod_eq_of_lt hq]
                rw [this, Array.getElem?_toList, getElem!_pos zv.cells q (by omega), Array.getElem?_eq_getElem (by omega)]
              · rw [List.getElem?_eq_none (by simp; omega), List.getElem?_eq_none (by simp; omega)]
            rw [eg, ec]; exact hd0
          have hone := groups_one hpos (by rw [hdl, List.length_replicate]) hgr
          obtain ⟨w', hrun, s'⟩ := s.overwrite (P := P) hb hι (lo := lo) (ys := List.replicate n σ.zero) (by simpa using hle) (ds := (Builtin.zeroCells zv.cells n).toList) (by rw [hdl, List.length_replicate]) hgr hone
          refine ⟨[], .any, .tuple #[], w', _, ?_, by simpa using s', .any _, by rw [setNth_eq] at he; exact he⟩
          simp only [Builtin.clear_, Sem.run_bind, run_underlying hu, Result.andThen_ok]
          by_cases hn : n = 0
          · subst hn
            have hw : w' = w := by
              have hnil : (Builtin.zeroCells zv.cells 0).toList = [] := by
                apply List.eq_nil_of_length_eq_zero; simp [size_zeroCells]
              rw [hnil] at hrun
              simp only [storeCells, Sem.run_pure, Result.ok.injEq, true_and] at hrun
              exact hrun.symm
            rw [hw]
            simp [Sem.run_bind, run_underlying hu]
          · cases n with
            | zero => exact absurd rfl hn
            | succ n => simp [Sem.run_bind, run_underlying hu, zeroValue, typeInfo, run_program, hi, hzv, hrun]
        · have hsame : setNth h id (.vec true e σ (over xs (List.replicate 0 σ.zero) lo)) = h := by
            rw [over_nil _ _ _ (by simp), setNth_eq]; exact set_same hb
          have he2 : K .any (setNth h id (.vec true e σ (over xs (List.replicate 0 σ.zero) lo))) = some out := he
          rw [hsame] at he2
          refine ⟨[], .any, .tuple #[], w, h, ?_, by simpa using s, .any _, he2⟩
          cases a' <;> simp [Builtin.clear_, Sem.run_bind, run_underlying hu]
    · cases he
  · cases he

theorem evCopy_sound (hT : TOk P T) (s : Sat w0 R0 Y ι0 ι h w) {ty ty2 e : TypeId} {τ0 : Option Ty} {sz by' : Nat} {z : List ZC} (hti : T ty = some ⟨.slice e, τ0, sz, by', z⟩) {ei : TI} (hei : T e = some ei)
    {v x : AV} {u u2 : Value} (hv : AVR ι v u) (hx : AVR ι x u2) {id lo n size : Nat} (hp : partOf h v = some (id, lo, n, size)) (hsz : ei.size = size) {K : AV → List Blk → Option Out} (he : evCopy id lo n size x h K = some out) (ty' : TypeId) :
    Did P w0 R0 Y ι0 ι w (Builtin.copy_ #[ty, ty2] ty' #[u, u2]) K out := by
  have hu := underlying_slice hT hti
  unfold evCopy at he
  split at he
  · rename_i e' τ xs τ' ys hb hvec
    rw [nth_eq] at hb
    split at he
    · rename_i q; subst q
      cases hq : size == τ'.size && Nat.ble (lo + n) xs.length with
      | false => rw [hq] at he; cases he
      | true =>
        rw [hq] at he
        simp only [Bool.and_eq_true, beq_iff_eq, Nat.ble_eq] at hq
        obtain ⟨hz, hle⟩ := hq
        simp only [cond_true] at he
        obtain ⟨a', c', rfl, _, hcase⟩ := partOf_sound s hv hp hb hz
        obtain ⟨hpos, a2, c2, rfl, cells, hn1, hn2, hn3⟩ := vecOf_sound s hx hvec
        have hsize := run_sizeOf' (P := P) (w := w) hT hei
        have hmin : Nat.min ys.length n = min ys.length n := rfl
        by_cases hz0 : min ys.length n = 0
        · -- nothing to copy
          have hys : (ys.take n).length = 0 := by rw [List.length_take]; omega
          have hsame : setNth h id (.vec true e' τ' (over xs (ys.take n) lo)) = h := by
            rw [over_nil _ _ _ hys, setNth_eq]; exact set_same hb
          have he2 : K (.int .i64 (min ys.length n : Nat)) (setNth h id (.vec true e' τ' (over xs (ys.take n) lo))) = some out := he
          rw [hsame] at he2
          refine ⟨[], _, .int .i64 (min ys.length n : Nat), w, h, ?_, by simpa using s, .int _ _, he2⟩
          cases a2 with
          | none => cases a' <;> simp [Builtin.copy_, Sem.run_bind, run_underlying hu, Builtin.lenOf, hsize, hmin, hz0, Builtin.firstCells, storeCells, goInt]
          | some a2 => cases a' <;> simp [Builtin.copy_, Sem.run_bind, run_underlying hu, Builtin.lenOf, hsize, hmin, hz0, Builtin.firstCells, loadCells, loadCellsFrom, storeCells, goInt]
        · obtain ⟨b, o, m, c, hι, rfl⟩ : ∃ b o m c, ι[id]? = some (.slice (some ⟨b, o, none⟩) m c) ∧ a' = some ⟨b, o + lo * τ'.size, none⟩ := by
            rcases hcase with q | rfl
            · exact q
            · omega
          obtain ⟨b2, o2, rfl, hc2⟩ := hn3 (by omega)
          have hk : (ys.take n).length = min ys.length n := by rw [List.length_take]; omega
          have hkm : min ys.length n * τ'.size ≤ cells.length := by rw [hn1]; exact Nat.mul_le_mul_right _ (by omega)
          have hdl : (cells.take (min ys.length n * τ'.size)).length = (ys.take n).length * τ'.size := by rw [hk, List.length_take]; omega
          have hgr : ∀ j (_ : j < (ys.take n).length), DR w (fun k => Y k ∨ RW ι h k) τ' (ys.take n)[j] (((cells.take (min ys.length n * τ'.size)).drop (j * τ'.size)).take τ'.size) := by
            intro j hj
            rw [List.getElem_take]
            have hjm : j * τ'.size + τ'.size ≤ min ys.length n * τ'.size := by
              have := Nat.mul_le_mul_right τ'.size (show j + 1 ≤ min ys.length n by omega)
              rw [Nat.add_mul, Nat.one_mul] at this; exact this
            have eg : ((cells.take (min ys.length n * τ'.size)).drop (j * τ'.size)).take τ'.size = (cells.drop (j * τ'.size)).take τ'.size := by
              apply List.ext_getElem?
              intro q
              by_cases hq : q < τ'.size
              · rw [List.getElem?_take_of_lt hq, List.getElem?_drop, List.getElem?_take_of_lt (by omega), List.getElem?_take_of_lt hq, List.getElem?_drop]
              · rw [List.getElem?_eq_none (by simp; omega), List.getElem?_eq_none (by simp; omega)]
            rw [eg]
            exact hn2 j (by rw [hk] at hj; omega)
          have hone := groups_one hpos hdl hgr
          obtain ⟨w', hrun, s'⟩ := s.overwrite (P := P) hb hι (lo := lo) (ys := ys.take n) (by rw [hk]; omega) (ds := cells.take (min ys.length n * τ'.size)) hdl hgr hone
          refine ⟨[], _, .int .i64 (min ys.length n : Nat), w', _, ?_, by simpa using s', .int _ _, by rw [setNth_eq] at he; exact he⟩
          have hload := run_loadCells_list (P := P) w ⟨b2, o2, none⟩ (cells.take (min ys.length n * τ'.size)) (fun j v hj => by
            rw [Addr.add_mid]
            by_cases hq : j < min ys.length n * τ'.size
            · rw [List.getElem?_take_of_lt hq] at hj; exact hc2 j v hj
            · rw [List.getElem?_eq_none (by simp; omega)] at hj; cases hj)
          have hlen2 : (cells.take (min ys.length n * τ'.size)).length = min ys.length n * τ'.size := by rw [List.length_take]; omega
          rw [hlen2] at hload
          rw [hsz, hz] at hsize
          simp [Builtin.copy_, Sem.run_bind, run_underlying hu, Builtin.lenOf, hsize, hmin, Builtin.firstCells, hload, hrun, goInt]
    · cases he
  · cases he

end
end Go.Ev

/-
  Loads and stores.
-/
import Derived.Test.YtcddghcjllgbiaaEvH
namespace Go.Ev
open Go.RowKit

/-- A piece of the machine does what the state's step says. -/
def Did (P : Program) (w0 : World) (R0 Y : Nat → Prop) (ι0 ι : List Value) (w : World) (m : Sem Value) (K : AV → List Blk → Option Out) (out : Out) : Prop :=
  ∃ r v u w' h', m.run P w = .ok u w' ∧ Sat w0 R0 Y ι0 (ι ++ r) h' w' ∧ AVR (ι ++ r) v u ∧ K v h' = some out

section
variable {P : Program} {T : Types} {w0 w : World} {R0 Y : Nat → Prop} {ι0 ι : List Value} {h : List Blk} {out : Out}

theorem Did.plain {m : Sem Value} {K : AV → List Blk → Option Out} (s : Sat w0 R0 Y ι0 ι h w) {v : AV} {u : Value} {w' : World} (hr : m.run P w = .ok u w') (hw : WS w w') (hv : AVR ι v u) (hK : K v h = some out) :
    Did P w0 R0 Y ι0 ι w m K out :=
  ⟨[], v, u, w', h, hr, by simpa using s.same hw.heap hw.os hw.tape hw.output, by simpa using hv, hK⟩

theorem typed_sound (s : Sat w0 R0 Y ι0 ι h w) {ty : TypeId} {v : AV} {u : Value} {K : AV → List Blk → Option Out} (hv : AVR ι v u) (he : typed T ty v h K = some out) :
    ∃ r v' h', Sat w0 R0 Y ι0 (ι ++ r) h' w ∧ AVR (ι ++ r) v' u ∧ K v' h' = some out := by
  unfold typed at he
  split at he
  · cases hv
    split at he
    · rename_i e σ _ _ _ _
      cases hz : Nat.blt 0 σ.size with
      | false => rw [hz] at he; cases he
      | true =>
        rw [hz] at he
        have hz' : 0 < σ.size := by simpa [Nat.blt_eq] using hz
        refine ⟨[.slice none 0 0], _, _, s.push (fun _ _ => rfl) (Nat.le_refl _) rfl rfl rfl (.slice none 0 0) (.vec true e σ []) (by simp [vblock]) ⟨hz', [], by simpa using World.ownsRow_nil w 0 e σ.size, fun i hi => by simp at hi⟩, ?_, he⟩
        refine .whole _ _ _ _ ?_
        rw [← s.len, List.getElem?_append_right (Nat.le_refl _)]; simp
    · cases he
  · exact ⟨[], v, h, by simpa using s, by simpa using hv, he⟩

theorem desc_notRow (hT : TOk P T) {ty : TypeId} {ti : TI} (h : T ty = some ti) (hs : ∀ fs, ti.d ≠ .struct fs) : ∃ d, P.underlying ty = some d ∧ d.isRow = false := by
  obtain ⟨i, d, z, _, hd, _, _, h3, _⟩ := (hT.facts h).ex
  refine ⟨d, hd, ?_⟩
  unfold descOk at h3
  split at h3 <;> first | rfl | (cases h3; done) | skip
  · rename_i fs _ e; exact absurd e (hs _)
  · unfold isOther at h3; split at h3 <;> first | rfl | (cases h3; done)

theorem desc_row (hT : TOk P T) {ty : TypeId} {ti : TI} {fs : List (Nat × TypeId)} (h : T ty = some ti) (hs : ti.d = .struct fs) : ∃ arr, P.underlying ty = some (.struct arr) ∧ fieldsEq arr.toList fs = true := by
  obtain ⟨i, d, z, _, hd, _, _, h3, _⟩ := (hT.facts h).ex
  unfold descOk at h3
  rw [hs] at h3
  cases d <;> first | (simp at h3; done) | skip
  exact ⟨_, hd, h3⟩

theorem info_size (hT : TOk P T) {ty : TypeId} {ti : TI} (h : T ty = some ti) : (P.info? ty).map (·.size) = some ti.size := by
  obtain ⟨i, d, z, hi, _, h1, _⟩ := (hT.facts h).ex
  rw [hi]; simp [h1]

theorem run_loadVar_one {ty : TypeId} {d : TypeDesc} (hu : P.underlying ty = some d) (hd : d.isRow = false) {a : Addr} {v : Value} (hc : w.cell? a = some v) :
    (loadVar ty a).run P w = .ok v w := by
  have hagg : (isAgg ty).run P w = .ok false w := by
    unfold isAgg
    rw [Sem.run_bind, run_underlying hu w]
    cases d <;> simp_all
  simp [loadVar, Sem.run_bind, hagg, hc]

/-- An element of a row, as it lies in memory. -/
theorem Sat.elem (s : Sat w0 R0 Y ι0 ι h w) {id : Nat} {rw' : Bool} {e : TypeId} {τ : Ty} {xs : List τ.den} (hb : h[id]? = some (.vec rw' e τ xs)) {b o n c : Nat} (hu : ι[id]? = some (.slice (some ⟨b, o, none⟩) n c))
    {i : Nat} (hi : i < xs.length) : ∃ l, l.length = τ.size ∧ (∀ (j : Nat) (v : Value), l[j]? = some v → w.cell? ⟨b, o + i * τ.size + j, none⟩ = some v) ∧ DR w (fun k => Y k ∨ RW ι h k) τ xs[i] l := by
  have hbr := s.br _ _ _ hb hu
  cases rw' with
  | false =>
    obtain ⟨a, c', e1, _, _, _, h3⟩ := hbr
    obtain ⟨b', o', rfl, _, h4⟩ := h3 (by omega)
    simp only [List.cons.injEq, Value.slice.injEq, Option.some.injEq, Addr.mk.injEq] at e1
    obtain ⟨⟨⟨rfl, rfl, _⟩, _, _⟩, _⟩ := e1
    exact h4 i hi
  | true =>
    obtain ⟨h0, cells, ho, hd⟩ := hbr
    obtain ⟨hl, hr⟩ := ho
    rcases hr with ⟨e1, hn⟩ | ⟨g, cap, cur, e1, _, hc, h1, h2, h3, h4⟩
    · cases e1
    · simp only [Value.slice.injEq, Option.some.injEq, Addr.mk.injEq] at e1
      obtain ⟨⟨rfl, rfl, _⟩, _, rfl⟩ := e1
      have hle : i * τ.size + τ.size ≤ cells.length := by
        have := Nat.mul_le_mul_right τ.size (show i + 1 ≤ xs.length from hi)
        rw [Nat.add_mul, Nat.one_mul] at this; omega
      refine ⟨(cells.drop (i * τ.size)).take τ.size, by simp; omega, fun j v hv => ?_, hd i hi⟩
      have hj : j < τ.size := by
        have := get_lt hv; simp at this; omega
      rw [List.getElem?_take_of_lt hj, List.getElem?_drop, ← h4, List.getElem?_take_of_lt (by omega)] at hv
      simp only [World.cell?, hc]
      simpa using hv

theorem evLoad_sound (hT : TOk P T) (s : Sat w0 R0 Y ι0 ι h w) {ty : TypeId} {a : AV} {p : Value} {K : AV → List Blk → Option Out} (ha : AVR ι a p) (he : evLoad T ty a h K = some out) :
    Did P w0 R0 Y ι0 ι w (Instr.loadAt ty p) K out := by
  unfold evLoad at he
  split at he
  · cases he
  · rename_i ti hti
    split at he
    · -- a variable
      rename_i id off
      cases ha with | ptr _ _ b hu => ?_
      split at he
      · rename_i t cs hb
        rw [nth_eq] at hb
        obtain ⟨g, arr, e1, hg, hcs⟩ := s.br _ _ _ hb hu
        simp only [Value.pointer.injEq, Option.some.injEq, Addr.mk.injEq, and_true] at e1
        subst e1
        have hlen := hcs.length
        have hcell : ∀ (j : Nat) (v : Value), arr.toList[j]? = some v → w.cell? ⟨b, j, none⟩ = some v := by
          intro j v hv; simp only [World.cell?, hg]; simpa using hv
        split at he
        · rename_i fs hd
          cases hle : Nat.ble (off + ti.size) cs.length with
          | false => rw [hle] at he; cases he
          | true =>
            rw [hle] at he
            simp only [cond_true] at he
            have hle' : off + ti.size ≤ cs.length := by simpa [Nat.ble_eq] using hle
            obtain ⟨arr', hu', _⟩ := desc_row hT hti hd
            refine ⟨[], _, _, w, h, run_loadAt_mid w b off ty ((arr.toList.drop off).take ti.size) (.struct arr') ?_ hu' rfl ?_, by simpa using s, ?_, he⟩
            · intro j v hv
              have hj : j < ti.size := by have := get_lt hv; simp at this; omega
              rw [List.getElem?_take_of_lt hj, List.getElem?_drop] at hv
              exact hcell _ _ hv
            · rw [info_size hT hti]; simp; simp at hlen; omega
            · simpa using AVR.agg _ _ ((hcs.drop off).take ti.size)
        · rename_i hns
          split at he
          · rename_i v hv
            rw [nth_eq] at hv
            obtain ⟨u, hu2, hr⟩ := hcs.get hv
            obtain ⟨d, hd1, hd2⟩ := desc_notRow hT hti (fun fs e => hns fs e)
            refine ⟨[], v, u, w, h, ?_, by simpa using s, by simpa using hr, he⟩
            simp only [Instr.loadAt, Instr.sureAddr, Sem.run_bind, Sem.run_pure, Result.andThen_ok]
            exact run_loadVar_one hd1 hd2 (hcell _ _ hu2)
          · cases he
      · cases he
    · -- an element
      rename_i id i size off
      cases ha with | elt _ _ _ _ b o n c hu => ?_
      split at he
      · rename_i rw' e τ xs σ hb hσ
        rw [nth_eq] at hb
        cases hz : size == τ.size && σ.size == ti.size with
        | false => rw [hz] at he; cases he
        | true =>
          rw [hz] at he
          simp only [Bool.and_eq_true, beq_iff_eq] at hz
          obtain ⟨rfl, hz2⟩ := hz
          simp only [cond_true] at he
          cases hx : xs[i]? with
          | none => rw [hx] at he; cases he
          | some x =>
            rw [hx] at he
            simp only [Option.bind_some] at he
            have hi := get_lt hx
            have hxi : xs[i] = x := by rw [List.getElem?_eq_getElem hi] at hx; exact Option.some.inj hx
            obtain ⟨l, hl, hc, hd⟩ := s.elem hb hu hi
            rw [hxi] at hd
            split at he
            · rename_i y hy
              obtain ⟨p1, p2⟩ := part_sound τ hd hy
              obtain ⟨r, s', v', _⟩ := avs_sound σ s p2
              have hcell : w.rangeAt b (o + i * τ.size + off) ((l.drop off).take σ.size) := by
                intro j v hv
                have hj : j < σ.size := by have := get_lt hv; simp at this; omega
                rw [List.getElem?_take_of_lt hj, List.getElem?_drop] at hv
                have := hc _ _ hv
                rw [show o + i * τ.size + off + j = o + i * τ.size + (off + j) from by omega]; exact this
              split at he
              · rename_i fs hds
                obtain ⟨arr', hu', _⟩ := desc_row hT hti hds
                refine ⟨r, _, _, w, _, run_loadAt_mid w b (o + i * τ.size + off) ty ((l.drop off).take σ.size) (.struct arr') hcell hu' rfl ?_, s', .agg _ _ v', he⟩
                rw [info_size hT hti]; simp; omega
              · rename_i hns
                obtain ⟨d, hd1, hd2⟩ := desc_notRow hT hti (fun fs e => hns fs e)
                split at he
                · rename_i v hv
                  rw [hv] at v'
                  generalize hq : (l.drop off).take σ.size = cs at v' hcell
                  cases v' with | cons _ u _ t h1 h2 => ?_
                  cases h2
                  refine ⟨r, v, u, w, _, ?_, s', h1, he⟩
                  simp only [Instr.loadAt, Instr.sureAddr, Sem.run_bind, Sem.run_pure, Result.andThen_ok]
                  exact run_loadVar_one hd1 hd2 (by simpa using hcell 0 u rfl)
                · cases he
            · cases he
      · cases he
    · cases he

/-! ### Stores -/

theorem overAV_eq : ∀ (cs : List AV) (off : Nat) (vs : List AV), off + vs.length ≤ cs.length → overAV cs off vs = cs.take off ++ vs ++ cs.drop (off + vs.length) := by
  intro cs
  induction cs with
  | nil => intro off vs hl; cases vs with
    | nil => simp [overAV]
    | cons v r => simp at hl
  | cons c r ih =>
    intro off vs hl
    cases vs with
    | nil => simp [overAV]
    | cons v t =>
      cases off with
      | zero =>
        simp only [overAV]
        rw [ih 0 t (by simp at hl ⊢; omega)]; simp
      | succ n =>
        simp only [overAV]
        rw [ih n (v :: t) (by simp at hl ⊢; omega)]
        simp only [List.take_succ_cons, List.cons_append]
        congr 2
        rw [show n + 1 + (v :: t).length = n + (v :: t).length + 1 from by omega]; rfl

theorem run_storeAt {ty : TypeId} {ti : TI} (hT : TOk P T) (hti : T ty = some ti) {g off : Nat} {t : TypeId} {arr : Array Value} (hg : w.heap[g]? = some (.cells arr t (0, 0))) {u : Value} (hsz : u.cells.size = ti.size)
    (hle : off + ti.size ≤ arr.size) (h1 : ∀ x ∈ u.cells.toList, x.oneCell' = true) :
    (Instr.storeAt ty (.pointer (some ⟨g, off, none⟩)) u).run P w = .ok () (w.setRow g (arr.toList.take off ++ u.cells.toList ++ arr.toList.drop (off + ti.size)).toArray) := by
  obtain ⟨i, d, z, hi, _, hs, _⟩ := (hT.facts hti).ex
  have hr := run_storeCells_at (P := P) g off t u.cells.toList 0 arr w hg (by simp; omega) h1
  simp only [Nat.add_zero, Array.length_toList, hsz] at hr
  simp only [Instr.storeAt, Instr.sureAddr, storeVar, sizeOf, typeInfo, Sem.run_bind, Sem.run_pure, Result.andThen_ok, run_program, hi, hs, hsz, ne_eq, not_true_eq_false, if_false]
  exact hr

theorem get3 {α : Type} (a b c : List α) (q : Nat) : (a ++ b ++ c)[q]? = if q < a.length then a[q]? else if q < a.length + b.length then b[q - a.length]? else c[q - a.length - b.length]? := by
  by_cases h1 : q < a.length
  · rw [if_pos h1, List.append_assoc, List.getElem?_append_left h1]
  · rw [if_neg h1]
    by_cases h2 : q < a.length + b.length
    · rw [if_pos h2, List.append_assoc, List.getElem?_append_right (by omega), List.getElem?_append_left (by omega)]
    · rw [if_neg h2, List.append_assoc, List.getElem?_append_right (by omega), List.getElem?_append_right (by omega)]

theorem group_other {cells ds : List Value} {sz i j off m : Nat} (hne : j ≠ i) (hoff : off + m ≤ sz) (hds : ds.length = m) (hi : i * sz + sz ≤ cells.length) :
    ((cells.take (i * sz + off) ++ ds ++ cells.drop (i * sz + off + m)).drop (j * sz)).take sz = (cells.drop (j * sz)).take sz := by
  apply List.ext_getElem?
  intro q
  have la : (cells.take (i * sz + off)).length = i * sz + off := by simp; omega
  by_cases hq : q < sz
  · rw [List.getElem?_take_of_lt hq, List.getElem?_take_of_lt hq, List.getElem?_drop, List.getElem?_drop, get3, la, hds]
    rcases Nat.lt_or_gt_of_ne hne with g | g
    · have hm : j * sz + sz ≤ i * sz := by
        have := Nat.mul_le_mul_right sz (show j + 1 ≤ i from g)
        rw [Nat.add_mul, Nat.one_mul] at this; exact this
      rw [if_pos (by omega), List.getElem?_take_of_lt (by omega)]
    · have hm : i * sz + sz ≤ j * sz := by
        have := Nat.mul_le_mul_right sz (show i + 1 ≤ j from g)
        rw [Nat.add_mul, Nat.one_mul] at this; exact this
      rw [if_neg (by omega), if_neg (by omega), List.getElem?_drop]
      congr 1; omega
  · rw [List.getElem?_eq_none (by simp; omega), List.getElem?_eq_none (by simp; omega)]

theorem group_same {cells ds : List Value} {sz i off m : Nat} (hoff : off + m ≤ sz) (hds : ds.length = m) (hi : i * sz + sz ≤ cells.length) :
    ((cells.take (i * sz + off) ++ ds ++ cells.drop (i * sz + off + m)).drop (i * sz)).take sz = ((cells.drop (i * sz)).take sz).take off ++ ds ++ ((cells.drop (i * sz)).take sz).drop (off + m) := by
  apply List.ext_getElem?
  intro q
  have la : (cells.take (i * sz + off)).length = i * sz + off := by simp; omega
  have lb : (((cells.drop (i * sz)).take sz).take off).length = off := by simp; omega
  by_cases hq : q < sz
  · rw [List.getElem?_take_of_lt hq, List.getElem?_drop, get3, get3, la, lb, hds]
    by_cases q1 : q < off
    · rw [if_pos (by omega), if_pos q1, List.getElem?_take_of_lt (by omega), List.getElem?_take_of_lt q1, List.getElem?_take_of_lt hq, List.getElem?_drop]
    · by_cases q2 : q < off + m
      · rw [if_neg (by omega), if_neg q1, if_pos (by omega), if_pos (by omega)]
        congr 1; omega
      · rw [if_neg (by omega), if_neg q1, if_neg (by omega), if_neg (by omega), List.getElem?_drop, List.getElem?_drop, List.getElem?_take_of_lt (by omega), List.getElem?_drop]
        congr 1; omega
  · rw [List.getElem?_eq_none (by simp; omega), List.getElem?_eq_none (by simp; omega)]

theorem evStore_sound (hT : TOk P T) (s : Sat w0 R0 Y ι0 ι h w) {ty : TypeId} {a v : AV} {p u : Value} {K : AV → List Blk → Option Out} (ha : AVR ι a p) (hv : AVR ι v u) (he : evStore T ty a v h K = some out) :
    ∃ w' h', (Instr.storeAt ty p u).run P w = .ok () w' ∧ Sat w0 R0 Y ι0 ι h' w' ∧ K .any h' = some out := by
  unfold evStore at he
  split at he
  · cases he
  · rename_i ti hti
    cases hok : okVal v && (cellsOf v).length == ti.size with
    | false => rw [hok] at he; cases he
    | true =>
      rw [hok] at he
      simp only [Bool.and_eq_true, beq_iff_eq] at hok
      obtain ⟨hok, hsz⟩ := hok
      simp only [cond_true] at he
      obtain ⟨hcv, h1⟩ := cellsOf_sound hv hok
      have hszu : u.cells.size = ti.size := by have := hcv.length; simp at this; omega
      split at he
      · rename_i id off
        cases ha with | ptr _ _ b hu => ?_
        split at he
        · rename_i t cs hb
          rw [nth_eq] at hb
          cases hle : Nat.ble (off + ti.size) cs.length with
          | false => rw [hle] at he; cases he
          | true =>
            rw [hle] at he
            simp only [cond_true] at he
            have hle' : off + ti.size ≤ cs.length := by simpa [Nat.ble_eq] using hle
            obtain ⟨g, arr, e1, hg, hcs⟩ := s.br _ _ _ hb hu
            simp only [Value.pointer.injEq, Option.some.injEq, Addr.mk.injEq, and_true] at e1
            subst e1
            have hlen := hcs.length
            simp at hlen
            refine ⟨_, _, run_storeAt hT hti hg hszu (by omega) h1, ?_, he⟩
            rw [setNth_eq, overAV_eq _ _ _ (by omega), hsz]
            refine s.turn hb rfl hu (fun k _ hk => setRow_other w b k _ (fun e => hk (by subst e; rfl))) (by simp) rfl rfl rfl _ ?_
            refine ⟨b, _, rfl, setRow_heap w b arr _ t (0, 0) hg, ?_⟩
            simpa using ((hcs.take off).append hcv).append (hcs.drop (off + ti.size))
        · cases he
      · rename_i id i size off
        cases ha with | elt _ _ _ _ b o n c hu => ?_
        split at he
        · rename_i σ hσ
          split at he
          · rename_i y h' hun
            obtain ⟨c1, c2, ec, s', dy, v2, hRW, _⟩ := unavs_sound σ s hcv hun
            cases v2
            rw [List.append_nil] at ec
            split at he
            · rename_i e τ xs hb
              rw [nth_eq] at hb
              cases hz : size == τ.size && σ.size == ti.size with
              | false => rw [hz] at he; cases he
              | true =>
                rw [hz] at he
                simp only [Bool.and_eq_true, beq_iff_eq] at hz
                obtain ⟨rfl, hz2⟩ := hz
                simp only [cond_true] at he
                cases hx : xs[i]? with
                | none => rw [hx] at he; cases he
                | some x =>
                  rw [hx] at he
                  simp only [Option.bind_some] at he
                  have hi := get_lt hx
                  have hxi : xs[i] = x := by rw [List.getElem?_eq_getElem hi] at hx; exact Option.some.inj hx
                  split at he
                  · rename_i x' hset
                    obtain ⟨h0, cells, ho, hd⟩ := s'.br _ _ _ hb hu
                    obtain ⟨hl, hr⟩ := ho
                    rcases hr with ⟨e1, hn⟩ | ⟨g, cap, cur, e1, hg0, hc, g1, g2, g3, g4⟩
                    · cases e1
                    · simp only [Value.slice.injEq, Option.some.injEq, Addr.mk.injEq] at e1
                      obtain ⟨⟨rfl, rfl, _⟩, rfl, rfl⟩ := e1
                      have hmul : i * τ.size + τ.size ≤ xs.length * τ.size := by
                        have := Nat.mul_le_mul_right τ.size (show i + 1 ≤ xs.length from hi)
                        rw [Nat.add_mul, Nat.one_mul] at this; exact this
                      have hcap : xs.length * τ.size ≤ c * τ.size := Nat.mul_le_mul_right _ g1
                      have hdi := hd i hi
                      rw [hxi] at hdi
                      obtain ⟨q1, q2⟩ := setPart_sound τ hdi dy hset
                      have hoff : off + σ.size ≤ τ.size := by
                        have := hdi.length; omega
                      have hc1 : c1.length = σ.size := dy.length
                      have hstore := run_storeAt hT hti hc hszu (off := 0 + i * τ.size + off) (by omega) h1
                      refine ⟨_, _, hstore, ?_, he⟩
                      rw [setNth_eq]
                      have hnew : (cur.toList.take (0 + i * τ.size + off) ++ u.cells.toList ++ cur.toList.drop (0 + i * τ.size + off + ti.size)).length = c * τ.size := by
                        simp; omega
                      have hsame : ∀ k, (Y k ∨ RW ι (h'.set id (.vec true e τ (xs.set i x'))) k) ↔ (Y k ∨ RW ι h' k) := by
                        intro k
                        refine or_congr Iff.rfl ⟨?_, ?_⟩
                        · rintro ⟨j, bl, v3, p1, p2, p3, p4⟩
                          by_cases ej : j = id
                          · subst ej; rw [hu] at p3; cases p3; exact ⟨_, _, _, hb, rfl, hu, p4⟩
                          · rw [List.getElem?_set_ne (Ne.symm ej)] at p1; exact ⟨j, bl, v3, p1, p2, p3, p4⟩
                        · rintro ⟨j, bl, v3, p1, p2, p3, p4⟩
                          by_cases ej : j = id
                          · subst ej; rw [hu] at p3; cases p3
                            exact ⟨_, _, _, List.getElem?_set_self (get_lt hb), rfl, hu, p4⟩
                          · exact ⟨j, bl, v3, by rw [List.getElem?_set_ne (Ne.symm ej)]; exact p1, p2, p3, p4⟩
                      have hgRW : RW ι h' b := ⟨id, _, _, hb, rfl, hu, rfl⟩
                      have hstep : ∀ k, k < w.heap.size → ¬ (Y k ∨ RW ι h' k) → ¬ (Y k ∨ RW ι (h'.set id (.vec true e τ (xs.set i x'))) k) ∧ (w.setRow b (cur.toList.take (0 + i * τ.size + off) ++ u.cells.toList ++ cur.toList.drop (0 + i * τ.size + off + ti.size)).toArray).heap[k]? = w.heap[k]? := by
                        intro k _ hk
                        exact ⟨fun q => hk ((hsame k).1 q), setRow_other w b k _ (fun q => hk (.inr (by rw [q]; exact hgRW)))⟩
                      refine s'.turn hb rfl hu (fun k _ hk => setRow_other w b k _ (fun e => hk (by subst e; rfl))) (by simp) rfl rfl rfl _ ?_
                      refine ⟨h0, cells.take (i * τ.size + off) ++ c1 ++ cells.drop (i * τ.size + off + σ.size), ⟨?_, .inr ⟨b, c, _, by simp, hg0, setRow_heap w b cur _ e (0, 0) hc, by simpa using g1, g2, by simpa using hnew, ?_⟩⟩, ?_⟩
                      · simp; omega
                      · simp only [List.length_set]
                        apply List.ext_getElem?
                        intro q
                        have ecells : ∀ q, q < xs.length * τ.size → cells[q]? = cur.toList[q]? := by
                          intro q hq; rw [← g4, List.getElem?_take_of_lt hq]
                        have la : (cells.take (i * τ.size + off)).length = i * τ.size + off := by simp; omega
                        have lb : (cur.toList.take (0 + i * τ.size + off)).length = i * τ.size + off := by simp; omega
                        by_cases hq : q < xs.length * τ.size
                        · rw [List.getElem?_take_of_lt hq, ec, get3, get3, la, lb, hc1]
                          by_cases q1' : q < i * τ.size + off
                          · rw [if_pos q1', if_pos q1', List.getElem?_take_of_lt (by omega), List.getElem?_take_of_lt q1', ecells q hq]
                          · by_cases q2' : q < i * τ.size + off + σ.size
                            · rw [if_neg q1', if_neg q1', if_pos q2', if_pos q2']
                            · rw [if_neg q1', if_neg q1', if_neg q2', if_neg q2', List.getElem?_drop, List.getElem?_drop, ecells _ (by omega)]
                              congr 1; omega
                        · rw [List.getElem?_eq_none (by simp; omega), List.getElem?_eq_none (by simp; omega)]
                      · intro j hj
                        simp only [List.length_set] at hj
                        by_cases ej : j = i
                        · subst ej
                          rw [List.getElem_set_self, group_same hoff hc1 (by omega)]
                          exact q2.step hstep
                        · rw [List.getElem_set_ne (Ne.symm ej), group_other ej hoff hc1 (by omega)]
                          exact (hd j hj).step hstep
                  · cases he
            · cases he
          · cases he
        · cases he
      · cases he
end
end Go.Ev

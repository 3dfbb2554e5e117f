/-
  Operations that make blocks.
-/
import Derived.Test.YtcddghcjllgbiaaEvI
namespace Go.Ev
open Go.RowKit

section
variable {P : Program} {T : Types} {w0 w : World} {R0 Y : Nat → Prop} {ι0 ι : List Value} {h : List Blk} {out : Out}

theorem heap_alloc_old (w : World) (o : Obj) (k : Nat) (hk : k < w.heap.size) : (w.alloc o).heap[k]? = w.heap[k]? := Below.heap_alloc w o k hk

/-- A new block of variables. -/
theorem Sat.cells (s : Sat w0 R0 Y ι0 ι h w) (t : TypeId) {cs : List AV} {us : Array Value} (hc : AVRs ι cs us.toList) :
    Sat w0 R0 Y ι0 (ι ++ [.pointer (some ⟨w.heap.size, 0, none⟩)]) (h ++ [.cells t cs]) (w.alloc (.cells us t)) ∧
    AVR (ι ++ [.pointer (some ⟨w.heap.size, 0, none⟩)]) (.ptr h.length 0) (.pointer (some ⟨w.heap.size, 0, none⟩)) := by
  refine ⟨s.push (fun k hk => heap_alloc_old w _ k hk) (by simp) rfl rfl rfl _ _ (fun _ k hk => ?_) ?_, ?_⟩
  · simp [vblock] at hk; omega
  · exact ⟨w.heap.size, us, rfl, heap_alloc_new w _, hc.ext (Ext.app _ _)⟩
  · refine .ptr _ _ _ ?_
    rw [← s.len, List.getElem?_append_right (Nat.le_refl _)]; simp

theorem evAlloc_sound (hT : TOk P T) (s : Sat w0 R0 Y ι0 ι h w) {e : TypeId} {ti : TI} (hti : T e = some ti) {K : AV → List Blk → Option Out}
    (he : K (.ptr (zeroCells ti.zero h).2.length 0) ((zeroCells ti.zero h).2 ++ [.cells e (zeroCells ti.zero h).1]) = some out) :
    Did P w0 R0 Y ι0 ι w (Instr.alloc e true (.tuple #[])) K out := by
  obtain ⟨i, d, z, hi, _, _, _, _, _, hz, hzo, _⟩ := (hT.facts hti).ex
  obtain ⟨r, s1, v1⟩ := zeroCells_sound ti.zero s (ZRs.of_zOk (ι := ι) hzo)
  obtain ⟨s2, v2⟩ := s1.cells e v1
  refine ⟨r ++ [_], _, _, _, _, ?_, by simpa using s2, by simpa using v2, he⟩
  simp [Instr.alloc, zeroValue, typeInfo, hi, hz, newVar, newRow]

theorem evBox_sound (s : Sat w0 R0 Y ι0 ι h w) {e : TypeId} {v : AV} {u : Value} (hv : AVR ι v u) (hok : okVal v = true) {K : AV → List Blk → Option Out}
    (he : K (.ptr h.length 0) (h ++ [.cells e (cellsOf v)]) = some out) : Did P w0 R0 Y ι0 ι w (Instr.box e u) K out := by
  obtain ⟨hc, _⟩ := cellsOf_sound hv hok
  obtain ⟨s2, v2⟩ := s.cells e hc
  exact ⟨_, _, _, _, _, by simp [Instr.box, newVar, newRow], s2, v2, he⟩

/-! ### Parts laid over cells -/

theorem foldl_set (l : List Value) : ∀ (k off : Nat) (cs : Array Value), off + k + l.length ≤ cs.size →
    ((l.zipIdx k).foldl (fun cs (p : Value × Nat) => cs.setIfInBounds (off + p.2) p.1) cs).toList = cs.toList.take (off + k) ++ l ++ cs.toList.drop (off + k + l.length) := by
  induction l with
  | nil => intro k off cs _; simp
  | cons v r ih =>
    intro k off cs hl
    simp only [List.zipIdx_cons, List.foldl_cons]
    rw [show off + k + (v :: r).length = off + (k + 1) + r.length from by simp; omega]
    rw [ih (k + 1) off _ (by simp at hl ⊢; omega)]
    simp only [List.length_cons] at hl
    apply List.ext_getElem?
    intro q
    rw [get3, get3]
    simp only [Array.toList_setIfInBounds, List.length_take, List.length_set, Array.length_toList, List.length_cons]
    by_cases h1 : q < off + k
    · rw [if_pos (by omega), if_pos (by omega), List.getElem?_take_of_lt (by omega), List.getElem?_take_of_lt h1, List.getElem?_set_ne (by omega)]
    · by_cases h2 : q = off + k
      · subst h2
        rw [if_pos (by omega), if_neg (by omega), if_pos (by omega), List.getElem?_take_of_lt (by omega), List.getElem?_set_self (by simp; omega)]
        rw [show off + k - min (off + k) cs.size = 0 from by omega]; rfl
      · by_cases h3 : q < off + (k + 1) + r.length
        · rw [if_neg (by omega), if_pos (by omega), if_neg (by omega), if_pos (by omega)]
          rw [show q - min (off + k) cs.size = q - min (off + (k + 1)) cs.size + 1 from by omega]; rfl
        · rw [if_neg (by omega), if_neg (by omega), if_neg (by omega), if_neg (by omega), List.getElem?_drop, List.getElem?_drop, List.getElem?_set_ne (by omega)]
          congr 1; omega

theorem fill_step (v : Value) (off : Nat) (cs : Array Value) (hl : off + v.cells.size ≤ cs.size) :
    (v.cells.zipIdx.foldl (fun cs (p : Value × Nat) => cs.setIfInBounds (off + p.2) p.1) cs).toList = cs.toList.take off ++ v.cells.toList ++ cs.toList.drop (off + v.cells.size) := by
  have := foldl_set v.cells.toList 0 off cs (by simp; omega)
  rw [← Array.foldl_toList]
  simpa using this

theorem fieldsEq_get : ∀ {l : List Field} {fs : List (Nat × TypeId)} {i o : Nat} {t : TypeId}, fieldsEq l fs = true → nth fs i = some (o, t) → ∃ f, l[i]? = some f ∧ f.offset = o ∧ f.type = t := by
  intro l
  induction l with
  | nil => intro fs i o t h hn; cases fs with | nil => cases hn | cons _ _ => simp [fieldsEq] at h
  | cons f r ih =>
    intro fs i o t h hn
    cases fs with
    | nil => simp [fieldsEq] at h
    | cons x s =>
      obtain ⟨o', t'⟩ := x
      simp only [fieldsEq, Bool.and_eq_true, beq_iff_eq] at h
      cases i with
      | zero => simp [nth] at hn; exact ⟨f, rfl, h.1.1.trans hn.1, h.1.2.trans hn.2⟩
      | succ i => simpa using ih h.2 hn

theorem mapM_places : ∀ (l : List Field), (∀ f ∈ l, ∃ i, P.info? f.type = some i) →
    (l.mapM (fun f => do pure (f.offset, ← sizeOf f.type)) : Sem (List (Nat × Nat))).run P w = .ok (l.map fun f => (f.offset, ((P.info? f.type).map (·.size)).getD 0)) w := by
  intro l
  induction l with
  | nil => intro _; rfl
  | cons f r ih =>
    intro hf
    obtain ⟨i, hi⟩ := hf f (by simp)
    have := ih (fun g hg => hf g (by simp [hg]))
    simp only [List.mapM_cons, Sem.run_bind, sizeOf, typeInfo, run_program, hi, Result.andThen_ok, Sem.run_pure, List.map_cons, Option.map_some, Option.getD_some] at this ⊢
    rw [this]; rfl


theorem fieldsEq_all : ∀ {l : List Field} {fs : List (Nat × TypeId)}, fieldsEq l fs = true → (∀ x ∈ fs, ∃ i, P.info? x.2 = some i) → ∀ f ∈ l, ∃ i, P.info? f.type = some i := by
  intro l
  induction l with
  | nil => intro fs _ _ f hf; cases hf
  | cons f r ih =>
    intro fs h hx g hg
    cases fs with
    | nil => simp [fieldsEq] at h
    | cons x s =>
      obtain ⟨o', t'⟩ := x
      simp only [fieldsEq, Bool.and_eq_true, beq_iff_eq] at h
      rcases List.mem_cons.1 hg with rfl | hg
      · rw [h.1.2]; exact hx (o', t') (by simp)
      · exact ih h.2 (fun x hx' => hx x (by simp [hx'])) g hg

theorem buildZ_sound (hT : TOk P T) {t : List AV} {a : Act} (ht : AVRs ι t a.tmps.toList) {arr : List Field} {fs : List (Nat × TypeId)} (hfs : fieldsEq arr fs = true) (place : Nat → Option (Nat × Nat))
    (hpl : ∀ (i : Nat) (f : Field), arr[i]? = some f → place i = some (f.offset, ((P.info? f.type).map (·.size)).getD 0)) :
    ∀ (ps : List (Nat × Operand)) {z z' : List ZC} {us : Array Value}, ZRs ι z us.toList → buildZ T t fs ps z = some z' →
      ∃ us', Instr.fill place us (ps.map fun p => (p.1, a.eval p.2)) = some us' ∧ ZRs ι z' us'.toList := by
  intro ps
  induction ps with
  | nil => intro z z' us hz he; cases he; exact ⟨us, rfl, hz⟩
  | cons p r ih =>
    obtain ⟨i, x⟩ := p
    intro z z' us hz he
    simp only [buildZ] at he
    split at he
    · rename_i o ty v hn hv
      split at he
      · rename_i ti hti
        cases hq : okVal v && (cellsOf v).length == ti.size && Nat.ble (o + ti.size) z.length with
        | false => rw [hq] at he; cases he
        | true =>
          rw [hq] at he
          simp only [Bool.and_eq_true, beq_iff_eq, Nat.ble_eq] at hq
          obtain ⟨⟨hok, hsz⟩, hle⟩ := hq
          obtain ⟨f, hf, rfl, rfl⟩ := fieldsEq_get hfs hn
          obtain ⟨hcv, _⟩ := cellsOf_sound (evalR_sound ht hv) hok
          have hl1 := hcv.length
          have hl2 := hz.length
          simp at hl1 hl2
          have hover := hz.over f.offset hcv (by omega)
          rw [show (a.eval x).cells.toList.length = (a.eval x).cells.size from by simp] at hover
          rw [← fill_step (a.eval x) f.offset us (by omega)] at hover
          obtain ⟨us', h1, h2⟩ := ih hover he
          refine ⟨us', ?_, h2⟩
          simp only [List.map_cons, Instr.fill, hpl i f hf, info_size hT hti, Option.getD_some]
          rw [if_neg (by simp; omega)]
          exact h1
      · cases he
    · cases he


theorem evBuild_sound (hT : TOk P T) (s : Sat w0 R0 Y ι0 ι h w) {t : List AV} {a : Act} (ht : AVRs ι t a.tmps.toList) {ty : TypeId} {fs : List (Nat × TypeId)} {τ : Option Ty} {sz by' : Nat} {z z' : List ZC}
    (hti : T ty = some ⟨.struct fs, τ, sz, by', z⟩) {ps : Array (Nat × Operand)} (hb : buildZ T t fs ps.toList z = some z') {K : AV → List Blk → Option Out}
    (he : K (.agg (zeroCells z' h).1) (zeroCells z' h).2 = some out) : Did P w0 R0 Y ι0 ι w (Instr.build ty (ps.map fun (i, x) => (i, a.eval x))) K out := by
  have F := hT.facts hti
  obtain ⟨i, d, zv, hi, hd, _, _, hde, _, hz, hzo, _⟩ := F.ex
  obtain ⟨arr, hu, hfs⟩ := desc_row hT hti rfl
  have hall := fieldsEq_all hfs (fun x hx => F.fields fs rfl x hx)
  have hpl : ∀ (i : Nat) (f : Field), arr.toList[i]? = some f → (arr.map fun f => (f.offset, ((P.info? f.type).map (·.size)).getD 0))[i]? = some (f.offset, ((P.info? f.type).map (·.size)).getD 0) := by
    intro i f hf; rw [Array.getElem?_toList] at hf; rw [Array.getElem?_map, hf]; rfl
  obtain ⟨us', h1, h2⟩ := buildZ_sound hT ht hfs _ hpl ps.toList (ZRs.of_zOk (ι := ι) hzo) hb
  obtain ⟨r, s1, v1⟩ := zeroCells_sound z' s h2
  have hm : (arr.mapM (fun f => do pure (f.offset, ← sizeOf f.type)) : Sem (Array (Nat × Nat))).run P w = .ok (arr.map fun f => (f.offset, ((P.info? f.type).map (·.size)).getD 0)) w := by
    rw [Array.mapM_eq_mapM_toList]
    have := mapM_places (P := P) (w := w) arr.toList hall
    rw [map_eq_pure_bind, Sem.run_bind, this]
    simp
    rw [← Array.toList_map]
  refine ⟨r, _, .agg us', w, _, ?_, s1, ?_, he⟩
  · have e : (ps.map fun x => (x.1, a.eval x.2)).toList = ps.toList.map fun p => (p.1, a.eval p.2) := by simp
    simp only [Instr.build, zeroValue, typeInfo, Sem.run_bind, run_program, hi, hz, Sem.run_pure, Result.andThen_ok, run_underlying hu, hm]
    rw [show (ps.map fun (x : Nat × Operand) => match x with | (i, x) => (i, a.eval x)) = ps.map fun x => (x.1, a.eval x.2) from rfl, e, h1]
    rfl
  · simpa using AVR.agg _ us'.toList v1

/-! ### Rows -/

theorem evMake_sound (hT : TOk P T) (s : Sat w0 R0 Y ι0 ι h w) {ty e : TypeId} {σ : Ty} {sz by' : Nat} {z : List ZC} (hti : T ty = some ⟨.slice e, some (.slice σ), sz, by', z⟩) {ei : TI} (hei : T e = some ei)
    {kn km : IntKind} {n m : Int} {n' m' : Nat} (hm : making m ei.bytes = some m') (hn : upto n m' = some n') {K : AV → List Blk → Option Out}
    (he : K (.whole h.length) (h ++ [.vec true e σ (List.replicate n' σ.zero)]) = some out) : Did P w0 R0 Y ι0 ι w (Instr.makeSlice ty (.int kn n) (.int km m)) K out := by
  obtain ⟨_, d, _, _, hd, _, _, hde, hta, _⟩ := (hT.facts hti).ex
  have hu : P.underlying ty = some (.slice e) := by
    cases d <;> simp [descOk] at hde
    obtain ⟨rfl, _⟩ := hde; exact hd
  simp only [tauOk, hei, Bool.and_eq_true, decide_eq_true_eq, beq_iff_eq, Nat.blt_eq] at hta
  obtain ⟨_, ⟨hτ, hsz⟩, hpos⟩ := hta
  obtain ⟨i, _, zv, hi, _, hs1, hb1, _, _, hz, _, hzp⟩ := (hT.facts hei).ex
  obtain ⟨c0, ec, hd0⟩ := zPrefix_DR (w := w.alloc (.cells (madeCells zv.cells (m' * i.size)) e)) (A := fun k => Y k ∨ RW (ι ++ [.slice (some ⟨w.heap.size, 0, none⟩) n' m']) (h ++ [.vec true e σ (List.replicate n' σ.zero)]) k) σ (hzp σ hτ)
  rw [List.append_nil] at ec
  have hsz' : zv.cells.size = σ.size := by
    have := hd0.length; rw [← ec] at this; simpa using this
  unfold making at hm
  split at hm
  · rename_i g
    obtain ⟨gg, g1, g2⟩ := g
    have hm' : m' = m.toNat := (Option.some.inj hm).symm
    unfold upto at hn
    split at hn
    · rename_i g'
      have hn' : n' = n.toNat := (Option.some.inj hn).symm
      have hr := run_make (P := P) w ty e i zv hu hi hz kn km n m g'.1 (by omega) (by rw [hb1]; omega) g2
      rw [← hm', ← hn'] at hr
      have hsi : i.size = σ.size := by rw [hs1, hsz]
      refine ⟨[.slice (some ⟨w.heap.size, 0, none⟩) n' m'], .whole h.length, _, _, _, hr, ?_, ?_, he⟩
      · refine s.push (fun k hk => heap_alloc_old w _ k hk) (by simp) rfl rfl rfl _ _ (fun _ k hk => ?_) ⟨hpos, ((madeCells zv.cells (m' * i.size)).toList.take (n' * σ.size)), ⟨?_, .inr ⟨w.heap.size, m', madeCells zv.cells (m' * i.size), by simp, Nat.zero_le _, heap_alloc_new w _, by simp; omega, ?_, ?_, by simp⟩⟩, ?_⟩
        · simp [vblock] at hk; omega
        · have : n' * σ.size ≤ m' * i.size := by rw [hsi]; exact Nat.mul_le_mul_right _ (by omega)
          simp [size_madeCells]; omega
        · simp [maxLen]; omega
        · rw [size_madeCells, hsi]
        · intro j hj
          simp only [List.length_replicate] at hj
          rw [List.getElem_replicate]
          have hjm : j * σ.size + σ.size ≤ n' * σ.size := by
            have := Nat.mul_le_mul_right σ.size (show j + 1 ≤ n' from hj)
            rw [Nat.add_mul, Nat.one_mul] at this; exact this
          have hnm : n' * σ.size ≤ m' * σ.size := Nat.mul_le_mul_right _ (by omega)
          have eg : ((((madeCells zv.cells (m' * i.size)).toList.take (n' * σ.size)).drop (j * σ.size)).take σ.size) = zv.cells.toList := by
            apply List.ext_getElem?
            intro q
            by_cases hq : q < σ.size
            · rw [List.getElem?_take_of_lt hq, List.getElem?_drop, List.getElem?_take_of_lt (by omega)]
              simp only [madeCells, Array.toList_map, Array.toList_range, List.getElem?_map]
              rw [List.getElem?_range (by rw [hsi]; omega)]
              simp only [Option.map_some]
              have : (j * σ.size + q) % zv.cells.size = q := by
                rw [hsz', Nat.add_comm, Nat.add_mul_mod_self_right, Nat.mod_eq_of_lt hq]
              rw [this, Array.getElem?_toList, getElem!_pos zv.cells q (by omega), Array.getElem?_eq_getElem (by omega)]
            · rw [List.getElem?_eq_none (by simp; omega), List.getElem?_eq_none (by simp; omega)]
          rw [eg, ec]
          refine DR.step (fun k _ hk => ⟨hk, rfl⟩) hd0
      · refine .whole _ _ _ _ ?_
        rw [← s.len, List.getElem?_append_right (Nat.le_refl _)]; simp
    · cases hn
  · cases hm

end
end Go.Ev

/-
  Rows written out.
-/
import Derived.Test.YtcddghcjllgbiaaEvJ
namespace Go.Ev
open Go.RowKit

section
variable {P : Program} {T : Types} {w0 w : World} {R0 Y : Nat → Prop} {ι0 ι : List Value} {h : List Blk} {out : Out}

theorem elem_facts (hT : TOk P T) {ty e : TypeId} {σ : Ty} {sz by' : Nat} {z : List ZC} (hti : T ty = some ⟨.slice e, some (.slice σ), sz, by', z⟩) :
    P.underlying ty = some (.slice e) ∧ ∃ ei, T e = some ei ∧ ei.τ = some σ ∧ σ.size = ei.size ∧ 0 < σ.size := by
  obtain ⟨_, d, _, _, hd, _, _, hde, hta, _⟩ := (hT.facts hti).ex
  have hu : P.underlying ty = some (.slice e) := by
    cases d <;> simp [descOk] at hde
    obtain ⟨rfl, _⟩ := hde; exact hd
  refine ⟨hu, ?_⟩
  simp only [tauOk, Bool.and_eq_true] at hta
  obtain ⟨_, hta⟩ := hta
  split at hta
  · rename_i σ' ei e1 e2
    cases e1
    simp only [Bool.and_eq_true, decide_eq_true_eq, beq_iff_eq, Nat.blt_eq] at hta
    exact ⟨ei, e2, hta.1.1, hta.1.2, hta.2⟩
  · cases hta

theorem buildS_sound {t : List AV} {a : Act} (σ : Ty) (hpos : 0 < σ.size) :
    ∀ (ps : List (Nat × Operand)) {h h' : List Blk} {l l' : List σ.den} {us : Array Value}, Sat w0 R0 Y ι0 ι h w → AVRs ι t a.tmps.toList → us.size = l.length * σ.size →
      (∀ i (_ : i < l.length), DR w (fun k => Y k ∨ RW ι h k) σ l[i] ((us.toList.drop (i * σ.size)).take σ.size)) → buildS t σ ps l h = some (l', h') →
      ∃ us', Instr.fill (fun i => some (i * σ.size, σ.size)) us (ps.map fun p => (p.1, a.eval p.2)) = some us' ∧ Sat w0 R0 Y ι0 ι h' w ∧ us'.size = us.size ∧ l'.length = l.length ∧
        (∀ i (_ : i < l'.length), DR w (fun k => Y k ∨ RW ι h' k) σ l'[i] ((us'.toList.drop (i * σ.size)).take σ.size)) := by
  intro ps
  induction ps with
  | nil => intro h h' l l' us s ht hsz hd he; cases he; exact ⟨us, rfl, s, rfl, rfl, hd⟩
  | cons p r ih =>
    obtain ⟨i, x⟩ := p
    intro h h' l l' us s ht hsz hd he
    simp only [buildS] at he
    split at he
    · rename_i v hv
      cases hq : okVal v && Nat.blt i l.length with
      | false => rw [hq] at he; cases he
      | true =>
        rw [hq] at he
        simp only [Bool.and_eq_true, Nat.blt_eq] at hq
        obtain ⟨hok, hi⟩ := hq
        simp only [cond_true] at he
        split at he
        · rename_i y h1 hun
          obtain ⟨hcv, _⟩ := cellsOf_sound (evalR_sound ht hv) hok
          obtain ⟨c1, c2, ec, s1, dy, v2, hRW, _⟩ := unavs_sound σ s hcv hun
          cases v2
          rw [List.append_nil] at ec
          have hc1 : c1.length = σ.size := dy.length
          have hcs : (a.eval x).cells.size = σ.size := by rw [← hc1, ← ec]; simp
          have hle : i * σ.size + σ.size ≤ us.size := by
            have := Nat.mul_le_mul_right σ.size (show i + 1 ≤ l.length from hi)
            rw [Nat.add_mul, Nat.one_mul] at this; omega
          have hfs := fill_step (a.eval x) (i * σ.size) us (by omega)
          rw [ec, hcs] at hfs
          have hA : ∀ k, k < w.heap.size → ¬ (Y k ∨ RW ι h k) → ¬ (Y k ∨ RW ι h1 k) ∧ w.heap[k]? = w.heap[k]? :=
            fun k _ hk => ⟨fun q => hk (q.imp id (hRW k)), rfl⟩
          have hnew : (us.toList.take (i * σ.size) ++ c1 ++ us.toList.drop (i * σ.size + σ.size)).length = us.size := by simp; omega
          have hs2 : ((a.eval x).cells.zipIdx.foldl (fun cs (p : Value × Nat) => cs.setIfInBounds (i * σ.size + p.2) p.1) us).size = (setNth l i y).length * σ.size := by
            rw [← Array.length_toList, hfs, hnew, setNth_eq, List.length_set, hsz]
          have hd2 : ∀ j (_ : j < (setNth l i y).length), DR w (fun k => Y k ∨ RW ι h1 k) σ (setNth l i y)[j] ((((a.eval x).cells.zipIdx.foldl (fun cs (p : Value × Nat) => cs.setIfInBounds (i * σ.size + p.2) p.1) us).toList.drop (j * σ.size)).take σ.size) := by
            intro j hj
            simp only [setNth_eq, List.length_set] at hj
            simp only [setNth_eq, hfs]
            by_cases ej : j = i
            · subst ej
              rw [List.getElem_set_self]
              have := group_same (cells := us.toList) (ds := c1) (sz := σ.size) (i := j) (off := 0) (m := σ.size) (by omega) hc1 (by simpa using hle)
              simp only [Nat.add_zero] at this
              rw [this]
              have e1 : ((us.toList.drop (j * σ.size)).take σ.size).drop (0 + σ.size) = [] := List.drop_eq_nil_of_le (by simp; omega)
              rw [e1]; simpa using dy
            · rw [List.getElem_set_ne (Ne.symm ej)]
              have := group_other (cells := us.toList) (ds := c1) (sz := σ.size) (i := i) (j := j) (off := 0) (m := σ.size) ej (by omega) hc1 (by simpa using hle)
              simp only [Nat.add_zero] at this
              rw [this]
              exact (hd j hj).step hA
          obtain ⟨us', g1, g2, g3, g4, g5⟩ := ih s1 ht hs2 hd2 he
          refine ⟨us', ?_, g2, ?_, ?_, g5⟩
          · simp only [List.map_cons, Instr.fill]
            rw [if_neg (by simp; omega)]
            exact g1
          · rw [g3, ← Array.length_toList, hfs, hnew]
          · rw [g4, setNth_eq, List.length_set]
        · cases he
    · cases he

theorem Sat.row (s : Sat w0 R0 Y ι0 ι h w) (e : TypeId) (σ : Ty) (hpos : 0 < σ.size) {l : List σ.den} {us : Array Value} (hsz : us.size = l.length * σ.size) (hl : l.length ≤ maxLen)
    (hd : ∀ i (_ : i < l.length), DR w (fun k => Y k ∨ RW ι h k) σ l[i] ((us.toList.drop (i * σ.size)).take σ.size)) :
    Sat w0 R0 Y ι0 (ι ++ [.slice (some ⟨w.heap.size, 0, none⟩) l.length l.length]) (h ++ [.vec true e σ l]) (w.alloc (.cells us e)) ∧
    AVR (ι ++ [.slice (some ⟨w.heap.size, 0, none⟩) l.length l.length]) (.whole h.length) (.slice (some ⟨w.heap.size, 0, none⟩) l.length l.length) := by
  refine ⟨s.push (fun k hk => heap_alloc_old w _ k hk) (by simp) rfl rfl rfl _ _ (fun _ k hk => ?_) ⟨hpos, us.toList, ⟨by simpa using hsz, .inr ⟨w.heap.size, l.length, us, rfl, Nat.zero_le _, heap_alloc_new w _, Nat.le_refl _, hl, hsz, List.take_of_length_le (by simp; omega)⟩⟩, fun i hi => ?_⟩, ?_⟩
  · simp [vblock] at hk; omega
  · refine DR.step (fun k hk hA => ⟨fun q => hA ?_, heap_alloc_old w _ k hk⟩) (hd i hi)
    rcases q with q | q
    · exact .inl q
    · rcases q.push s.len with q | ⟨_, q⟩
      · exact .inr q
      · simp [vblock] at q; omega
  · refine .whole _ _ _ _ ?_
    rw [← s.len, List.getElem?_append_right (Nat.le_refl _)]; simp

theorem evBuildSlice_sound (hT : TOk P T) (s : Sat w0 R0 Y ι0 ι h w) {t : List AV} {a : Act} (ht : AVRs ι t a.tmps.toList) {ty e : TypeId} {σ : Ty} {sz by' n : Nat} {z : List ZC}
    (hti : T ty = some ⟨.slice e, some (.slice σ), sz, by', z⟩) (hn : Nat.ble (n * σ.size) 16777216 = true) {ps : Array (Nat × Operand)} {l : List σ.den} {h' : List Blk} (hb : buildS t σ ps.toList (List.replicate n σ.zero) h = some (l, h'))
    {K : AV → List Blk → Option Out} (he : K (.whole h'.length) (h' ++ [.vec true e σ l]) = some out) : Did P w0 R0 Y ι0 ι w (Instr.buildSlice ty n (ps.map fun (i, x) => (i, a.eval x))) K out := by
  obtain ⟨hu, ei, hei, hτ, hsz, hpos⟩ := elem_facts hT hti
  obtain ⟨i, _, zv, hi, _, hs1, hb1, _, _, hz, _, hzp⟩ := (hT.facts hei).ex
  have hn' : n * σ.size ≤ 16777216 := by simpa [Nat.ble_eq] using hn
  have hsi : i.size = σ.size := by rw [hs1, hsz]
  obtain ⟨c0, ec, hd0⟩ := zPrefix_DR (w := w) (A := fun k => Y k ∨ RW ι h k) σ (hzp σ hτ)
  rw [List.append_nil] at ec
  have hsz' : zv.cells.size = σ.size := by
    have := hd0.length; rw [← ec] at this; simpa using this
  have hmade : ∀ j, j < n → ((((madeCells zv.cells (n * i.size)).toList.drop (j * σ.size)).take σ.size)) = zv.cells.toList := by
    intro j hj
    have hjm : j * σ.size + σ.size ≤ n * σ.size := by
      have := Nat.mul_le_mul_right σ.size (show j + 1 ≤ n from hj)
      rw [Nat.add_mul, Nat.one_mul] at this; exact this
    apply List.ext_getElem?
    intro q
    by_cases hq : q < σ.size
    · rw [List.getElem?_take_of_lt hq, List.getElem?_drop]
      simp only [madeCells, Array.toList_map, Array.toList_range, List.getElem?_map]
      rw [List.getElem?_range (by rw [hsi]; omega)]
      simp only [Option.map_some]
      have : (j * σ.size + q) % zv.cells.size = q := by
        rw [hsz', Nat.add_comm, Nat.add_mul_mod_self_right, Nat.mod_eq_of_lt hq]
      rw [this, Array.getElem?_toList, getElem!_pos zv.cells q (by omega), Array.getElem?_eq_getElem (by omega)]
    · rw [List.getElem?_eq_none (by simp; omega), List.getElem?_eq_none (by simp; omega)]
  obtain ⟨us', g1, g2, g3, g4, g5⟩ := buildS_sound (a := a) σ hpos ps.toList (us := madeCells zv.cells (n * i.size)) s ht (by simp [size_madeCells, hsi]) (fun j hj => by
    simp only [List.length_replicate] at hj
    rw [List.getElem_replicate, hmade j hj, ec]; exact hd0) hb
  simp only [List.length_replicate] at g4
  have hus : us'.size = l.length * σ.size := by rw [g3, size_madeCells, g4, hsi]
  have hln : l.length ≤ maxLen := by
    have : l.length * 1 ≤ l.length * σ.size := Nat.mul_le_mul_left _ hpos
    have h2 : l.length * σ.size ≤ 16777216 := by rw [g4]; exact hn'
    simp [maxLen]; omega
  obtain ⟨s2, v2⟩ := g2.row e σ hpos hus hln g5
  refine ⟨[_], _, _, _, _, ?_, s2, v2, he⟩
  have ee : (ps.map fun x => (x.1, a.eval x.2)).toList = ps.toList.map fun p => (p.1, a.eval p.2) := by simp
  rw [hsi] at g1
  have hnl : n * i.size = n * σ.size := by rw [hsi]
  simp only [Instr.buildSlice, Sem.run_bind, run_underlying hu, Result.andThen_ok, sizeOf, typeInfo, run_program, hi, Sem.run_pure, hsi]
  rw [if_neg (by omega)]
  rw [show (ps.map fun (x : Nat × Operand) => match x with | (i, x) => (i, a.eval x)) = ps.map fun x => (x.1, a.eval x.2) from rfl, ee]
  by_cases hz0 : n * σ.size = 0
  · have em : madeCells zv.cells (n * σ.size) = (Array.range (n * σ.size)).map ((#[] : Array Value)[· % (#[] : Array Value).size]!) := by
      rw [hz0]; simp [madeCells]
    rw [em] at g1
    simp only [hz0, if_true] at g1 ⊢
    simp only [g1, Sem.run_bind, newRow, run_newObj_alloc, Result.andThen_ok, Sem.run_pure, g4]
  · have em : madeCells zv.cells (n * σ.size) = (Array.range (n * σ.size)).map (zv.cells[· % zv.cells.size]!) := rfl
    rw [em] at g1
    simp only [hz0, if_false, zeroValue, typeInfo, Sem.run_bind, run_program, hi, hz, Sem.run_pure, Result.andThen_ok] at g1 ⊢
    simp only [g1, Sem.run_bind, newRow, run_newObj_alloc, Result.andThen_ok, Sem.run_pure, g4]
end
end Go.Ev

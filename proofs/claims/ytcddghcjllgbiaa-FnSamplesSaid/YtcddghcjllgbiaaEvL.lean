/-
  Addresses, slices, fields.
-/
import Derived.Test.YtcddghcjllgbiaaEvK
namespace Go.Ev
open Go.RowKit

section
variable {P : Program} {T : Types} {w0 w : World} {R0 Y : Nat → Prop} {ι0 ι : List Value} {h : List Blk} {out : Out}

theorem underlying_slice (hT : TOk P T) {ty e : TypeId} {τ : Option Ty} {s b : Nat} {z : List ZC} (h : T ty = some ⟨.slice e, τ, s, b, z⟩) : P.underlying ty = some (.slice e) := by
  obtain ⟨i, d, z, _, hd, _, _, h3, _⟩ := (hT.facts h).ex
  cases d <;> simp [descOk] at h3
  obtain ⟨rfl, _⟩ := h3; exact hd

theorem run_sizeOf' (hT : TOk P T) {e : TypeId} {ei : TI} (h : T e = some ei) : (sizeOf e).run P w = .ok ei.size w := by
  obtain ⟨i, d, z, hi, _, h1, _⟩ := (hT.facts h).ex
  simp [sizeOf, typeInfo, hi, h1]

/-- A row's value is a slice of its length. -/
theorem Sat.vec (s : Sat w0 R0 Y ι0 ι h w) {id : Nat} {rw' : Bool} {e : TypeId} {τ : Ty} {xs : List τ.den} (hb : h[id]? = some (.vec rw' e τ xs)) {u : Value} (hu : ι[id]? = some u) :
    ∃ a c, u = .slice a xs.length c ∧ xs.length ≤ c ∧ c ≤ maxLen ∧ 0 < τ.size ∧ (xs.length ≠ 0 → ∃ b o, a = some ⟨b, o, none⟩) ∧ (a = none ∨ ∃ b o, a = some ⟨b, o, none⟩ ∨ xs.length = 0) := by
  have hbr := s.br _ _ _ hb hu
  cases rw' with
  | false =>
    obtain ⟨a, c, e1, h1, h2, h3, h4⟩ := hbr
    simp only [List.cons.injEq, and_true] at e1
    refine ⟨a, c, e1, h1, h2, h3, fun hn => ?_, ?_⟩
    · obtain ⟨b, o, rfl, _⟩ := h4 hn; exact ⟨b, o, rfl⟩
    · by_cases hn : xs.length = 0
      · exact .inr ⟨0, 0, .inr hn⟩
      · obtain ⟨b, o, rfl, _⟩ := h4 hn; exact .inr ⟨b, o, .inl rfl⟩
  | true =>
    obtain ⟨h0, cells, ho, hd⟩ := hbr
    obtain ⟨hl, hr⟩ := ho
    rcases hr with ⟨rfl, hn⟩ | ⟨g, cap, cur, rfl, _, hc, h1, h2, h3, h4⟩
    · exact ⟨none, 0, by rw [hn], by omega, by simp, h0, fun q => absurd hn q, .inl rfl⟩
    · exact ⟨_, _, rfl, h1, h2, h0, fun _ => ⟨g, 0, rfl⟩, .inr ⟨g, 0, .inl rfl⟩⟩

theorem AVR.whole_inv {id : Nat} {u : Value} (h : AVR ι (.whole id) u) : ι[id]? = some u := by cases h; assumption

/-! ### Bounds -/

theorem bounds_sound {lo hi : Option AV} {vl vh : Option Value} {n cap : Nat} (isSlice : Bool) (hcap : n ≤ cap) {K : Nat → Nat → Option Out}
    (hl : ∀ v, lo = some v → ∃ u, vl = some u ∧ AVR ι v u) (hl0 : lo = none → vl = none) (hh : ∀ v, hi = some v → ∃ u, vh = some u ∧ AVR ι v u) (hh0 : hi = none → vh = none)
    (he : bounds lo hi n K = some out) : ∃ l u, (Instr.sliceBounds isSlice n cap vl vh none).run P w = .ok (l, u, cap) w ∧ l ≤ u ∧ u ≤ n ∧ K l u = some out := by
  have hup : ∀ {i : Int} {m r : Nat}, upto i m = some r → 0 ≤ i ∧ i ≤ m ∧ r = i.toNat := by
    intro i m r h; unfold upto at h; split at h
    · rename_i g; cases h; exact ⟨g.1, g.2, rfl⟩
    · cases h
  unfold bounds at he
  split at he
  · rw [hh0 rfl]
    split at he
    · rw [hl0 rfl]
      exact ⟨0, n, by simp [Instr.sliceBounds], Nat.zero_le _, Nat.le_refl _, he⟩
    · obtain ⟨u, rfl, hr⟩ := hl _ rfl
      cases hr
      rename_i k l
      cases hu : upto l n with
      | none => rw [hu] at he; cases he
      | some l' =>
        rw [hu] at he
        obtain ⟨g1, g2, rfl⟩ := hup hu
        refine ⟨l.toNat, n, ?_, by omega, Nat.le_refl _, he⟩
        simp only [Instr.sliceBounds, Instr.sliceBound, asIntOf, Sem.run_bind, Sem.run_pure, Result.andThen_ok]
        rw [if_pos ⟨g1, by omega⟩]; rfl
    · cases he
  · obtain ⟨u, rfl, hr⟩ := hh _ rfl
    cases hr
    rename_i k q
    cases hu : upto q n with
    | none => rw [hu] at he; cases he
    | some q' =>
      rw [hu] at he
      obtain ⟨g1, g2, rfl⟩ := hup hu
      simp only [Option.bind_some] at he
      split at he
      · rw [hl0 rfl]
        refine ⟨0, q.toNat, ?_, Nat.zero_le _, by omega, he⟩
        simp only [Instr.sliceBounds, Instr.sliceBound, asIntOf, Sem.run_bind, Sem.run_pure, Result.andThen_ok]
        rw [if_pos ⟨g1, by omega⟩]; rfl
      · obtain ⟨u, rfl, hr⟩ := hl _ rfl
        cases hr
        rename_i k' l
        cases hu' : upto l q.toNat with
        | none => rw [hu'] at he; cases he
        | some l' =>
          rw [hu'] at he
          obtain ⟨e1, e2, rfl⟩ := hup hu'
          refine ⟨l.toNat, q.toNat, ?_, by omega, by omega, he⟩
          simp only [Instr.sliceBounds, Instr.sliceBound, asIntOf, Sem.run_bind, Sem.run_pure, Result.andThen_ok]
          rw [if_pos ⟨g1, by omega⟩]
          simp only [Sem.run_pure, Result.andThen_ok]
          rw [if_pos ⟨e1, e2⟩]; rfl
      · cases he
  · cases he

theorem evSlice_sound (hT : TOk P T) (s : Sat w0 R0 Y ι0 ι h w) {ty : TypeId} {x : AV} {u : Value} (hx : AVR ι x u) {lo hi : Option AV} {vl vh : Option Value} {K : AV → List Blk → Option Out}
    (hl : ∀ v, lo = some v → ∃ u, vl = some u ∧ AVR ι v u) (hl0 : lo = none → vl = none) (hh : ∀ v, hi = some v → ∃ u, vh = some u ∧ AVR ι v u) (hh0 : hi = none → vh = none)
    (he : evSlice T ty x lo hi h K = some out) : Did P w0 R0 Y ι0 ι w (Instr.sliceAt ty u vl vh none) K out := by
  unfold evSlice at he
  split at he
  · rename_i s' hti
    cases hx
    have hu := underlying_str hT hti
    obtain ⟨l, q, h1, h2, h3, h4⟩ := bounds_sound (P := P) (w := w) (ι := ι) (cap := s'.size) false (Nat.le_refl _) hl hl0 hh hh0 he
    refine ⟨[], .str (s'.extract l q), .string (s'.extract l q), w, h, ?_, by simpa using s, .str _, h4⟩
    simp only [Instr.sliceAt, Instr.slice, Sem.run_bind, run_underlying hu, Result.andThen_ok, Option.isSome_none, Bool.false_eq_true, if_false, h1, Sem.run_pure]
  · rename_i e _ _ _ _ id hti
    have hu := underlying_slice hT hti
    split at he
    · rename_i rw' e' τ xs ei hb hei
      rw [nth_eq] at hb
      cases hq : ei.size == τ.size with
      | false => rw [hq] at he; cases he
      | true =>
        rw [hq] at he
        simp only [beq_iff_eq] at hq
        simp only [cond_true] at he
        have hι := hx.whole_inv
        obtain ⟨a, c, rfl, hn, hc, _, hne, _⟩ := s.vec hb hι
        obtain ⟨l, q, h1, h2, h3, h4⟩ := bounds_sound (P := P) (w := w) (ι := ι) (cap := c) true hn hl hl0 hh hh0 he
        refine ⟨[], .sub id l (q - l) τ.size, .slice (if c = l then a else a.map (·.add (l * τ.size))) (q - l) (c - l), w, h, ?_, by simpa using s, ?_, h4⟩
        · simp only [Instr.sliceAt, Instr.slice, Sem.run_bind, run_underlying hu, Result.andThen_ok, h1, Sem.run_pure, run_sizeOf' hT hei, hq]
        · rw [List.append_nil]
          refine .sub _ _ _ _ a _ _ _ _ hι (by omega) (by omega) (by omega) (fun hz => ?_)
          obtain ⟨b, o, rfl⟩ := hne (by omega)
          refine ⟨b, o, rfl, ?_⟩
          rw [if_neg (by omega)]
          simp [Addr.add_mid]
    · cases he
  · rename_i e _ _ _ _ id lo' n size hti
    have hu := underlying_slice hT hti
    split at he
    · rename_i ei hei
      cases hq : ei.size == size with
      | false => rw [hq] at he; cases he
      | true =>
        rw [hq] at he
        simp only [beq_iff_eq] at hq
        simp only [cond_true] at he
        cases hx with | sub _ _ _ _ a a' m c c' hι g1 g2 g3 g4 => ?_
        obtain ⟨l, q, h1, h2, h3, h4⟩ := bounds_sound (P := P) (w := w) (ι := ι) (cap := c') true g2 hl hl0 hh hh0 he
        refine ⟨[], .sub id (lo' + l) (q - l) size, .slice (if c' = l then a' else a'.map (·.add (l * size))) (q - l) (c' - l), w, h, ?_, by simpa using s, ?_, h4⟩
        · simp only [Instr.sliceAt, Instr.slice, Sem.run_bind, run_underlying hu, Result.andThen_ok, h1, Sem.run_pure, run_sizeOf' hT hei, hq]
        · rw [List.append_nil]
          refine .sub _ _ _ _ a _ _ _ _ hι (by omega) (by omega) (by omega) (fun hz => ?_)
          obtain ⟨b, o, rfl, rfl⟩ := g4 (by omega)
          refine ⟨b, o, rfl, ?_⟩
          rw [if_neg (by omega)]
          simp [Addr.add_mid, Nat.add_mul, Nat.add_assoc]
    · cases he
  · cases he

theorem isZ_eq {n : Int} (h : isZ n = true) : n = 0 := by
  unfold isZ at h
  split at h
  · rename_i m; have : m = 0 := by simpa using h
    subst this; rfl
  · cases h

theorem is3_eq {lo hi : Option Operand} {m : Operand} (h : is3 lo hi m = true) : ∃ k k', lo = none ∧ hi = some (.const (.int k 0)) ∧ m = .const (.int k' 0) := by
  unfold is3 at h
  split at h
  · simp only [Bool.and_eq_true] at h
    obtain ⟨z1, z2⟩ := h
    obtain rfl := isZ_eq z1
    obtain rfl := isZ_eq z2
    exact ⟨_, _, rfl, rfl, rfl⟩
  · cases h

theorem evSlice3_sound (hT : TOk P T) (s : Sat w0 R0 Y ι0 ι h w) {ty : TypeId} {x : AV} {u : Value} (hx : AVR ι x u) {k k' : IntKind} {K : AV → List Blk → Option Out}
    (he : evSlice3 T ty x h K = some out) : Did P w0 R0 Y ι0 ι w (Instr.sliceAt ty u none (some (.int k 0)) (some (.int k' 0))) K out := by
  have go : ∀ {e : TypeId} {τ : Option Ty} {sz b : Nat} {z : List ZC} {ei : TI} {a : Option Addr} {n c : Nat}, T ty = some ⟨.slice e, τ, sz, b, z⟩ → T e = some ei → u = .slice a n c → K .nocap h = some out →
      Did P w0 R0 Y ι0 ι w (Instr.sliceAt ty u none (some (.int k 0)) (some (.int k' 0))) K out := by
    intro e τ sz b z ei a n c hti hei hu hK
    subst hu
    have hu := underlying_slice hT hti
    refine ⟨[], .nocap, .slice (if 0 = 0 then a else a.map (·.add (0 * ei.size))) (0 - 0) (0 - 0), w, h, ?_, by simpa using s, by simpa using AVR.nocap a, hK⟩
    simp [Instr.sliceAt, Instr.slice, Sem.run_bind, run_underlying hu, Result.andThen_ok, Instr.sliceBounds, Instr.sliceBound, asIntOf, Sem.run_pure, run_sizeOf' hT hei]
  unfold evSlice3 at he
  split at he
  · rename_i hti
    split at he
    · rename_i hei
      cases hx; exact go hti hei rfl he
    · cases he
  · rename_i hti
    split at he
    · rename_i hei
      cases hx; exact go hti hei rfl he
    · cases he
  · cases he

/-! ### Indices and fields -/

theorem idx_spec {i : Int} {n r : Nat} (h : idx i n = some r) : 0 ≤ i ∧ i < n ∧ r = i.toNat := by
  unfold idx at h; split at h
  · rename_i g; cases h; exact ⟨g.1, g.2, rfl⟩
  · cases h

theorem evIndexAddr_sound (hT : TOk P T) (s : Sat w0 R0 Y ι0 ι h w) {ty e : TypeId} {τ0 : Option Ty} {sz by' : Nat} {z : List ZC} (hti : T ty = some ⟨.slice e, τ0, sz, by', z⟩) {ei : TI} (hei : T e = some ei)
    {x i : AV} {u v : Value} (hx : AVR ι x u) (hi : AVR ι i v) {K : AV → List Blk → Option Out} (he : evIndexAddr ei.size x i h K = some out) : Did P w0 R0 Y ι0 ι w (Instr.indexAt ty u v) K out := by
  have hu := underlying_slice hT hti
  unfold evIndexAddr at he
  split at he
  · rename_i id k j
    cases hi
    split at he
    · rename_i rw' e' τ xs hb
      rw [nth_eq] at hb
      cases hq : ei.size == τ.size with
      | false => rw [hq] at he; cases he
      | true =>
        rw [hq] at he
        simp only [beq_iff_eq] at hq
        simp only [cond_true] at he
        have hι := hx.whole_inv
        obtain ⟨a, c, rfl, hn, hc, _, hne, _⟩ := s.vec hb hι
        cases hj : idx j xs.length with
        | none => rw [hj] at he; cases he
        | some j' =>
          rw [hj] at he
          obtain ⟨g1, g2, rfl⟩ := idx_spec hj
          obtain ⟨b, o, rfl⟩ := hne (by omega)
          refine ⟨[], _, .pointer (some ⟨b, o + j.toNat * ei.size + 0, none⟩), w, h, ?_, by simpa using s, by rw [List.append_nil]; exact .elt _ _ _ _ _ _ _ _ hι, he⟩
          simp only [Instr.indexAt, asIntOf, Sem.run_bind, Sem.run_pure, Result.andThen_ok, run_underlying hu]
          rw [if_pos ⟨g1, g2⟩]
          simp [run_sizeOf' hT hei, Addr.add_mid]
    · cases he
  · rename_i id lo n size' k j
    cases hi
    cases hq : ei.size == size' with
    | false => rw [hq] at he; cases he
    | true =>
      rw [hq] at he
      simp only [beq_iff_eq] at hq
      simp only [cond_true] at he
      cases hx with | sub _ _ _ _ a a' m c c' hι q1 q2 q3 q4 => ?_
      cases hj : idx j n with
      | none => rw [hj] at he; cases he
      | some j' =>
        rw [hj] at he
        obtain ⟨g1, g2, rfl⟩ := idx_spec hj
        obtain ⟨b, o, rfl, rfl⟩ := q4 (by omega)
        subst hq
        refine ⟨[], _, .pointer (some ⟨b, o + (lo + j.toNat) * ei.size + 0, none⟩), w, h, ?_, by simpa using s, by rw [List.append_nil]; exact .elt _ _ _ _ _ _ _ _ hι, he⟩
        simp only [Instr.indexAt, asIntOf, Sem.run_bind, Sem.run_pure, Result.andThen_ok, run_underlying hu]
        rw [if_pos ⟨g1, g2⟩]
        simp [run_sizeOf' hT hei, Addr.add_mid, Nat.add_mul, Nat.add_assoc]
  · cases he

theorem evFieldAddr_sound (hT : TOk P T) {ty : TypeId} {fs : List (Nat × TypeId)} {τ0 : Option Ty} {sz by' : Nat} {z : List ZC} (hti : T ty = some ⟨.struct fs, τ0, sz, by', z⟩) {f o : Nat} {ft : TypeId} (hf : nth fs f = some (o, ft))
    {fi : TI} (hfi : T ft = some fi) (hpos : Nat.blt 0 fi.size = true) {b off : Nat} :
    (Instr.fieldAt ty (.pointer (some ⟨b, off, none⟩)) f).run P w = .ok (.pointer (some ⟨b, off + o, none⟩)) w := by
  obtain ⟨arr, hu, hfs⟩ := desc_row hT hti rfl
  obtain ⟨g, hg, rfl, rfl⟩ := fieldsEq_get hfs hf
  rw [Array.getElem?_toList] at hg
  have hp : ¬ fi.size = 0 := by simp [Nat.blt_eq] at hpos; omega
  simp only [Instr.fieldAt, Sem.run_bind, run_underlying hu, Result.andThen_ok, hg, Instr.sureAddr, Sem.run_pure, fieldPlace, run_sizeOf' hT hfi, hp, if_false, Addr.add_mid]

theorem evField_sound (hT : TOk P T) {ty : TypeId} {fs : List (Nat × TypeId)} {τ0 : Option Ty} {sz by' : Nat} {z : List ZC} (hti : T ty = some ⟨.struct fs, τ0, sz, by', z⟩) {f o : Nat} {ft : TypeId} (hf : nth fs f = some (o, ft))
    {us : List Value} {u : Value} {fi : TI} (hfi : T ft = some fi)
    (hr : (∃ gs, fi.d = .struct gs) ∧ u = .agg ((us.drop o).take fi.size).toArray ∨ (∀ gs, fi.d ≠ .struct gs) ∧ us[o]? = some u) :
    (Instr.field ty (.agg us.toArray) f).run P w = .ok u w := by
  obtain ⟨arr, hu, hfs⟩ := desc_row hT hti rfl
  obtain ⟨g, hg, rfl, rfl⟩ := fieldsEq_get hfs hf
  rw [Array.getElem?_toList] at hg
  simp only [Instr.field, Sem.run_bind, run_underlying hu, Result.andThen_ok, hg, asAgg, Sem.run_pure, part]
  rcases hr with ⟨⟨gs, hd⟩, rfl⟩ | ⟨hd, hus⟩
  · obtain ⟨arr', hu', _⟩ := desc_row hT hfi hd
    have hagg : (isAgg g.type).run P w = .ok true w := by unfold isAgg; rw [Sem.run_bind, run_underlying hu' w]; rfl
    simp only [hagg, Result.andThen_ok, if_true, Sem.run_bind, run_sizeOf' hT hfi, Sem.run_pure]
    congr 2
    apply Array.ext'
    simp [List.extract_eq_take_drop]
  · obtain ⟨d, hd1, hd2⟩ := desc_notRow hT hfi hd
    have hagg : (isAgg g.type).run P w = .ok false w := by unfold isAgg; rw [Sem.run_bind, run_underlying hd1 w]; cases d <;> simp_all
    simp only [hagg, Result.andThen_ok, Bool.false_eq_true, if_false, List.getElem?_toArray, hus, Sem.run_pure]

theorem evIndex_sound {ty : TypeId} (hu : P.underlying ty = some .string) {s : ByteArray} {k : IntKind} {j b : Int} (hb : bt s j = some b) : (Instr.index ty (.string s) (.int k j)).run P w = .ok (.int .u8 b) w := by
  unfold bt at hb
  split at hb
  · rename_i h0
    cases hx : s.data.toList[j.toNat]? with
    | none => rw [hx] at hb; cases hb
    | some x =>
      rw [hx] at hb; cases hb
      have hs : s[j.toNat]? = some x := by
        have hlt := get_lt hx
        rw [Array.getElem?_toList] at hx
        have : j.toNat < s.size := by simpa using hlt
        rw [getElem?_pos s j.toNat this]
        rw [Array.getElem?_eq_getElem (by simpa using hlt)] at hx
        exact hx
      simp only [Instr.index, asIntOf, Sem.run_bind, Sem.run_pure, Result.andThen_ok, run_underlying hu, if_pos h0, hs]
  · cases hb
end
end Go.Ev

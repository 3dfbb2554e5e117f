/-
  Data as values and back; parts of data.
-/
import Derived.Test.YtcddghcjllgbiaaEvD
namespace Go.Ev
open Go.RowKit

section
variable {w0 w : World} {R0 Y : Nat → Prop} {ι0 : List Value}

theorem avs_sound (τ : Ty) : ∀ {ι : List Value} {h : List Blk} {x : τ.den} {cs : List Value}, Sat w0 R0 Y ι0 ι h w → DR w (fun k => Y k ∨ RW ι h k) τ x cs →
    ∃ r, Sat w0 R0 Y ι0 (ι ++ r) (τ.avs x h).2 w ∧ AVRs (ι ++ r) (τ.avs x h).1 cs ∧ (∀ k, RW (ι ++ r) (τ.avs x h).2 k → RW ι h k) := by
  induction τ with
  | bool => intro ι h x cs s hd; cases hd; exact ⟨[], by simpa [Ty.avs] using s, .cons _ _ _ _ (.bool _) .nil, fun k => by simp [Ty.avs]⟩
  | int k => intro ι h x cs s hd; cases hd; exact ⟨[], by simpa [Ty.avs] using s, .cons _ _ _ _ (.int _ _) .nil, fun k => by simp [Ty.avs]⟩
  | flt k => intro ι h x cs s hd; obtain ⟨b, rfl, rfl⟩ := hd; exact ⟨[], by simpa [Ty.avs] using s, .cons _ _ _ _ (.flt _ _) .nil, fun k => by simp [Ty.avs]⟩
  | cpx k =>
    intro ι h x cs s hd; obtain ⟨a, b, rfl, h1, h2⟩ := hd
    obtain ⟨p, q⟩ := x
    simp only at h1 h2; subst h1; subst h2
    exact ⟨[], by simpa [Ty.avs] using s, .cons _ _ _ _ (.cpx _ _ _) .nil, fun k => by simp [Ty.avs]⟩
  | str => intro ι h x cs s hd; cases hd; exact ⟨[], by simpa [Ty.avs] using s, .cons _ _ _ _ (.str _) .nil, fun k => by simp [Ty.avs]⟩
  | slice σ _ =>
    intro ι h x cs s hd
    obtain ⟨a, c, rfl, hr⟩ := id hd
    have hA : ∀ k, RW (ι ++ [.slice a x.length c]) (h ++ [.vec false 0 σ x]) k → RW ι h k := by
      intro k hk
      rcases hk.push s.len with q | ⟨q, _⟩
      · exact q
      · simp [Blk.rw] at q
    refine ⟨[.slice a x.length c], ?_, ?_, hA⟩
    · refine s.push (fun _ _ => rfl) (Nat.le_refl _) rfl rfl rfl _ _ (by simp [Blk.rw]) ?_
      refine DR.step (fun k _ hk => ⟨fun hk' => hk ?_, rfl⟩) hd
      rcases hk' with q | q
      · exact .inl q
      · exact .inr (hA k q)
    · refine .cons _ _ _ _ (.whole _ _ _ _ ?_) .nil
      rw [← s.len, List.getElem?_append_right (Nat.le_refl _)]; simp
  | unit => intro ι h x cs s hd; cases hd; exact ⟨[], by simpa [Ty.avs] using s, .nil, fun k => by simp [Ty.avs]⟩
  | pair a b iha ihb =>
    intro ι h x cs s hd
    obtain ⟨l, r, rfl, h1, h2⟩ := hd
    obtain ⟨r1, s1, v1, k1⟩ := iha s h1
    have h2' : DR w (fun k => Y k ∨ RW (ι ++ r1) (a.avs x.1 h).2 k) b x.2 r := by
      refine DR.step (fun k _ hk => ⟨fun hk' => hk ?_, rfl⟩) h2
      rcases hk' with q | q
      · exact .inl q
      · exact .inr (k1 k q)
    obtain ⟨r2, s2, v2, k2⟩ := ihb s1 h2'
    refine ⟨r1 ++ r2, ?_, ?_, ?_⟩
    · simpa [Ty.avs] using s2
    · have := (v1.ext (Ext.app (ι ++ r1) r2)).append v2
      simpa [Ty.avs] using this
    · intro k hk
      exact k1 k (k2 k (by simpa [Ty.avs] using hk))

theorem row_data {ι : List Value} {h : List Blk} (s : Sat w0 R0 Y ι0 ι h w) {id : Nat} {e : TypeId} {τ : Ty} {xs : List τ.den} {u : Value} (hb : h[id]? = some (.vec true e τ xs)) (hu : ι[id]? = some u)
    {A : Nat → Prop} (hA : ∀ k, A k → (Y k ∨ RW ι h k) ∧ vblock u ≠ some k) : DR w A (.slice τ) xs [u] := by
  obtain ⟨h0, cells, ho, hd⟩ := s.br _ _ _ hb hu
  obtain ⟨hl, hr⟩ := ho
  rcases hr with ⟨rfl, hn⟩ | ⟨g, cap, cur, rfl, _, hc, h1, h2, h3, h4⟩
  · refine ⟨none, 0, by rw [hn], by omega, by simp, h0, fun hne => absurd hn hne⟩
  · refine ⟨some ⟨g, 0, none⟩, cap, rfl, h1, h2, h0, fun _ => ⟨g, 0, rfl, fun ha => (hA g ha).2 rfl, fun i hi => ?_⟩⟩
    have hle : i * τ.size + τ.size ≤ cells.length := by
      have := Nat.mul_le_mul_right τ.size (show i + 1 ≤ xs.length from hi)
      rw [Nat.add_mul, Nat.one_mul] at this; omega
    refine ⟨(cells.drop (i * τ.size)).take τ.size, by simp; omega, fun j v hv => ?_, ?_⟩
    · have hj : j < τ.size := by
        have := get_lt hv; simp at this; omega
      rw [List.getElem?_take_of_lt hj, List.getElem?_drop, ← h4] at hv
      rw [List.getElem?_take_of_lt (by omega)] at hv
      simp only [World.cell?, hc]
      simpa using hv
    · exact DR.step (fun k _ hk => ⟨fun ha => hk (hA k ha).1, rfl⟩) (hd i hi)

theorem unavs_sound (τ : Ty) : ∀ {ι : List Value} {h h' : List Blk} {l r : List AV} {x : τ.den} {cs : List Value}, Sat w0 R0 Y ι0 ι h w → AVRs ι l cs → τ.unavs l h = some (x, r, h') →
    ∃ c1 c2, cs = c1 ++ c2 ∧ Sat w0 R0 Y ι0 ι h' w ∧ DR w (fun k => Y k ∨ RW ι h' k) τ x c1 ∧ AVRs ι r c2 ∧ (∀ k, RW ι h' k → RW ι h k) ∧ h'.length = h.length := by
  induction τ with
  | bool =>
    intro ι h h' l r x cs s hv he
    simp only [Ty.unavs] at he
    split at he
    · cases he; cases hv with | cons _ u _ t h1 h2 => cases h1; exact ⟨[.bool _], t, rfl, s, rfl, h2, fun k hk => hk, rfl⟩
    · cases he
  | int k =>
    intro ι h h' l r x cs s hv he
    simp only [Ty.unavs] at he
    split at he
    · split at he
      · rename_i e; subst e; cases he; cases hv with | cons _ u _ t h1 h2 => cases h1; exact ⟨[.int _ _], t, rfl, s, rfl, h2, fun k hk => hk, rfl⟩
      · cases he
    · cases he
  | flt k =>
    intro ι h h' l r x cs s hv he
    simp only [Ty.unavs] at he
    split at he
    · split at he
      · rename_i e; subst e; cases he; cases hv with | cons _ u _ t h1 h2 => cases h1; exact ⟨[.float _ _], t, rfl, s, ⟨_, rfl, rfl⟩, h2, fun k hk => hk, rfl⟩
      · cases he
    · cases he
  | cpx k =>
    intro ι h h' l r x cs s hv he
    simp only [Ty.unavs] at he
    split at he
    · split at he
      · rename_i e; subst e; cases he; cases hv with | cons _ u _ t h1 h2 => cases h1; exact ⟨[.complex _ _ _], t, rfl, s, ⟨_, _, rfl, rfl, rfl⟩, h2, fun k hk => hk, rfl⟩
      · cases he
    · cases he
  | str =>
    intro ι h h' l r x cs s hv he
    simp only [Ty.unavs] at he
    split at he
    · cases he; cases hv with | cons _ u _ t h1 h2 => cases h1; exact ⟨[.string _], t, rfl, s, rfl, h2, fun k hk => hk, rfl⟩
    · cases he
  | slice σ _ =>
    intro ι h h' l r x cs s hv he
    simp only [Ty.unavs] at he
    split at he
    · rename_i id r1
      cases hv with | cons _ u _ t h1 h2 => ?_
      cases h1 with | whole _ av nv cv hu => ?_
      generalize hue : (Value.slice av nv cv) = u at *
      split at he
      · rename_i rw e τ xs hb
        rw [nth_eq] at hb
        split at he
        · rename_i q; subst q
          cases rw with
          | true =>
            simp only [cond_true, Option.some.injEq, Prod.mk.injEq] at he
            obtain ⟨rfl, rfl, rfl⟩ := he
            rw [setNth_eq]
            have hlt := get_lt hb
            have hRW : ∀ k, RW ι (h.set id (.vec false e τ xs)) k → RW ι h k ∧ vblock u ≠ some k := by
              rintro k ⟨j, c, v, g1, g2, g3, g4⟩
              by_cases ej : j = id
              · subst ej; rw [List.getElem?_set_self hlt] at g1; cases g1; simp [Blk.rw] at g2
              · rw [List.getElem?_set_ne (Ne.symm ej)] at g1
                exact ⟨⟨j, c, v, g1, g2, g3, g4⟩, fun hk => ej (s.ne _ _ _ _ _ _ k g1 hb g2 rfl g3 hu g4 hk)⟩
            have hd : DR w (fun k => Y k ∨ RW ι (h.set id (.vec false e τ xs)) k) (.slice τ) xs [u] := by
              refine row_data s hb hu (fun k hk => ?_)
              rcases hk with q | q
              · exact ⟨.inl q, fun hk' => (s.old k ⟨id, _, u, hb, rfl, hu, hk'⟩).2 q⟩
              · exact ⟨.inr (hRW k q).1, (hRW k q).2⟩
            refine ⟨[u], t, rfl, ?_, hd, h2, fun k hk => (hRW k hk).1, by simp⟩
            exact s.turn hb rfl hu (fun _ _ _ => rfl) (Nat.le_refl _) rfl rfl rfl _ hd
          | false =>
            simp only [cond_false, Option.some.injEq, Prod.mk.injEq] at he
            obtain ⟨rfl, rfl, rfl⟩ := he
            exact ⟨[u], t, rfl, s, s.br _ _ _ hb hu, h2, fun k hk => hk, rfl⟩
        · cases he
      · cases he
    · cases hv with | cons _ u _ t h1 h2 => ?_
      cases h1
      cases hz : Nat.blt 0 σ.size with
      | false => rw [hz] at he; cases he
      | true =>
        rw [hz] at he; cases he
        exact ⟨[_], t, rfl, s, ⟨none, 0, rfl, Nat.le_refl _, by simp, by simpa [Nat.blt_eq] using hz, fun hne => absurd rfl hne⟩, h2, fun k hk => hk, rfl⟩
    · cases he
  | unit => intro ι h h' l r x cs s hv he; cases he; exact ⟨[], cs, rfl, s, rfl, hv, fun k hk => hk, rfl⟩
  | pair a b iha ihb =>
    intro ι h h' l r x cs s hv he
    simp only [Ty.unavs] at he
    split at he
    · rename_i y r1 h1 e1
      split at he
      · rename_i z r2 h2 e2
        cases he
        obtain ⟨c1, c2, rfl, s1, d1, v1, k1, l1⟩ := iha s hv e1
        obtain ⟨c3, c4, rfl, s2, d2, v2, k2, l2⟩ := ihb s1 v1 e2
        refine ⟨c1 ++ c3, c4, by simp, s2, ⟨c1, c3, rfl, ?_, d2⟩, v2, fun k hk => k1 k (k2 k hk), l2.trans l1⟩
        refine DR.step (fun k _ hk => ⟨fun hk' => hk ?_, rfl⟩) d1
        rcases hk' with q | q
        · exact .inl q
        · exact .inr (k2 k q)
      · cases he
    · cases he

theorem take_drop_all {l : List Value} {n : Nat} (h : l.length = n) : (l.drop 0).take n = l := by
  subst h; simp

theorem part_sound (τ : Ty) : ∀ {A : Nat → Prop} {x : τ.den} {off : Nat} {σ : Ty} {y : σ.den} {cs : List Value}, DR w A τ x cs → τ.part x off σ = some y →
    off + σ.size ≤ cs.length ∧ DR w A σ y ((cs.drop off).take σ.size) := by
  have base : ∀ (τ : Ty) {A : Nat → Prop} {x : τ.den} {off : Nat} {σ : Ty} {y : σ.den} {cs : List Value}, DR w A τ x cs → (if e : τ = σ then (if off = 0 then some (e ▸ x) else none) else none) = some y →
      off + σ.size ≤ cs.length ∧ DR w A σ y ((cs.drop off).take σ.size) := by
    intro τ A x off σ y cs hd he
    split at he
    · rename_i e; subst e
      split at he
      · rename_i e0; subst e0; cases he
        rw [take_drop_all hd.length]
        exact ⟨by rw [hd.length]; omega, hd⟩
      · cases he
    · cases he
  induction τ with
  | pair a b iha ihb =>
    intro A x off σ y cs hd he
    simp only [Ty.part] at he
    split at he
    · rename_i e
      exact base (.pair a b) (x := x) (off := off) (σ := σ) hd (by rw [dif_pos e]; exact he)
    · obtain ⟨l, r, rfl, h1, h2⟩ := hd
      have hl := h1.length
      split at he
      · obtain ⟨g1, g2⟩ := iha h1 he
        refine ⟨by simp; omega, ?_⟩
        rw [List.drop_append_of_le_length (by omega), List.take_append_of_le_length (by simp; omega)]
        exact g2
      · obtain ⟨g1, g2⟩ := ihb h2 he
        refine ⟨by simp; omega, ?_⟩
        rw [List.drop_append, List.drop_eq_nil_of_le (by omega), List.nil_append, hl]
        exact g2
  | _ => intro A x off σ y cs hd he; exact base _ hd (by simpa only [Ty.part] using he)

theorem setPart_sound (τ : Ty) : ∀ {A : Nat → Prop} {x x' : τ.den} {off : Nat} {σ : Ty} {y : σ.den} {cs ds : List Value}, DR w A τ x cs → DR w A σ y ds → τ.setPart x off σ y = some x' →
    off + σ.size ≤ cs.length ∧ DR w A τ x' (cs.take off ++ ds ++ cs.drop (off + σ.size)) := by
  have base : ∀ (τ : Ty) {A : Nat → Prop} {x x' : τ.den} {off : Nat} {σ : Ty} {y : σ.den} {cs ds : List Value}, DR w A τ x cs → DR w A σ y ds →
      (if e : σ = τ then (if off = 0 then some (e ▸ y) else none) else none) = some x' → off + σ.size ≤ cs.length ∧ DR w A τ x' (cs.take off ++ ds ++ cs.drop (off + σ.size)) := by
    intro τ A x x' off σ y cs ds hd hd' he
    split at he
    · rename_i e; subst e
      split at he
      · rename_i e0; subst e0; cases he
        have h1 := hd.length
        refine ⟨by omega, ?_⟩
        rw [List.drop_eq_nil_of_le (by omega)]; simpa using hd'
      · cases he
    · cases he
  induction τ with
  | pair a b iha ihb =>
    intro A x x' off σ y cs ds hd hd' he
    simp only [Ty.setPart] at he
    split at he
    · rename_i e
      exact base (.pair a b) (x := x) (off := off) (σ := σ) hd hd' (by rw [dif_pos e]; exact he)
    · obtain ⟨l, r, rfl, h1, h2⟩ := hd
      have hl := h1.length
      split at he
      · split at he
        · rename_i z ez; cases he
          obtain ⟨g1, g2⟩ := iha h1 hd' ez
          refine ⟨by simp; omega, l.take off ++ ds ++ l.drop (off + σ.size), r, ?_, g2, h2⟩
          rw [List.take_append_of_le_length (by omega), List.drop_append_of_le_length (by omega)]; simp
        · cases he
      · split at he
        · rename_i z ez; cases he
          obtain ⟨g1, g2⟩ := ihb h2 hd' ez
          refine ⟨by simp; omega, l, r.take (off - a.size) ++ ds ++ r.drop (off - a.size + σ.size), ?_, h1, g2⟩
          rw [List.take_append, List.take_of_length_le (by omega), List.drop_append, List.drop_eq_nil_of_le (by omega), hl, List.nil_append]
          have : off + σ.size - a.size = off - a.size + σ.size := by omega
          rw [this]; simp
        · cases he
  | _ => intro A x x' off σ y cs ds hd hd' he; exact base _ hd hd' (by simpa only [Ty.setPart] using he)
end

end Go.Ev

/-
  The steps of a state: a block more, a block turned, a row that has moved.
-/
import Derived.Test.YtcddghcjllgbiaaEvC
namespace Go.Ev
open Go.RowKit

section
variable {w0 w w' : World} {R0 Y : Nat → Prop} {ι0 ι : List Value} {h : List Blk}

theorem get_push {α : Type} {l : List α} {x y : α} {n : Nat} (hq : (l ++ [x])[n]? = some y) : l[n]? = some y ∨ (n = l.length ∧ y = x) := by
  rcases Nat.lt_or_ge n l.length with q | q
  · rw [List.getElem?_append_left q] at hq; exact .inl hq
  · rw [List.getElem?_append_right q] at hq
    rcases Nat.eq_zero_or_pos (n - l.length) with z | z
    · rw [z] at hq; simp at hq; exact .inr ⟨by omega, hq.symm⟩
    · rw [List.getElem?_eq_none (by simp; omega)] at hq; cases hq

theorem get_lt {α : Type} {l : List α} {y : α} {n : Nat} (hq : l[n]? = some y) : n < l.length := by
  rcases Nat.lt_or_ge n l.length with q | q
  · exact q
  · rw [List.getElem?_eq_none q] at hq; cases hq

theorem RW.push {u : Value} {b : Blk} (hl : ι.length = h.length) {k : Nat} (hk : RW (ι ++ [u]) (h ++ [b]) k) : RW ι h k ∨ (b.rw = true ∧ vblock u = some k) := by
  obtain ⟨id, b1, u1, h1, h2, h3, h4⟩ := hk
  rcases get_push h1 with q | ⟨q, rfl⟩
  · rcases get_push h3 with p | ⟨p, rfl⟩
    · exact .inl ⟨id, b1, u1, q, h2, p, h4⟩
    · have := get_lt q; omega
  · rcases get_push h3 with p | ⟨p, rfl⟩
    · have := get_lt p; omega
    · exact .inr ⟨h2, h4⟩

theorem Sat.push (s : Sat w0 R0 Y ι0 ι h w) (hw : ∀ k, k < w.heap.size → w'.heap[k]? = w.heap[k]?) (hsz : w.heap.size ≤ w'.heap.size) (hos : w'.os = w.os) (htp : w'.tape = w.tape) (hout : w'.output = w.output)
    (u : Value) (b : Blk) (hnew : b.rw = true → ∀ k, vblock u = some k → w.heap.size ≤ k)
    (hbr : BR w' (fun k => Y k ∨ RW (ι ++ [u]) (h ++ [b]) k) (ι ++ [u]) u b) : Sat w0 R0 Y ι0 (ι ++ [u]) (h ++ [b]) w' := by
  refine s.step (fun _ => False) (fun _ q => q.elim) (fun k hk _ => hw k hk) hsz hos htp hout (by simp [s.len]) (Ext.app _ _) ?_ ?_ ?_
  · intro k hk
    rcases hk.push s.len with q | ⟨q, p⟩
    · exact .inl q
    · exact .inr (hnew q k p)
  · intro id id' b1 b2 u1 u2 k h1 h2 r1 r2 h3 h4 v1 v2
    rcases get_push h1 with q1 | ⟨q1, rfl⟩ <;> rcases get_push h3 with p1 | ⟨p1, rfl⟩ <;> rcases get_push h2 with q2 | ⟨q2, rfl⟩ <;> rcases get_push h4 with p2 | ⟨p2, rfl⟩
    all_goals (try (have e1 := get_lt q1))
    all_goals (try (have e2 := get_lt p1))
    all_goals (try (have e3 := get_lt q2))
    all_goals (try (have e4 := get_lt p2))
    all_goals (have hl := s.len)
    all_goals first
      | omega
      | (exact s.ne _ _ _ _ _ _ k q1 q2 r1 r2 p1 p2 v1 v2)
      | (exfalso; have := (s.br _ _ _ q1 p1).lt r1 v1; have := hnew r2 k v2; omega)
      | (exfalso; have := (s.br _ _ _ q2 p2).lt r2 v2; have := hnew r1 k v1; omega)
  · intro id b1 u1 h1 h2
    rcases get_push h1 with q1 | ⟨q1, rfl⟩ <;> rcases get_push h2 with p1 | ⟨p1, rfl⟩
    · exact .inl ⟨q1, p1, fun _ _ _ q => q⟩
    · have := get_lt q1; have := s.len; omega
    · have := get_lt p1; have := s.len; omega
    · exact .inr hbr

/-- A draw, or whatever turns no block. -/
theorem Sat.same (s : Sat w0 R0 Y ι0 ι h w) (hw : w'.heap = w.heap) (hos : w'.os = w.os) (htp : w'.tape = w.tape) (hout : w'.output = w.output) : Sat w0 R0 Y ι0 ι h w' := by
  refine s.step (fun _ => False) (fun _ q => q.elim) (fun k _ _ => by rw [hw]) (by rw [hw]; exact Nat.le_refl _) hos htp hout s.len (Ext.refl _) (fun k hk => .inl hk) ?_ ?_
  · exact s.ne
  · intro id b u h1 h2; exact .inl ⟨h1, h2, fun _ _ _ q => q⟩

/-- A block is turned in its place. -/
theorem Sat.turn (s : Sat w0 R0 Y ι0 ι h w) {id : Nat} {b : Blk} {u : Value} (hb : h[id]? = some b) (hr : b.rw = true) (hu : ι[id]? = some u)
    (hw : ∀ k, k < w.heap.size → vblock u ≠ some k → w'.heap[k]? = w.heap[k]?) (hsz : w.heap.size ≤ w'.heap.size) (hos : w'.os = w.os) (htp : w'.tape = w.tape) (hout : w'.output = w.output)
    (b' : Blk) (hbr : BR w' (fun k => Y k ∨ RW ι (h.set id b') k) ι u b') : Sat w0 R0 Y ι0 ι (h.set id b') w' := by
  have hid : id < h.length := get_lt hb
  have hget : ∀ (j : Nat) (c : Blk), (h.set id b')[j]? = some c → (j = id ∧ c = b') ∨ (j ≠ id ∧ h[j]? = some c) := by
    intro j c hj
    by_cases e : j = id
    · subst e; rw [List.getElem?_set_self hid] at hj; cases hj; exact .inl ⟨rfl, rfl⟩
    · rw [List.getElem?_set_ne (Ne.symm e)] at hj; exact .inr ⟨e, hj⟩
  have hRW : ∀ k, RW ι (h.set id b') k → RW ι h k := by
    rintro k ⟨j, c, v, h1, h2, h3, h4⟩
    rcases hget j c h1 with ⟨rfl, rfl⟩ | ⟨_, q⟩
    · rw [hu] at h3; cases h3; exact ⟨_, b, _, hb, hr, hu, h4⟩
    · exact ⟨j, c, v, q, h2, h3, h4⟩
  refine s.step (fun k => vblock u = some k) (fun k q => ⟨id, b, u, hb, hr, hu, q⟩) hw hsz hos htp hout (by simp [s.len]) (Ext.refl _) (fun k hk => .inl (hRW k hk)) ?_ ?_
  · intro i j c d v x k h1 h2 r1 r2 h3 h4 v1 v2
    rcases hget i c h1 with ⟨rfl, rfl⟩ | ⟨e1, q1⟩ <;> rcases hget j d h2 with ⟨rfl, rfl⟩ | ⟨e2, q2⟩
    · rfl
    · exact s.ne _ _ _ _ _ _ k hb q2 hr r2 h3 h4 v1 v2
    · exact s.ne _ _ _ _ _ _ k q1 hb r1 hr h3 h4 v1 v2
    · exact s.ne _ _ _ _ _ _ k q1 q2 r1 r2 h3 h4 v1 v2
  · intro j c v h1 h2
    rcases hget j c h1 with ⟨rfl, rfl⟩ | ⟨e, q⟩
    · rw [hu] at h2; cases h2; exact .inr hbr
    · exact .inl ⟨q, h2, fun r k hk hk' => e (s.ne _ _ _ _ _ _ k q hb r hr h2 hu hk hk')⟩

/-- A row has moved (an append): the old number is dead, a new one stands for it. -/
theorem Sat.move (s : Sat w0 R0 Y ι0 ι h w) {id : Nat} {b : Blk} {u : Value} (hb : h[id]? = some b) (hr : b.rw = true) (hu : ι[id]? = some u)
    (hw : ∀ k, k < w.heap.size → vblock u ≠ some k → w'.heap[k]? = w.heap[k]?) (hsz : w.heap.size ≤ w'.heap.size) (hos : w'.os = w.os) (htp : w'.tape = w.tape) (hout : w'.output = w.output)
    (u' : Value) (b' : Blk) (hnew : b'.rw = true → ∀ k, vblock u' = some k → vblock u = some k ∨ w.heap.size ≤ k)
    (hbr : BR w' (fun k => Y k ∨ RW (ι ++ [u']) (h.set id .dead ++ [b']) k) (ι ++ [u']) u' b') : Sat w0 R0 Y ι0 (ι ++ [u']) (h.set id .dead ++ [b']) w' := by
  have hid : id < h.length := get_lt hb
  have hget : ∀ (j : Nat) (c : Blk), (h.set id .dead)[j]? = some c → (c.rw = true) → (j ≠ id ∧ h[j]? = some c) := by
    intro j c hj hc
    by_cases e : j = id
    · subst e; rw [List.getElem?_set_self hid] at hj; cases hj; simp [Blk.rw] at hc
    · rw [List.getElem?_set_ne (Ne.symm e)] at hj; exact ⟨e, hj⟩
  have hl : ι.length = (h.set id .dead).length := by simp [s.len]
  have hRW : ∀ k, RW ι (h.set id .dead) k → RW ι h k := by
    rintro k ⟨j, c, v, h1, h2, h3, h4⟩
    exact ⟨j, c, v, (hget j c h1 h2).2, h2, h3, h4⟩
  refine s.step (fun k => vblock u = some k) (fun k q => ⟨id, b, u, hb, hr, hu, q⟩) hw hsz hos htp hout (by simp [s.len]) (Ext.app _ _) ?_ ?_ ?_
  · intro k hk
    rcases hk.push hl with q | ⟨q, p⟩
    · exact .inl (hRW k q)
    · rcases hnew q k p with r | r
      · exact .inl ⟨id, b, u, hb, hr, hu, r⟩
      · exact .inr r
  · intro i j c d v x k h1 h2 r1 r2 h3 h4 v1 v2
    rcases get_push h1 with q1 | ⟨q1, rfl⟩ <;> rcases get_push h3 with p1 | ⟨p1, rfl⟩ <;> rcases get_push h2 with q2 | ⟨q2, rfl⟩ <;> rcases get_push h4 with p2 | ⟨p2, rfl⟩
    all_goals (try (have e1 := get_lt q1))
    all_goals (try (have e2 := get_lt p1))
    all_goals (try (have e3 := get_lt q2))
    all_goals (try (have e4 := get_lt p2))
    all_goals first
      | omega
      | (exact s.ne _ _ _ _ _ _ k (hget _ _ q1 r1).2 (hget _ _ q2 r2).2 r1 r2 p1 p2 v1 v2)
      | (exfalso; have g := hget _ _ q1 r1; rcases hnew r2 k v2 with z | z
         · exact g.1 (s.ne _ _ _ _ _ _ k g.2 hb r1 hr p1 hu v1 z)
         · have := (s.br _ _ _ g.2 p1).lt r1 v1; omega)
      | (exfalso; have g := hget _ _ q2 r2; rcases hnew r1 k v1 with z | z
         · exact g.1 (s.ne _ _ _ _ _ _ k g.2 hb r2 hr p2 hu v2 z)
         · have := (s.br _ _ _ g.2 p2).lt r2 v2; omega)
  · intro j c v h1 h2
    rcases get_push h1 with q1 | ⟨q1, rfl⟩ <;> rcases get_push h2 with p1 | ⟨p1, rfl⟩
    · by_cases e : j = id
      · subst e; rw [List.getElem?_set_self hid] at q1; cases q1; exact .inr trivial
      · have q : h[j]? = some c := by rw [List.getElem?_set_ne (Ne.symm e)] at q1; exact q1
        exact .inl ⟨q, p1, fun r k hk hk' => e (s.ne _ _ _ _ _ _ k q hb r hr p1 hu hk hk')⟩
    · have := get_lt q1; omega
    · have := get_lt p1; omega
    · exact .inr hbr
end

end Go.Ev

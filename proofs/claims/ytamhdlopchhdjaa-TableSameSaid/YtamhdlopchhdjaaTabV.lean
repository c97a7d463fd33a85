/- Layer 13: a copy that is written. -/
import Derived.Test.YtamhdlopchhdjaaTabU
namespace Go.Proofs.Ytamhdlopchhdjaa
open Go.RowKit Go.ChangeShapes Go.WideShapes
set_option linter.unusedVariables false
set_option linter.unusedSimpArgs false

/-- A row that may be written: its block lies from lo on, below hi, and is not 'row'; its strings are no longer than M. -/
structure WRow (w : World) (lo hi : Nat) (row : Option Nat) (u : Value) (n M : Nat) : Prop where
  is : ∃ A c, u = .slice A n c ∧ n ≤ 140737488355328 ∧ (0 < n → ∃ g e cur fr, A = some ⟨g, 0, none⟩ ∧ lo ≤ g ∧ g < hi ∧ some g ≠ row ∧ w.heap[g]? = some (.cells cur e fr) ∧
    (∀ j, j < cur.size → ¬ (fr.1 ≤ j ∧ j < fr.2)) ∧ n ≤ cur.size ∧ ∀ j, j < n → ∃ s : ByteArray, cur[j]? = some (.string s) ∧ s.size ≤ M)
theorem WRow.of_own {w : World} {lo hi n M : Nat} {row : Option Nat} {u : Value} {l : Row} {e : TypeId} (h : Own w lo e 1 u l.length (strV l)) (hr : u.ownBlock = none ∨ u.ownBlock ≠ row) (hh : w.heap.size ≤ hi) (hs : ∀ s ∈ l, s.size ≤ M) :
    WRow w lo hi row u l.length M := by
  rcases h.2 with ⟨rfl, h0⟩ | ⟨g, cap, cur, fr, rfl, hg, hb, hf, hc, hm, hz, ht⟩
  · exact ⟨none, 0, by rw [h0], h.1.2, fun hp => by omega⟩
  · refine ⟨some ⟨g, 0, none⟩, cap, rfl, h.1.2, fun hp => ⟨g, e, cur, fr, rfl, hg, ?_, ?_, hb, hf, by omega, fun j hj => ?_⟩⟩
    · have := (Array.getElem?_eq_some_iff.1 hb).1
      omega
    · rcases hr with hr | hr
      · simp [Value.ownBlock] at hr
      · simpa [Value.ownBlock] using hr
    · refine ⟨l[j], ?_, hs _ (List.getElem_mem hj)⟩
      have h1 : (strV l)[j]? = some (.string l[j]) := by unfold strV; rw [List.getElem?_map, List.getElem?_eq_getElem hj]; rfl
      rw [← ht, List.getElem?_take, if_pos (by omega), Array.getElem?_toList] at h1
      exact h1
theorem WRow.more {w : World} {lo hi n M M' : Nat} {row : Option Nat} {u : Value} (h : WRow w lo hi row u n M) (hM : M ≤ M') : WRow w lo hi row u n M' := by
  obtain ⟨A, c, h1, h2, h3⟩ := h.is
  refine ⟨A, c, h1, h2, fun hp => ?_⟩
  obtain ⟨g, e, cur, fr, q1, q2, q3, q4, q5, q6, q7, q8⟩ := h3 hp
  exact ⟨g, e, cur, fr, q1, q2, q3, q4, q5, q6, q7, fun j hj => by obtain ⟨s, a, b⟩ := q8 j hj; exact ⟨s, a, by omega⟩⟩
theorem WRow.keep {w w' : World} {lo hi n M : Nat} {row : Option Nat} {u : Value} (h : WRow w lo hi row u n M) (hb : ∀ g, g < hi → w'.heap[g]? = w.heap[g]?) : WRow w' lo hi row u n M := by
  obtain ⟨A, c, h1, h2, h3⟩ := h.is
  refine ⟨A, c, h1, h2, fun hp => ?_⟩
  obtain ⟨g, e, cur, fr, q1, q2, q3, q4, q5, q6⟩ := h3 hp
  exact ⟨g, e, cur, fr, q1, q2, q3, q4, by rw [hb g q3]; exact q5, q6⟩
/-- A string is written somewhere. -/
theorem WRow.put {w : World} {lo hi n M : Nat} {row : Option Nat} {u : Value} (h : WRow w lo hi row u n M) (g' k : Nat) (s : ByteArray) (hs : s.size ≤ M) : WRow (w.setCell ⟨g', k, none⟩ (.string s)) lo hi row u n M := by
  obtain ⟨A, c, h1, h2, h3⟩ := h.is
  refine ⟨A, c, h1, h2, fun hp => ?_⟩
  obtain ⟨g, e, cur, fr, q1, q2, q3, q4, q5, q6, q7, q8⟩ := h3 hp
  by_cases hg : g' = g
  · subst hg
    refine ⟨g', e, cur.setIfInBounds k (.string s), fr, q1, q2, q3, q4, by simp [World.setCell, Array.getElem?_modify, q5], by simpa using q6, by simpa using q7, fun j hj => ?_⟩
    by_cases hjk : k = j
    · subst hjk
      exact ⟨s, by rw [Array.getElem?_setIfInBounds_self_of_lt (by omega)], hs⟩
    · obtain ⟨s', a, b⟩ := q8 j hj
      exact ⟨s', by rw [Array.getElem?_setIfInBounds_ne hjk]; exact a, b⟩
  · exact ⟨g, e, cur, fr, q1, q2, q3, q4, by simp [World.setCell, Array.getElem?_modify, hg, q5], q6, q7, q8⟩
/-- What a walk reads and writes. -/
theorem WRow.at {w : World} {lo hi n M : Nat} {row : Option Nat} {u : Value} (h : WRow w lo hi row u n M) {k : Nat} (hk : k < n) :
    ∃ g c s, u = .slice (some ⟨g, 0, none⟩) n c ∧ lo ≤ g ∧ g < hi ∧ some g ≠ row ∧ w.cell? ⟨g, k, none⟩ = some (.string s) ∧ w.frozen? ⟨g, k, none⟩ = false ∧ s.size ≤ M := by
  obtain ⟨A, c, h1, h2, h3⟩ := h.is
  obtain ⟨g, e, cur, fr, rfl, q2, q3, q4, q5, q6, q7, q8⟩ := h3 (by omega)
  obtain ⟨s, a, b⟩ := q8 k hk
  refine ⟨g, c, s, h1, q2, q3, q4, ?_, ?_, b⟩
  · rw [cell_of_row w g k cur e fr q5]
    exact a
  · have := q6 k (by omega)
    unfold World.frozen?
    simp [q5]
    omega
theorem tot_take_le {α : Type} (f : α → Nat) (l : List α) (k : Nat) : tot f (l.take k) ≤ tot f l := by
  have h : tot f l = tot f (l.take k) + tot f (l.drop k) := by
    unfold tot
    rw [← List.sum_append, ← List.map_append, List.take_append_drop]
  omega
/-- The same but for the blocks from lo on, below hi. -/
structure Mid (lo hi : Nat) (a w : World) : Prop where
  os : w.os = a.os
  tape : w.tape = a.tape
  output : w.output = a.output
  size : w.heap.size = a.heap.size
  block : ∀ g, g < lo ∨ hi ≤ g → w.heap[g]? = a.heap[g]?
theorem Mid.refl (lo hi : Nat) (a : World) : Mid lo hi a a := ⟨rfl, rfl, rfl, rfl, fun _ _ => rfl⟩
theorem Mid.put {lo hi : Nat} {a w : World} (h : Mid lo hi a w) (g k : Nat) (u : Value) (h1 : lo ≤ g) (h2 : g < hi) : Mid lo hi a (w.setCell ⟨g, k, none⟩ u) :=
  ⟨h.os, h.tape, h.output, by rw [← h.size]; simp [World.setCell], fun j hj => by rw [← h.block j hj]; simp [World.setCell, Array.getElem?_modify]; intro e; omega⟩
theorem Mid.below {lo hi : Nat} {a w : World} (h : Mid lo hi a w) : Below lo a w := ⟨h.os, h.tape, h.output, by rw [h.size]; exact Nat.le_refl _, fun k hk => h.block k (.inl hk)⟩
theorem sl_put {w : World} {A : Option Addr} {n c g k : Nat} {vs : List Value} {u : Value} (h : Sl w w.heap.size 1 A n c vs) (hA : ∀ a, A = some a → 0 < n → a.block ≠ g) :
    Sl (w.setCell ⟨g, k, none⟩ u) (w.setCell ⟨g, k, none⟩ u).heap.size 1 A n c vs := by
  have h2 : Sl (w.setCell ⟨g, k, none⟩ u) w.heap.size 1 A n c vs := h.keep fun a ha hn _ p hp => World.cell?_of_block (by
    have := hA a ha hn
    simp [World.setCell, Array.getElem?_modify]
    intro e
    rw [hp] at e
    exact absurd e.symm this)
  exact h2.more (by simp [World.setCell])
end Go.Proofs.Ytamhdlopchhdjaa

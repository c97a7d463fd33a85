/- Rows of bools, as they lie in memory. -/
import Derived.Test.YtgiemhooeoakmaaTabD
namespace Go.Proofs.Ytgiemhooeoakmaa
open Go.RowKit Go.ChangeShapes Go.WideShapes
set_option linter.unusedVariables false
set_option linter.unusedSimpArgs false

def boolV (l : List Bool) : List Value := l.map (Value.bool)
structure RdBl (w : World) (B : Nat) (v : Value) (l : List Bool) : Prop where
  is : ∃ A c, v = .slice A l.length c ∧ Sl w B 1 A l.length c (boolV l)
theorem RdBl.below {w w' : World} {B : Nat} {v : Value} {l : List Bool} (h : RdBl w B v l) (hb : Below B w w') : RdBl w' B v l := by
  obtain ⟨A, c, h1, h2⟩ := h.is
  exact ⟨A, c, h1, h2.below hb⟩
theorem RdBl.next {w w' : World} {v : Value} {l : List Bool} (h : RdBl w w.heap.size v l) (hb : Below w.heap.size w w') : RdBl w' w'.heap.size v l := by
  obtain ⟨A, c, h1, h2⟩ := (h.below hb).is
  exact ⟨A, c, h1, h2.more hb.size⟩
theorem RdBl.at {w : World} {B : Nat} {v : Value} {l : List Bool} (h : RdBl w B v l) {k : Nat} (hk : k < l.length) : ∃ a c, v = .slice (some a) l.length c ∧ w.cell? (a.add k) = some (.bool l[k]) := by
  obtain ⟨A, c, h1, h2⟩ := h.is
  obtain ⟨a, rfl⟩ := h2.some_ (by omega)
  refine ⟨a, c, h1, h2.cell a k _ rfl ?_⟩
  unfold boolV
  rw [List.getElem?_map, List.getElem?_eq_getElem hk]
  rfl
theorem RdBl.few {w : World} {B : Nat} {v : Value} {l : List Bool} (h : RdBl w B v l) : l.length ≤ 140737488355328 := by
  obtain ⟨A, c, h1, h2⟩ := h.is
  exact h2.few
theorem boolV_snoc (l : List Bool) (x : Bool) : boolV (l ++ [x]) = boolV l ++ [.bool x] := by simp [boolV]
theorem boolV_len (l : List Bool) : (boolV l).length = l.length := by simp [boolV]
theorem RdBl.of_own {w : World} {base n : Nat} {e : TypeId} {v : Value} {l : List Bool} (h : Own w base e 1 v n (boolV l)) : RdBl w w.heap.size v l := by
  obtain ⟨A, c, h1, h2⟩ := h.form
  have hl : n = l.length := by have := h2.len; rw [boolV_len] at this; omega
  subst hl
  exact ⟨A, c, h1, h2⟩
theorem bool_info : (Try.prog.info? 4).map (fun i => (i.zero, i.size, i.bytes)) = some (some (.bool false), 1, 1) := by kernel_rfl
end Go.Proofs.Ytgiemhooeoakmaa

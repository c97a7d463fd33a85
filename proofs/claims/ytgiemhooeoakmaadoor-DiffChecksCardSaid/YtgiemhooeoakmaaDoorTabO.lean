/- Tables of strings, as they lie in memory. -/
import Derived.Test.YtgiemhooeoakmaaDoorOpen
namespace Go.Proofs.YtgiemhooeoakmaaDoor
open Go.RowKit Go.ChangeShapes Go.WideShapes
set_option linter.unusedVariables false
set_option linter.unusedSimpArgs false

abbrev Row := List ByteArray
abbrev Tbl := List (List ByteArray)
def strV (l : Row) : List Value := l.map Value.string
/-- A row of strings. -/
structure RdS (w : World) (B : Nat) (v : Value) (l : Row) : Prop where
  is : ∃ A c, v = .slice A l.length c ∧ Sl w B 1 A l.length c (strV l)
/-- A table. -/
structure RdT (w : World) (B : Nat) (v : Value) (t : Tbl) : Prop where
  is : ∃ A c vs, v = .slice A t.length c ∧ Sl w B 1 A t.length c vs ∧ Each (RdS w B) vs t
section
variable {w w' : World} {B B' : Nat} {v : Value} {l : Row} {t : Tbl}
theorem RdS.below (h : RdS w B v l) (hb : Below B w w') : RdS w' B v l := by
  obtain ⟨A, c, h1, h2⟩ := h.is
  exact ⟨A, c, h1, h2.below hb⟩
theorem RdT.below (h : RdT w B v t) (hb : Below B w w') : RdT w' B v t := by
  obtain ⟨A, c, vs, h1, h2, h3⟩ := h.is
  exact ⟨A, c, vs, h1, h2.below hb, h3.imp fun _ _ h => h.below hb⟩
theorem RdS.more (h : RdS w B v l) (hb : B ≤ B') : RdS w B' v l := by
  obtain ⟨A, c, h1, h2⟩ := h.is
  exact ⟨A, c, h1, h2.more hb⟩
theorem RdT.more (h : RdT w B v t) (hb : B ≤ B') : RdT w B' v t := by
  obtain ⟨A, c, vs, h1, h2, h3⟩ := h.is
  exact ⟨A, c, vs, h1, h2.more hb, h3.imp fun _ _ h => h.more hb⟩
/-- What a walk reads at place k of a row. -/
theorem RdS.at (h : RdS w B v l) {k : Nat} (hk : k < l.length) : ∃ a c, v = .slice (some a) l.length c ∧ w.cell? (a.add k) = some (.string l[k]) := by
  obtain ⟨A, c, h1, h2⟩ := h.is
  obtain ⟨a, rfl⟩ := h2.some_ (by omega)
  refine ⟨a, c, h1, h2.cell a k _ rfl ?_⟩
  unfold strV
  rw [List.getElem?_map, List.getElem?_eq_getElem hk]
  rfl
theorem RdT.at (h : RdT w B v t) {k : Nat} (hk : k < t.length) : ∃ a c u, v = .slice (some a) t.length c ∧ w.cell? (a.add k) = some u ∧ RdS w B u t[k] := by
  obtain ⟨A, c, vs, h1, h2, h3⟩ := h.is
  obtain ⟨a, rfl⟩ := h2.some_ (by omega)
  obtain ⟨u, hu, hr⟩ := h3.got (List.getElem?_eq_getElem hk)
  exact ⟨a, c, u, h1, h2.cell a k _ rfl hu, hr⟩
theorem RdT.few (h : RdT w B v t) : t.length ≤ 140737488355328 := by
  obtain ⟨A, c, vs, h1, h2, h3⟩ := h.is
  exact h2.few
theorem RdS.few (h : RdS w B v l) : l.length ≤ 140737488355328 := by
  obtain ⟨A, c, h1, h2⟩ := h.is
  exact h2.few
end

def tot {α : Type} (f : α → Nat) (l : List α) : Nat := (l.map f).sum
theorem tot_take {α : Type} (f : α → Nat) (l : List α) {k : Nat} (hk : k < l.length) : tot f (l.take (k + 1)) = tot f (l.take k) + f l[k] := by
  unfold tot
  rw [List.take_succ_eq_append_getElem hk, List.map_append, List.sum_append]
  simp
theorem tot_all {α : Type} (f : α → Nat) (l : List α) : tot f (l.take l.length) = tot f l := by rw [List.take_length]
theorem le_sum : ∀ {l : List Nat} {x : Nat}, x ∈ l → x ≤ l.sum
  | a :: l, x, h => by
    rw [List.sum_cons]
    rcases List.mem_cons.1 h with rfl | h
    · omega
    · have := le_sum h; omega
def bytesR (r : Row) : Nat := tot ByteArray.size r

end Go.Proofs.YtgiemhooeoakmaaDoor

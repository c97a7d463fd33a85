/- Rows of ints, as they lie in memory. -/
import Derived.Test.YtgiemhooeoakmaaDoorTabP
import Derived.Test.YtgiemhooeoakmaaDoorTabD
namespace Go.Proofs.YtgiemhooeoakmaaDoor
open Go.RowKit Go.ChangeShapes Go.WideShapes
set_option linter.unusedVariables false
set_option linter.unusedSimpArgs false

def intV (l : List Int) : List Value := l.map (Value.int .i64)
structure RdI (w : World) (B : Nat) (v : Value) (l : List Int) : Prop where
  is : ∃ A c, v = .slice A l.length c ∧ Sl w B 1 A l.length c (intV l)
theorem RdI.below {w w' : World} {B : Nat} {v : Value} {l : List Int} (h : RdI w B v l) (hb : Below B w w') : RdI w' B v l := by
  obtain ⟨A, c, h1, h2⟩ := h.is
  exact ⟨A, c, h1, h2.below hb⟩
theorem RdI.next {w w' : World} {v : Value} {l : List Int} (h : RdI w w.heap.size v l) (hb : Below w.heap.size w w') : RdI w' w'.heap.size v l := by
  obtain ⟨A, c, h1, h2⟩ := (h.below hb).is
  exact ⟨A, c, h1, h2.more hb.size⟩
theorem RdI.at {w : World} {B : Nat} {v : Value} {l : List Int} (h : RdI w B v l) {k : Nat} (hk : k < l.length) : ∃ a c, v = .slice (some a) l.length c ∧ w.cell? (a.add k) = some (.int .i64 l[k]) := by
  obtain ⟨A, c, h1, h2⟩ := h.is
  obtain ⟨a, rfl⟩ := h2.some_ (by omega)
  refine ⟨a, c, h1, h2.cell a k _ rfl ?_⟩
  unfold intV
  rw [List.getElem?_map, List.getElem?_eq_getElem hk]
  rfl
theorem RdI.few {w : World} {B : Nat} {v : Value} {l : List Int} (h : RdI w B v l) : l.length ≤ 140737488355328 := by
  obtain ⟨A, c, h1, h2⟩ := h.is
  exact h2.few
theorem int_info : (Tryd.prog.info? 3).map (fun i => (i.zero, i.size, i.bytes)) = some (some (.int .i64 0), 1, 8) := by kernel_rfl
theorem intV_snoc (l : List Int) (x : Int) : intV (l ++ [x]) = intV l ++ [.int .i64 x] := by simp [intV]
theorem intV_len (l : List Int) : (intV l).length = l.length := by simp [intV]
theorem RdI.of_own {w : World} {base n : Nat} {e : TypeId} {v : Value} {l : List Int} (h : Own w base e 1 v n (intV l)) : RdI w w.heap.size v l := by
  obtain ⟨A, c, h1, h2⟩ := h.form
  have hl : n = l.length := by have := h2.len; rw [intV_len] at this; omega
  subst hl
  exact ⟨A, c, h1, h2⟩
theorem RdS.of_own {w : World} {base n : Nat} {e : TypeId} {v : Value} {l : Row} (h : Own w base e 1 v n (strV l)) : RdS w w.heap.size v l := by
  obtain ⟨A, c, h1, h2⟩ := h.form
  have hl : n = l.length := by have := h2.len; rw [strV_len] at this; omega
  subst hl
  exact ⟨A, c, h1, h2⟩
theorem RdS.take {w : World} {B k c : Nat} {A : Option Addr} {l : Row} (h : RdS w B (.slice A l.length c) l) (hk : k ≤ l.length) : RdS w B (.slice A k c) (l.take k) := by
  obtain ⟨A', c', h1, h2⟩ := h.is
  injection h1 with hA _ hc
  subst hA
  subst hc
  have hkl : (l.take k).length = k := by rw [List.length_take]; omega
  refine ⟨A, c, by rw [hkl], ⟨by rw [strV_len, Nat.mul_one], by rw [hkl]; have := h2.cap; omega, h2.most, by rw [hkl]; have := h2.few; omega, fun hA => by rw [hkl]; have := h2.nil hA; omega, fun hn => h2.low (by rw [hkl] at hn; omega), fun a j u hA hu => h2.cell a j u hA ?_⟩⟩
  unfold strV at hu ⊢
  rw [List.getElem?_map] at hu ⊢
  by_cases hj : j < k
  · rw [List.getElem?_take, if_pos hj] at hu
    exact hu
  · rw [List.getElem?_take, if_neg hj] at hu
    simp at hu
theorem RdS.new (w : World) (l : Row) (e : TypeId) (n : Nat) (hn : n = l.length) (hl : n ≤ 100000) : RdS (w.alloc (.cells (l.map Value.string).toArray e)) (w.alloc (.cells (l.map Value.string).toArray e)).heap.size (.slice (some ⟨w.heap.size, 0, none⟩) n n) l := by
  subst hn
  refine ⟨_, _, rfl, ?_⟩
  have := Sl.newrow w (l.map Value.string).toArray e (by simp; omega)
  simpa [strV] using this
theorem RdI.new (w : World) (l : List Int) (e : TypeId) (n : Nat) (hn : n = l.length) (hl : n ≤ 100000) : RdI (w.alloc (.cells (l.map (Value.int .i64)).toArray e)) (w.alloc (.cells (l.map (Value.int .i64)).toArray e)).heap.size (.slice (some ⟨w.heap.size, 0, none⟩) n n) l := by
  subst hn
  refine ⟨_, _, rfl, ?_⟩
  have := Sl.newrow w (l.map (Value.int .i64)).toArray e (by simp; omega)
  simpa [intV] using this
end Go.Proofs.YtgiemhooeoakmaaDoor

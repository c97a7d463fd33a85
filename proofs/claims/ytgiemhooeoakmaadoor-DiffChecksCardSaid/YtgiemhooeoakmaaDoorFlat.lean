/- Slices whose elements are of several cells: how they are read, appended to. -/
import Derived.Test.YtgiemhooeoakmaaDoorTabD
import Derived.Deep.Strs
namespace Go.Proofs.YtgiemhooeoakmaaDoor
open Go.RowKit Go.ChangeShapes Go.WideShapes
set_option linter.unusedVariables false
set_option linter.unusedSimpArgs false

/-- A slice of elements of s cells each, f their cells. -/
structure RdF {α : Type} (f : α → List Value) (s : Nat) (w : World) (B : Nat) (v : Value) (l : List α) : Prop where
  is : ∃ A c, v = .slice A l.length c ∧ Sl w B s A l.length c (l.flatMap f)
section
variable {α : Type} {f : α → List Value} {s : Nat} {w w' : World} {B B' : Nat} {v : Value} {l : List α}
theorem RdF.below (h : RdF f s w B v l) (hb : Below B w w') : RdF f s w' B v l := by
  obtain ⟨A, c, h1, h2⟩ := h.is
  exact ⟨A, c, h1, h2.below hb⟩
theorem RdF.more (h : RdF f s w B v l) (hb : B ≤ B') : RdF f s w B' v l := by
  obtain ⟨A, c, h1, h2⟩ := h.is
  exact ⟨A, c, h1, h2.more hb⟩
theorem RdF.next (h : RdF f s w w.heap.size v l) (hb : Below w.heap.size w w') : RdF f s w' w'.heap.size v l := (h.below hb).more hb.size
theorem RdF.few (h : RdF f s w B v l) : l.length ≤ 140737488355328 := by
  obtain ⟨A, c, h1, h2⟩ := h.is
  exact h2.few
theorem RdF.cap {A : Option Addr} {n c : Nat} (h : RdF f s w B (.slice A n c) l) : l.length ≤ c := by
  obtain ⟨A', c', h1, h2⟩ := h.is
  injection h1 with _ _ hc
  subst hc
  exact h2.cap
/-- What a walk reads at place k: the first cell. -/
theorem RdF.at0 (h : RdF f s w B v l) (hf : ∀ x, (f x).length = s) (hs : 0 < s) {k : Nat} (hk : k < l.length) : ∃ a c, v = .slice (some a) l.length c ∧ ∀ u, (f l[k])[0]? = some u → w.cell? (a.add (k * s)) = some u := by
  obtain ⟨A, c, h1, h2⟩ := h.is
  obtain ⟨a, rfl⟩ := h2.some_ (by omega)
  exact ⟨a, c, h1, fun u hu => h2.fld0 hf hs (List.getElem?_eq_getElem hk) hu⟩
/-- .. its other cells. -/
theorem RdF.atj {a : Addr} {n c : Nat} (h : RdF f s w B (.slice (some a) n c) l) (hf : ∀ x, (f x).length = s) {k : Nat} (hk : k < l.length) (j : Nat) {u : Value} (hu : (f l[k])[j + 1]? = some u) :
    w.cell? ⟨(a.add (k * s)).block, (a.add (k * s)).off + (j + 1), none⟩ = some u := by
  obtain ⟨A, c', h1, h2⟩ := h.is
  injection h1 with hA _ hc
  subst hA
  exact h2.fld hf (List.getElem?_eq_getElem hk) j hu
theorem RdF.take {A : Option Addr} {c k : Nat} (h : RdF f s w B (.slice A l.length c) l) (hf : ∀ x, (f x).length = s) (hk : k ≤ l.length) : RdF f s w B (.slice A k c) (l.take k) := by
  obtain ⟨A', c', h1, h2⟩ := h.is
  injection h1 with hA _ hc
  subst hA
  subst hc
  have hkl : (l.take k).length = k := by rw [List.length_take]; omega
  refine ⟨A, c, by rw [hkl], ⟨by rw [flat_len hf, hkl], by rw [hkl]; have := h2.cap; omega, h2.most, by rw [hkl]; have := h2.few; omega, fun hA => by rw [hkl]; have := h2.nil hA; omega, fun hn => h2.low (by rw [hkl] at hn; omega), fun a j u hA hu => h2.cell a j u hA ?_⟩⟩
  have hsp : l.flatMap f = (l.take k).flatMap f ++ (l.drop k).flatMap f := by rw [← List.flatMap_append, List.take_append_drop]
  have hj : j < ((l.take k).flatMap f).length := (List.getElem?_eq_some_iff.1 hu).1
  rw [hsp, List.getElem?_append_left hj]
  exact hu
theorem RdF.nil (w : World) (B : Nat) : RdF f s w B (.slice none 0 0) [] := ⟨none, 0, rfl, Sl.none_ _ _ _⟩
theorem RdF.of_own {base n : Nat} {e : TypeId} (hf : ∀ x, (f x).length = s) (hs : 0 < s) (h : Own w base e s v n (l.flatMap f)) : RdF f s w w.heap.size v l := by
  obtain ⟨A, c, h1, h2⟩ := h.form
  have hl : n = l.length := by
    have := h2.len
    rw [flat_len hf] at this
    exact (Nat.mul_right_cancel hs this).symm
  subst hl
  exact ⟨A, c, h1, h2⟩
end
/-- What a block that was just made holds: n elements. -/
theorem Sl.newrowF (w : World) (cs : Array Value) (e : TypeId) (n s : Nat) (hn : cs.size = n * s) (hm : n ≤ 140737488355328) :
    Sl (w.alloc (.cells cs e)) (w.alloc (.cells cs e)).heap.size s (some ⟨w.heap.size, 0, none⟩) n n cs.toList := by
  refine ⟨by simpa using hn, Nat.le_refl _, by unfold maxLen; omega, hm, fun h => (by cases h), fun _ a hA => ?_, fun a j u hA hu => ?_⟩
  · injection hA with hA
    subst hA
    simp
  · injection hA with hA
    subst hA
    rw [head_add, cell_of_row (w.alloc (.cells cs e)) w.heap.size j cs e (0, 0) (heap_alloc_new w _)]
    simpa using hu
theorem RdF.new {α : Type} {f : α → List Value} {s : Nat} (w : World) (l : List α) (e : TypeId) (n : Nat) (cs : Array Value) (hcs : cs = (l.flatMap f).toArray) (hf : ∀ x, (f x).length = s) (hn : n = l.length) (hl : n ≤ 100000) : RdF f s (w.alloc (.cells cs e)) (w.alloc (.cells cs e)).heap.size (.slice (some ⟨w.heap.size, 0, none⟩) n n) l := by
  subst hn
  subst hcs
  refine ⟨_, _, rfl, ?_⟩
  have := Sl.newrowF w (l.flatMap f).toArray e l.length s (by rw [List.size_toArray, flat_len hf]) (by omega)
  simpa using this
/-- Append of one element that was just made, of several cells. -/
theorem wpList_pushF {P : Program} {w : World} {ops : Array Oper} {rest : List Oper} {o : Oper} {a : Act} {Q : Exit → Act → World → Prop} (hgd : o.guard = none) (s x : Operand) (t : TypeId)
    (ho : o.op = .call { callee := .builtin .append, args := #[s, x], argTypes := #[t, t] })
    (base : Nat) (e : TypeId) (i : TypeInfo) (z : Value) (size bytes : Nat) (ht : P.underlying t = some (.slice e)) (hi : P.info? e = some i) (hz : i.zero = some z)
    (hsize : i.size = size) (hby : i.bytes = bytes) (hzs : z.cells.size = size) (hsp : 0 < size) (hbp : 0 < bytes)
    (v : Value) (n : Nat) (xs : List Value) (cs : Array Value) (hcs : cs.size = size) (hs : a.eval s = v) (hown : Own w base e size v n xs) (hx : a.eval x = .slice (some ⟨w.heap.size, 0, none⟩) 1 1)
    (h1 : ∀ u ∈ cs.toList, u.oneCell' = true) (hbytes : (n + 1) * bytes ≤ 140737488355328) (hbase : base ≤ w.heap.size)
    (h : ∀ v' w', Own w' base e size v' (n + 1) (xs ++ cs.toList) → w.grownBy w' v.ownBlock → (v'.ownBlock = v.ownBlock ∨ ∃ g, v'.ownBlock = some g ∧ w.heap.size ≤ g) → wpList P ops Q rest (a.put o.dst v') w') :
    wpList P ops Q (o :: rest) a (w.alloc (.cells cs e)) := by
  have hnb : n + 1 ≤ maxLen := by
    have := Nat.le_trans (Nat.le_mul_of_pos_right (n + 1) hbp) hbytes
    unfold maxLen
    omega
  refine wpList_append_Own (w := w.alloc (.cells cs e)) hgd s x t ho base e i z size bytes ht hi hz hsize hby hzs hsp hbp v n xs hs (hown.below ((Below.refl w.heap.size w).alloc (Nat.le_refl _) _) (Nat.le_refl _)) _ _ _ _ cs.toList hx
    (Sl.newrowF w cs e 1 size (by omega) (by omega)) h1 hnb hbytes (by simp; omega) ?_
  intro v' w' h2 h3 h4
  refine h v' w' h2 ⟨h3.os, h3.tape, h3.output, Nat.le_trans (by simp) h3.size, fun k hk hne => ?_⟩ ?_
  · rw [h3.block k (by simp; omega) hne]
    exact Below.heap_alloc w _ k hk
  · rcases h4 with h4 | h4
    · exact .inl h4
    · exact .inr ⟨_, h4, by simp⟩
end Go.Proofs.YtgiemhooeoakmaaDoor

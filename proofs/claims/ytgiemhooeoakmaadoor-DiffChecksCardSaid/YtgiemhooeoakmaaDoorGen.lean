/- Slices whose elements lead on: read, and of the call's own. -/
import Derived.Test.YtgiemhooeoakmaaDoorFlat
namespace Go.Proofs.YtgiemhooeoakmaaDoor
open Go.RowKit Go.ChangeShapes Go.WideShapes
set_option linter.unusedVariables false
set_option linter.unusedSimpArgs false

/-- How an element is read: it stays, where what lies below B stays. -/
structure Stays {α : Type} (R : World → Nat → Value → α → Prop) : Prop where
  below : ∀ {w w' : World} {B : Nat} {u : Value} {x : α}, R w B u x → Below B w w' → R w' B u x
  more : ∀ {w : World} {B B' : Nat} {u : Value} {x : α}, R w B u x → B ≤ B' → R w B' u x
/-- A slice of elements of one cell each. -/
structure RdE {α : Type} (R : World → Nat → Value → α → Prop) (w : World) (B : Nat) (v : Value) (t : List α) : Prop where
  is : ∃ A c vs, v = .slice A t.length c ∧ Sl w B 1 A t.length c vs ∧ Each (R w B) vs t
section
variable {α : Type} {R : World → Nat → Value → α → Prop} {w w' : World} {B B' : Nat} {v : Value} {t : List α}
theorem RdE.below (hR : Stays R) (h : RdE R w B v t) (hb : Below B w w') : RdE R w' B v t := by
  obtain ⟨A, c, vs, h1, h2, h3⟩ := h.is
  exact ⟨A, c, vs, h1, h2.below hb, h3.imp fun _ _ h => hR.below h hb⟩
theorem RdE.more (hR : Stays R) (h : RdE R w B v t) (hb : B ≤ B') : RdE R w B' v t := by
  obtain ⟨A, c, vs, h1, h2, h3⟩ := h.is
  exact ⟨A, c, vs, h1, h2.more hb, h3.imp fun _ _ h => hR.more h hb⟩
theorem RdE.next (hR : Stays R) (h : RdE R w w.heap.size v t) (hb : Below w.heap.size w w') : RdE R w' w'.heap.size v t := (h.below hR hb).more hR hb.size
theorem RdE.few (h : RdE R w B v t) : t.length ≤ 140737488355328 := by
  obtain ⟨A, c, vs, h1, h2, h3⟩ := h.is
  exact h2.few
theorem RdE.cap {A : Option Addr} {n c : Nat} (h : RdE R w B (.slice A n c) t) : t.length ≤ c := by
  obtain ⟨A', c', vs, h1, h2, h3⟩ := h.is
  injection h1 with _ _ hc
  subst hc
  exact h2.cap
theorem RdE.at (h : RdE R w B v t) {k : Nat} (hk : k < t.length) : ∃ a c u, v = .slice (some a) t.length c ∧ w.cell? (a.add k) = some u ∧ R w B u t[k] := by
  obtain ⟨A, c, vs, h1, h2, h3⟩ := h.is
  obtain ⟨a, rfl⟩ := h2.some_ (by omega)
  obtain ⟨u, hu, hr⟩ := h3.got (List.getElem?_eq_getElem hk)
  exact ⟨a, c, u, h1, h2.cell a k _ rfl hu, hr⟩
theorem RdE.nil (w : World) (B : Nat) : RdE R w B (.slice none 0 0) [] := ⟨none, 0, [], rfl, Sl.none_ _ _ _, Each.nil⟩
theorem RdE.take {A : Option Addr} {c k : Nat} (h : RdE R w B (.slice A t.length c) t) (hk : k ≤ t.length) : RdE R w B (.slice A k c) (t.take k) := by
  obtain ⟨A', c', vs, h1, h2, h3⟩ := h.is
  injection h1 with hA _ hc
  subst hA
  subst hc
  have hkl : (t.take k).length = k := by rw [List.length_take]; omega
  have hvl := h2.len
  rw [Nat.mul_one] at hvl
  refine ⟨A, c, vs.take k, by rw [hkl], ⟨by rw [List.length_take, hkl]; omega, by rw [hkl]; have := h2.cap; omega, h2.most, by rw [hkl]; have := h2.few; omega, fun hA => by rw [hkl]; have := h2.nil hA; omega, fun hn => h2.low (by rw [hkl] at hn; omega), fun a j u hA hu => h2.cell a j u hA ?_⟩, h3.take k⟩
  by_cases hj : j < k
  · rw [List.getElem?_take, if_pos hj] at hu
    exact hu
  · rw [List.getElem?_take, if_neg hj] at hu
    simp at hu
end
theorem RdF.stays {α : Type} (f : α → List Value) (s : Nat) : Stays (RdF f s) := ⟨fun h hb => h.below hb, fun h hb => h.more hb⟩
/-- A slice of plain elements whose cells lie elsewhere than block 'row'. -/
structure RdX {α : Type} (f : α → List Value) (s : Nat) (w : World) (row : Option Nat) (v : Value) (l : List α) : Prop where
  is : ∃ A c, v = .slice A l.length c ∧ Sl w w.heap.size s A l.length c (l.flatMap f) ∧ ∀ a, A = some a → 0 < l.length → some a.block ≠ row
section
variable {α : Type} {f : α → List Value} {s : Nat} {w w' : World} {row row' : Option Nat} {v : Value} {l : List α}
theorem RdX.rd (h : RdX f s w row v l) : RdF f s w w.heap.size v l := by
  obtain ⟨A, c, h1, h2, _⟩ := h.is
  exact ⟨A, c, h1, h2⟩
theorem RdX.one (h : RdX f s w row v l) : v.oneCell' = true := by
  obtain ⟨A, c, h1, h2, _⟩ := h.is
  rw [h1]
  rfl
theorem RdX.grown (h : RdX f s w row v l) (hg : w.grownBy w' row) : RdX f s w' row v l := by
  obtain ⟨A, c, h1, h2, h3⟩ := h.is
  exact ⟨A, c, h1, (h2.grown hg (Nat.le_refl _) (fun g hr hn a ha he => h3 a ha hn (by rw [he, hr]))).more hg.size, h3⟩
theorem RdX.turn (h : RdX f s w row v l) (hg : w.grownBy w' row) (hr : row' = row ∨ ∃ g, row' = some g ∧ w.heap.size ≤ g) : RdX f s w' row' v l := by
  obtain ⟨A, c, h1, h2, h3⟩ := h.is
  obtain ⟨A', c', h1', h2', h3'⟩ := (h.grown hg).is
  rw [h1] at h1'
  injection h1' with hA _ hc
  subst hA
  subst hc
  refine ⟨A, c, h1, h2', fun a ha hn => ?_⟩
  rcases hr with rfl | ⟨g, rfl, hge⟩
  · exact h3 a ha hn
  · intro e
    injection e with e
    have := h2.low hn a ha
    omega
theorem RdX.keep (h : RdX f s w row v l) (hb : Below w.heap.size w w') : RdX f s w' row v l := h.grown (below_grownBy hb row)
theorem RdX.of_rd {B : Nat} (h : RdF f s w B v l) (hB : B ≤ w.heap.size) (hr : ∀ g, row = some g → B ≤ g) : RdX f s w row v l := by
  obtain ⟨A, c, h1, h2⟩ := h.is
  refine ⟨A, c, h1, h2.more hB, fun a ha hn e => ?_⟩
  have := h2.low hn a ha
  have := hr _ e.symm
  omega
theorem RdX.of_own {base n : Nat} {e : TypeId} (hf : ∀ x, (f x).length = s) (hs : 0 < s) (h : Own w base e s v n (l.flatMap f)) (hr : ∀ g, row = some g → g < base) : RdX f s w row v l := by
  obtain ⟨A, c, h1, h2⟩ := h.form
  have hl : n = l.length := by
    have := h2.len
    rw [flat_len hf] at this
    exact (Nat.mul_right_cancel hs this).symm
  subst hl
  refine ⟨A, c, h1, h2, fun a ha hn e => ?_⟩
  obtain ⟨g, c', h3, h4, h5, h6⟩ := h.head hn
  rw [h1] at h3
  injection h3 with hA
  rw [ha] at hA
  injection hA with hA
  have := hr _ e.symm
  rw [hA] at this
  simp at this
  omega
theorem RdX.nil (w : World) (row : Option Nat) : RdX f s w row (.slice none 0 0) [] := ⟨none, 0, rfl, Sl.none_ _ _ _, fun a ha => by cases ha⟩
end
/-- A table of the call's own: its rows lie elsewhere than itself. -/
structure TabX {α : Type} (f : α → List Value) (s : Nat) (e : TypeId) (w : World) (base : Nat) (v : Value) (t : List (List α)) : Prop where
  is : ∃ vs, Own w base e 1 v t.length vs ∧ Each (RdX f s w v.ownBlock) vs t
section
variable {α : Type} {f : α → List Value} {s : Nat} {e : TypeId} {w w' : World} {base : Nat} {v v' : Value} {t : List (List α)}
theorem TabX.none_ (w : World) (base : Nat) : TabX f s e w base (.slice none 0 0) [] := ⟨[], Own.nil_ _ _ _ _, Each.nil⟩
theorem TabX.keep (h : TabX f s e w base v t) (hb : Below w.heap.size w w') : TabX f s e w' base v t := by
  obtain ⟨vs, h1, h2⟩ := h.is
  exact ⟨vs, h1.below hb (Nat.le_refl _), h2.imp fun _ _ h => h.keep hb⟩
theorem TabX.mono {base' : Nat} (h : TabX f s e w base v t) (hb : base' ≤ base) : TabX f s e w base' v t := by
  obtain ⟨vs, h1, h2⟩ := h.is
  exact ⟨vs, h1.mono hb, h2⟩
theorem TabX.lt (h : TabX f s e w base v t) : ∀ k, v.ownBlock = some k → base ≤ k ∧ k < w.heap.size := by
  obtain ⟨vs, h1, h2⟩ := h.is
  exact h1.lt
theorem TabX.push {vs : List Value} {u : Value} {l : List α} (h1 : Own w' base e 1 v' (t.length + 1) (vs ++ [u])) (h2 : Each (RdX f s w v.ownBlock) vs t) (hu : RdX f s w v.ownBlock u l)
    (hg : w.grownBy w' v.ownBlock) (hr : v'.ownBlock = v.ownBlock ∨ ∃ g, v'.ownBlock = some g ∧ w.heap.size ≤ g) : TabX f s e w' base v' (t ++ [l]) :=
  ⟨vs ++ [u], by rw [List.length_append]; exact h1, (h2.snoc hu).imp fun _ _ h => h.turn hg hr⟩
theorem TabX.rd (h : TabX f s e w base v t) : RdE (RdF f s) w w.heap.size v t := by
  obtain ⟨vs, h1, h2⟩ := h.is
  obtain ⟨A, c, h3, h4⟩ := h1.form
  exact ⟨A, c, vs, h3, h4, h2.imp fun _ _ h => h.rd⟩
theorem TabX.form (h : TabX f s e w base v t) : ∃ A c, v = .slice A t.length c := by
  obtain ⟨vs, h1, h2⟩ := h.is
  obtain ⟨A, c, h3, h4⟩ := h1.form
  exact ⟨A, c, h3⟩
end
theorem Own.agree_ {w w' : World} {base size n : Nat} {e : TypeId} {v : Value} {xs : List Value} (h : Own w base e size v n xs) (hb : ∀ g, v.ownBlock = some g → w'.heap[g]? = w.heap[g]?) : Own w' base e size v n xs := by
  refine ⟨h.1, ?_⟩
  rcases h.2 with hn | ⟨g, cap, cur, fr, hv, hg, hh, rest⟩
  · exact .inl hn
  · exact .inr ⟨g, cap, cur, fr, hv, hg, by rw [hb g (by rw [hv]; rfl)]; exact hh, rest⟩
/-- A table of the call's own, its rows the call's own too. -/
structure TabY {α : Type} (f : α → List Value) (s : Nat) (er et : TypeId) (w : World) (base : Nat) (v : Value) (t : List (List α)) : Prop where
  is : ∃ vs, Own w base et 1 v t.length vs ∧ Each (fun u l => Own w base er s u l.length (l.flatMap f) ∧ (u.ownBlock = none ∨ u.ownBlock ≠ v.ownBlock)) vs t
section
variable {α : Type} {f : α → List Value} {s : Nat} {er et : TypeId} {w w' : World} {base : Nat} {v v' : Value} {t : List (List α)}
theorem TabY.none_ (w : World) (base : Nat) : TabY f s er et w base (.slice none 0 0) [] := ⟨[], Own.nil_ _ _ _ _, Each.nil⟩
theorem TabY.agree (h : TabY f s er et w base v t) (hb : ∀ g, base ≤ g → g < w.heap.size → w'.heap[g]? = w.heap[g]?) : TabY f s er et w' base v t := by
  obtain ⟨vs, h1, h2⟩ := h.is
  refine ⟨vs, h1.agree_ fun g hg => hb g (h1.lt g hg).1 (h1.lt g hg).2, h2.imp fun u l ⟨h3, h4⟩ => ⟨h3.agree_ fun g hg => hb g (h3.lt g hg).1 (h3.lt g hg).2, h4⟩⟩
theorem TabY.keep (h : TabY f s er et w base v t) (hb : Below w.heap.size w w') : TabY f s er et w' base v t := h.agree fun g _ hg => hb.block g hg
theorem TabY.lt (h : TabY f s er et w base v t) : ∀ k, v.ownBlock = some k → base ≤ k ∧ k < w.heap.size := by
  obtain ⟨vs, h1, h2⟩ := h.is
  exact h1.lt
theorem TabY.mono {base' : Nat} (h : TabY f s er et w base v t) (hb : base' ≤ base) : TabY f s er et w base' v t := by
  obtain ⟨vs, h1, h2⟩ := h.is
  exact ⟨vs, h1.mono hb, h2.imp fun u l ⟨h3, h4⟩ => ⟨h3.mono hb, h4⟩⟩
theorem TabY.rd (hf : ∀ x, (f x).length = s) (hs : 0 < s) (h : TabY f s er et w base v t) : RdE (RdF f s) w w.heap.size v t := by
  obtain ⟨vs, h1, h2⟩ := h.is
  obtain ⟨A, c, h3, h4⟩ := h1.form
  exact ⟨A, c, vs, h3, h4, h2.imp fun u l ⟨h5, _⟩ => RdF.of_own hf hs h5⟩
theorem TabY.form (h : TabY f s er et w base v t) : ∃ A c, v = .slice A t.length c := by
  obtain ⟨vs, h1, h2⟩ := h.is
  obtain ⟨A, c, h3, h4⟩ := h1.form
  exact ⟨A, c, h3⟩
/-- One row more, that was made behind all the table's rows. -/
theorem TabY.push {vs : List Value} {y : Value} {x : List α} {lo : Nat} (h1 : Own w' base et 1 v' (t.length + 1) (vs ++ [y])) (h2 : Each (fun u l => Own w base er s u l.length (l.flatMap f) ∧ (u.ownBlock = none ∨ u.ownBlock ≠ v.ownBlock)) vs t)
    (hy : Own w lo er s y x.length (x.flatMap f)) (hlo : base ≤ lo) (hv : ∀ g, v.ownBlock = some g → g < lo) (hg : w.grownBy w' v.ownBlock) (hat : v'.ownBlock = v.ownBlock ∨ ∃ g, v'.ownBlock = some g ∧ w.heap.size ≤ g) : TabY f s er et w' base v' (t ++ [x]) := by
  have tr : ∀ (u : Value) (l : List α), Own w base er s u l.length (l.flatMap f) → (u.ownBlock = none ∨ u.ownBlock ≠ v.ownBlock) → Own w' base er s u l.length (l.flatMap f) ∧ (u.ownBlock = none ∨ u.ownBlock ≠ v'.ownBlock) := fun u l q1 q2 => by
    refine ⟨q1.kept hg q2, ?_⟩
    rcases q2 with q2 | q2
    · exact .inl q2
    · rcases hat with ha | ⟨g, ha, hge⟩
      · exact .inr (by rw [ha]; exact q2)
      · right
        rw [ha]
        intro hh
        have := (q1.lt g hh).2
        omega
  refine ⟨vs ++ [y], by rw [List.length_append]; exact h1, (h2.imp fun u l ⟨q1, q2⟩ => tr u l q1 q2).snoc ?_⟩
  refine tr y x (hy.mono hlo) ?_
  cases hq : y.ownBlock with
  | none => exact .inl rfl
  | some g =>
    right
    intro hh
    have h8 := hv g hh.symm
    have h7 := (hy.lt g hq).1
    omega
end
/-- The first place where p holds, so many being behind; -1: there is none. -/
def idxP {α : Type} (p : α → Bool) : Nat → List α → Int
  | _, [] => -1
  | j, x :: r => if p x then j else idxP p (j + 1) r
theorem idxP_any {α : Type} (p : α → Bool) : ∀ (l : List α) (j : Nat), decide (0 ≤ idxP p j l) = l.any p
  | [], j => rfl
  | x :: r, j => by
    rw [idxP, List.any_cons]
    cases hx : p x
    · rw [if_neg (by simp), idxP_any p r (j + 1)]; rfl
    · rw [if_pos rfl, decide_eq_true (by omega)]; rfl
theorem idxP_none {α : Type} {p : α → Bool} {l : List α} (h : l.any p = false) : ∀ j, idxP p j l = -1 := by
  induction l with
  | nil => intro j; rfl
  | cons x r ih =>
    intro j
    rw [List.any_cons, Bool.or_eq_false_iff] at h
    rw [idxP, h.1, if_neg (by simp), ih h.2]
theorem idxP_some {α : Type} {p : α → Bool} : ∀ {l : List α}, l.any p = true → ∀ j : Nat, ∃ k, ∃ hk : k < l.length, idxP p j l = (j + k : Nat) ∧ p l[k] = true
  | x :: r, h, j => by
    rw [idxP]
    cases hx : p x
    · rw [List.any_cons, hx, Bool.false_or] at h
      obtain ⟨k, hk, h1, h2⟩ := idxP_some h (j + 1)
      refine ⟨k + 1, by simp; omega, ?_, by simpa using h2⟩
      rw [if_neg (by simp), h1]
      congr 1
      omega
    · exact ⟨0, by simp, by rw [if_pos rfl]; rfl, hx⟩
end Go.Proofs.YtgiemhooeoakmaaDoor

/- Rows and tables that a call builds of its own. -/
import Derived.Test.YtgiemhooeoakmaaDoorTabP
namespace Go.Proofs.YtgiemhooeoakmaaDoor
open Go.RowKit Go.ChangeShapes Go.WideShapes
set_option linter.unusedVariables false
set_option linter.unusedSimpArgs false

theorem below_grown {B : Nat} {a w w' : World} {row : Option Nat} (h : Below B a w) (hg : w.grownBy w' row) (hr : ∀ g, row = some g → B ≤ g) (hB : B ≤ w.heap.size) : Below B a w' :=
  ⟨hg.os.trans h.os, hg.tape.trans h.tape, hg.output.trans h.output, Nat.le_trans h.size hg.size, fun k hk => (hg.block k (by omega) (fun e => by have := hr k e.symm; omega)).trans (h.block k hk)⟩
theorem below_grownBy {a b : World} (h : Below a.heap.size a b) (row : Option Nat) : a.grownBy b row := ⟨h.os, h.tape, h.output, h.size, fun k hk _ => h.block k hk⟩

/-- Append of one element that was just made. -/
theorem wpList_push {P : Program} {w : World} {ops : Array Oper} {rest : List Oper} {o : Oper} {a : Act} {Q : Exit → Act → World → Prop} (hgd : o.guard = none) (s x : Operand) (t : TypeId)
    (ho : o.op = .call { callee := .builtin .append, args := #[s, x], argTypes := #[t, t] })
    (base : Nat) (e : TypeId) (i : TypeInfo) (z : Value) (bytes : Nat) (ht : P.underlying t = some (.slice e)) (hi : P.info? e = some i) (hz : i.zero = some z)
    (hsize : i.size = 1) (hby : i.bytes = bytes) (hzs : z.cells.size = 1) (hbp : 0 < bytes)
    (v : Value) (n : Nat) (xs : List Value) (u : Value) (hs : a.eval s = v) (hown : Own w base e 1 v n xs) (hx : a.eval x = .slice (some ⟨w.heap.size, 0, none⟩) 1 1)
    (h1 : u.oneCell' = true) (hbytes : (n + 1) * bytes ≤ 140737488355328) (hbase : base ≤ w.heap.size)
    (h : ∀ v' w', Own w' base e 1 v' (n + 1) (xs ++ [u]) → w.grownBy w' v.ownBlock → (v'.ownBlock = v.ownBlock ∨ ∃ g, v'.ownBlock = some g ∧ w.heap.size ≤ g) → wpList P ops Q rest (a.put o.dst v') w') :
    wpList P ops Q (o :: rest) a (w.alloc (.cells #[u] e)) := by
  have hnb : n + 1 ≤ maxLen := by
    have := Nat.le_trans (Nat.le_mul_of_pos_right (n + 1) hbp) hbytes
    unfold maxLen
    omega
  refine wpList_append_Own (w := w.alloc (.cells #[u] e)) hgd s x t ho base e i z 1 bytes ht hi hz hsize hby hzs (by omega) hbp v n xs hs (hown.below ((Below.refl w.heap.size w).alloc (Nat.le_refl _) _) (Nat.le_refl _)) _ _ _ _ [u] hx
    (by simpa using Sl.newrow w #[u] e (by simp)) (by simpa using h1) hnb hbytes (by simp; omega) ?_
  intro v' w' h2 h3 h4
  refine h v' w' h2 ⟨h3.os, h3.tape, h3.output, Nat.le_trans (by simp) h3.size, fun k hk hne => ?_⟩ ?_
  · rw [h3.block k (by simp; omega) hne]
    exact Below.heap_alloc w _ k hk
  · rcases h4 with h4 | h4
    · exact .inl h4
    · exact .inr ⟨_, h4, by simp⟩

/-- A row of strings whose cells lie elsewhere than block 'row'. -/
structure RdA (w : World) (row : Option Nat) (v : Value) (l : Row) : Prop where
  is : ∃ A c, v = .slice A l.length c ∧ Sl w w.heap.size 1 A l.length c (strV l) ∧ ∀ a, A = some a → 0 < l.length → some a.block ≠ row
theorem RdA.rd {w : World} {row : Option Nat} {v : Value} {l : Row} (h : RdA w row v l) : RdS w w.heap.size v l := by
  obtain ⟨A, c, h1, h2, _⟩ := h.is
  exact ⟨A, c, h1, h2⟩
theorem RdA.one {w : World} {row : Option Nat} {v : Value} {l : Row} (h : RdA w row v l) : v.oneCell' = true := by
  obtain ⟨A, c, h1, h2, _⟩ := h.is
  rw [h1]
  rfl
theorem RdA.grown {w w' : World} {row : Option Nat} {v : Value} {l : Row} (h : RdA w row v l) (hg : w.grownBy w' row) : RdA w' row v l := by
  obtain ⟨A, c, h1, h2, h3⟩ := h.is
  exact ⟨A, c, h1, (h2.grown hg (Nat.le_refl _) (fun g hr hn a ha he => h3 a ha hn (by rw [he, hr]))).more hg.size, h3⟩
theorem RdA.turn {w w' : World} {row row' : Option Nat} {v : Value} {l : Row} (h : RdA w row v l) (hg : w.grownBy w' row) (hr : row' = row ∨ ∃ g, row' = some g ∧ w.heap.size ≤ g) : RdA w' row' v l := by
  obtain ⟨A, c, h1, h2, h3⟩ := h.is
  obtain ⟨A', c', h1', h2', h3'⟩ := (h.grown hg).is
  rw [h1] at h1'
  injection h1' with hA _ hc
  subst hA
  subst hc
  refine ⟨A, c, h1, h2', fun a ha hn => ?_⟩
  rcases hr with rfl | ⟨g, rfl, hge⟩
  · exact h3 a ha hn
  · intro e
    injection e with e
    have := h2.low hn a ha
    omega
theorem RdA.keep {w w' : World} {row : Option Nat} {v : Value} {l : Row} (h : RdA w row v l) (hb : Below w.heap.size w w') : RdA w' row v l := h.grown (below_grownBy hb row)
/-- A row of the call's own, made behind block 'row'. -/
theorem RdA.of_own {w : World} {row : Option Nat} {v : Value} {l : Row} {base n : Nat} {e : TypeId} (h : Own w base e 1 v n (strV l)) (hr : ∀ g, row = some g → g < base) : RdA w row v l := by
  obtain ⟨A, c, h1, h2⟩ := h.form
  have hl : n = l.length := by have := h2.len; unfold strV at this; simp at this; omega
  subst hl
  refine ⟨A, c, h1, h2, fun a ha hn e => ?_⟩
  obtain ⟨g, c', h3, h4, h5, h6⟩ := h.head hn
  rw [h1] at h3
  injection h3 with hA
  rw [ha] at hA
  injection hA with hA
  have := hr _ e.symm
  rw [hA] at this
  simp at this
  omega
/-- Any row that can be read below B, another block being B's or above. -/
theorem RdA.of_rd {w : World} {B : Nat} {row : Option Nat} {v : Value} {l : Row} (h : RdS w B v l) (hB : B ≤ w.heap.size) (hr : ∀ g, row = some g → B ≤ g) : RdA w row v l := by
  obtain ⟨A, c, h1, h2⟩ := h.is
  refine ⟨A, c, h1, h2.more hB, fun a ha hn e => ?_⟩
  have := h2.low hn a ha
  have := hr _ e.symm
  omega

/-- A table of the call's own. -/
structure TabOut (w : World) (base : Nat) (v : Value) (t : Tbl) : Prop where
  is : ∃ vs, Own w base 26 1 v t.length vs ∧ Each (RdA w v.ownBlock) vs t
section
variable {w w' : World} {base : Nat} {v v' : Value} {t : Tbl}
theorem TabOut.none_ (w : World) (base : Nat) : TabOut w base (.slice none 0 0) [] := ⟨[], Own.nil_ _ _ _ _, Each.nil⟩
theorem TabOut.keep (h : TabOut w base v t) (hb : Below w.heap.size w w') : TabOut w' base v t := by
  obtain ⟨vs, h1, h2⟩ := h.is
  exact ⟨vs, h1.below hb (Nat.le_refl _), h2.imp fun _ _ h => h.keep hb⟩
theorem TabOut.mono {base' : Nat} (h : TabOut w base v t) (hb : base' ≤ base) : TabOut w base' v t := by
  obtain ⟨vs, h1, h2⟩ := h.is
  exact ⟨vs, h1.mono hb, h2⟩
theorem TabOut.lt (h : TabOut w base v t) : ∀ k, v.ownBlock = some k → base ≤ k ∧ k < w.heap.size := by
  obtain ⟨vs, h1, h2⟩ := h.is
  exact h1.lt
theorem TabOut.push {vs : List Value} {u : Value} {l : Row} (h1 : Own w' base 26 1 v' (t.length + 1) (vs ++ [u])) (h2 : Each (RdA w v.ownBlock) vs t) (hu : RdA w v.ownBlock u l)
    (hg : w.grownBy w' v.ownBlock) (hr : v'.ownBlock = v.ownBlock ∨ ∃ g, v'.ownBlock = some g ∧ w.heap.size ≤ g) : TabOut w' base v' (t ++ [l]) :=
  ⟨vs ++ [u], by rw [List.length_append]; exact h1, (h2.snoc hu).imp fun _ _ h => h.turn hg hr⟩
theorem TabOut.rd (h : TabOut w base v t) : RdT w w.heap.size v t := by
  obtain ⟨vs, h1, h2⟩ := h.is
  obtain ⟨A, c, h3, h4⟩ := h1.form
  exact ⟨A, c, vs, h3, h4, h2.imp fun _ _ h => h.rd⟩
end
theorem str_info : (Tryd.prog.info? 9).map (fun i => (i.zero, i.size, i.bytes)) = some (some (.string ⟨#[]⟩), 1, 16) := by kernel_rfl
theorem row_info : (Tryd.prog.info? 26).map (fun i => (i.zero, i.size, i.bytes)) = some (some (.slice none 0 0), 1, 24) := by kernel_rfl
theorem strV_snoc (l : Row) (x : ByteArray) : strV (l ++ [x]) = strV l ++ [.string x] := by simp [strV]
theorem strV_len (l : Row) : (strV l).length = l.length := by simp [strV]
end Go.Proofs.YtgiemhooeoakmaaDoor

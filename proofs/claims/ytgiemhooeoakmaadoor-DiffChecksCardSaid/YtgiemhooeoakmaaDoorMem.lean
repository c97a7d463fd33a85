/- Words for memory: a slice that reads as a list of cells; a block known whole; what the call's own rows are; laws of conversions between strings and bytes, of append, in the walk's own forms. -/
import Derived.Test.YtgiemhooeoakmaaDoorRows
import Derived.WalkKit
import Derived.WalkSpells
import Derived.BigQuiet
import Derived.WalkLawsBesides
import Derived.Deep.QuietTactic
import Derived.Deep.RegionLaw
import Derived.Deep.Draws
import Derived.Maps.AppendAt
import Derived.Lib.Hide
import Derived.Laws.BytesArg
namespace Go.Proofs.YtgiemhooeoakmaaDoor
open Go.RowKit
set_option linter.unusedVariables false
set_option linter.unusedSimpArgs false

/-- The post behind a letter, so that the walk does not open it. -/
theorem cps {P : Program} {f : FuncId} {args : Array Value} {w : World} {Post : Ending → World → Prop}
    (h : ∀ R : Ending → World → Prop, Hid (∀ e w', Post e w' → R e w') → Calls P f args w R) : Calls P f args w Post := h Post (fun _ _ x => x)

theorem add_block (a : Addr) (k : Nat) : (a.add k).block = a.block := by
  by_cases h : k = 0 <;> simp [Addr.add, h]
theorem add_add (a : Addr) (i j : Nat) : (a.add i).add j = a.add (i + j) := by
  by_cases h : i = 0
  · simp [Addr.add, h]
  · by_cases h' : j = 0 <;> simp [Addr.add, h, h', Nat.add_assoc]
theorem head_add (g j : Nat) : (⟨g, 0, none⟩ : Addr).add j = ⟨g, j, none⟩ := by
  by_cases h : j = 0 <;> simp [Addr.add, h]

/-- The slice of address A, length n and capacity c holds the cells xs (so many an element), in a block below B. -/
structure Sl (w : World) (B size : Nat) (A : Option Addr) (n c : Nat) (xs : List Value) : Prop where
  len : xs.length = n * size
  cap : n ≤ c
  most : c ≤ maxLen
  few : n ≤ 140737488355328
  nil : A = none → n = 0
  low : 0 < n → ∀ a, A = some a → a.block < B
  cell : ∀ a j u, A = some a → xs[j]? = some u → w.cell? (a.add j) = some u

section
variable {w w' : World} {B B' size n c : Nat} {A : Option Addr} {xs : List Value}
theorem Sl.none_ (w : World) (B size : Nat) : Sl w B size none 0 0 [] :=
  ⟨by simp, Nat.le_refl _, Nat.zero_le _, by omega, fun _ => rfl, fun h => absurd h (by omega), fun _ _ _ h => by cases h⟩
theorem Sl.some_ (h : Sl w B size A n c xs) (hn : 0 < n) : ∃ a, A = some a := by
  cases A with
  | none => have := h.nil rfl; omega
  | some a => exact ⟨a, rfl⟩
theorem Sl.keep (h : Sl w B size A n c xs) (hk : ∀ a, A = some a → 0 < n → a.block < B → ∀ p : Addr, p.block = a.block → w'.cell? p = w.cell? p) : Sl w' B size A n c xs :=
  ⟨h.len, h.cap, h.most, h.few, h.nil, h.low, fun a j u hA hu => by
    have hn : 0 < n := by
      rcases Nat.eq_zero_or_pos n with h0 | h0
      · have hl := h.len
        rw [h0, Nat.zero_mul] at hl
        rw [List.eq_nil_of_length_eq_zero hl] at hu
        simp at hu
      · exact h0
    rw [hk a hA hn (h.low hn a hA) _ (add_block a j)]
    exact h.cell a j u hA hu⟩
theorem Sl.more (h : Sl w B size A n c xs) (hB : B ≤ B') : Sl w B' size A n c xs :=
  ⟨h.len, h.cap, h.most, h.few, h.nil, fun hn a hA => Nat.lt_of_lt_of_le (h.low hn a hA) hB, h.cell⟩
theorem Sl.below (h : Sl w B size A n c xs) (hb : Below B w w') : Sl w' B size A n c xs :=
  h.keep fun _ _ _ hl _ hp => hb.cell (by rw [hp]; exact hl)
theorem Sl.drew (h : Sl w B size A n c xs) : Sl w.drew B size A n c xs := ⟨h.len, h.cap, h.most, h.few, h.nil, h.low, h.cell⟩
theorem Sl.drewN (h : Sl w B size A n c xs) (k : Nat) : Sl (w.drewN k) B size A n c xs := ⟨h.len, h.cap, h.most, h.few, h.nil, h.low, h.cell⟩
theorem Sl.alloc (h : Sl w B size A n c xs) (hB : B ≤ w.heap.size) (o : Obj) : Sl (w.alloc o) B size A n c xs :=
  h.keep fun _ _ _ hl p hp => World.cell?_alloc_lt w o p (by rw [hp]; omega)
theorem Sl.grown {row : Option Nat} (h : Sl w B size A n c xs) (hg : w.grownBy w' row) (hB : B ≤ w.heap.size) (hr : ∀ g, row = some g → 0 < n → ∀ a, A = some a → a.block ≠ g) : Sl w' B size A n c xs :=
  h.keep fun a hA hn hl p hp => World.cell?_of_block (hg.block p.block (by rw [hp]; omega) (fun e => by rw [hp] at e; exact hr _ e.symm hn a hA rfl))
theorem Sl.cut (h : Sl w B size A n c xs) {k : Nat} (hk : k ≤ n) :
    Sl w B size (if c = k then A else A.map (·.add (k * size))) (n - k) (c - k) (xs.drop (k * size)) := by
  refine ⟨by rw [List.length_drop, h.len, Nat.sub_mul], by have := h.cap; omega, by have := h.most; omega, by have := h.few; omega, fun hA => ?_, fun hn a hA => ?_, fun a j u hA hu => ?_⟩
  · split at hA
    · have := h.cap; omega
    · cases A with
      | none => have := h.nil rfl; omega
      | some a => cases hA
  · rw [if_neg (by have := h.cap; omega)] at hA
    obtain ⟨b, rfl⟩ := h.some_ (by omega)
    injection hA with hA
    subst hA
    rw [add_block]
    exact h.low (by omega) b rfl
  · by_cases hc : c = k
    · have hl := h.len
      have hcn := h.cap
      have : xs.drop (k * size) = [] := List.drop_of_length_le (by rw [hl]; exact Nat.mul_le_mul_right _ (by omega))
      rw [this] at hu
      simp at hu
    · rw [if_neg hc] at hA
      cases A with
      | none => cases hA
      | some b =>
        injection hA with hA
        subst hA
        show w.cell? ((b.add (k * size)).add j) = some u
        rw [add_add]
        exact h.cell b _ u rfl (by rw [← hu, List.getElem?_drop])
/-- What a block that was just made holds. -/
theorem Sl.newrow (w : World) (cs : Array Value) (e : TypeId) (hm : cs.size ≤ 140737488355328) :
    Sl (w.alloc (.cells cs e)) (w.alloc (.cells cs e)).heap.size 1 (some ⟨w.heap.size, 0, none⟩) cs.size cs.size cs.toList := by
  refine ⟨by simp, Nat.le_refl _, by unfold maxLen; omega, hm, fun h => (by cases h), fun _ a hA => ?_, fun a j u hA hu => ?_⟩
  · injection hA with hA
    subst hA
    simp
  · injection hA with hA
    subst hA
    rw [head_add, cell_of_row (w.alloc (.cells cs e)) w.heap.size j cs e (0, 0) (heap_alloc_new w _)]
    simpa using hu
/-- A cell of the slice, in the walk's own words. -/
theorem Sl.at1 (h : Sl w B 1 A n c xs) {k : Nat} (hk : k < n) : ∃ a u, A = some a ∧ a.block < B ∧ xs[k]? = some u ∧ w.cell? (a.add k) = some u := by
  obtain ⟨a, rfl⟩ := h.some_ (by omega)
  have hl : k < xs.length := by rw [h.len]; omega
  exact ⟨a, xs[k], rfl, h.low (by omega) a rfl, List.getElem?_eq_getElem hl, h.cell a k _ rfl (List.getElem?_eq_getElem hl)⟩
end

/-- Block g holds the cells cs of type t; none is marked. -/
structure Box (w : World) (g : Nat) (t : TypeId) (cs : Array Value) : Prop where
  is : w.heap[g]? = some (.cells cs t (0, 0))

section
variable {w w' : World} {g : Nat} {t : TypeId} {cs : Array Value}
theorem Box.lt (h : Box w g t cs) : g < w.heap.size := (Array.getElem?_eq_some_iff.1 h.is).1
theorem Box.cell (h : Box w g t cs) (i : Nat) : w.cell? ⟨g, i, none⟩ = cs[i]? := cell_of_row w g i cs t (0, 0) h.is
theorem Box.frozen (h : Box w g t cs) (i : Nat) : w.frozen? ⟨g, i, none⟩ = false := by
  have := h.is
  simp [World.frozen?, this]
theorem Box.new (w : World) (t : TypeId) (cs : Array Value) : Box (w.alloc (.cells cs t)) w.heap.size t cs := ⟨heap_alloc_new w _⟩
theorem Box.drew (h : Box w g t cs) : Box w.drew g t cs := ⟨h.is⟩
theorem Box.drewN (h : Box w g t cs) (n : Nat) : Box (w.drewN n) g t cs := ⟨h.is⟩
theorem Box.alloc (h : Box w g t cs) (o : Obj) : Box (w.alloc o) g t cs := ⟨(Below.heap_alloc w o g h.lt).trans h.is⟩
theorem Box.put (h : Box w g t cs) (i : Nat) (u : Value) : Box (w.setCell ⟨g, i, none⟩ u) g t (cs.setIfInBounds i u) :=
  ⟨by have := h.is; simp [World.setCell, Array.getElem?_modify, this]⟩
theorem Box.below {B : Nat} (h : Box w g t cs) (hb : Below B w w') (hg : g < B) : Box w' g t cs := ⟨(hb.block g hg).trans h.is⟩
theorem Box.grown {row : Option Nat} (h : Box w g t cs) (hb : w.grownBy w' row) (hg : some g ≠ row) : Box w' g t cs := ⟨(hb.block g h.lt hg).trans h.is⟩
/-- A cell whose value the block does not hold lies elsewhere. -/
theorem Box.apart (h : Box w g t cs) {a : Addr} {u : Value} (ha : w.cell? a = some u) (hu : ∀ i : Nat, cs[i]? ≠ some u) : a.block ≠ g := by
  intro e
  have hi := h.is
  rw [← e] at hi
  unfold World.cell? at ha
  rw [hi] at ha
  by_cases hs : a.spot.isSome
  · simp [hs] at ha
  · simp [hs] at ha
    exact hu _ (by simpa using ha)
end

/-- A row of the call's own, a spare part of its block perhaps marked (what a conversion of a string to bytes leaves). -/
def Own (w : World) (base : Nat) (e : TypeId) (size : Nat) (v : Value) (n : Nat) (xs : List Value) : Prop :=
  (xs.length = n * size ∧ n ≤ 140737488355328) ∧
  ((v = .slice none 0 0 ∧ n = 0) ∨
   ∃ g cap cur fr, v = .slice (some ⟨g, 0, none⟩) n cap ∧ base ≤ g ∧ w.heap[g]? = some (.cells cur e fr) ∧ (∀ j, j < cur.size → ¬ (fr.1 ≤ j ∧ j < fr.2)) ∧ n ≤ cap ∧ cap ≤ maxLen ∧ cur.size = cap * size ∧ cur.toList.take (n * size) = xs)

theorem setCells_heap (g : Nat) (e : TypeId) (fr : Nat × Nat) : ∀ (vs : List Value) (o : Nat) (cur : Array Value) (w : World), w.heap[g]? = some (.cells cur e fr) → o + vs.length ≤ cur.size →
    (w.setCells g o vs).heap[g]? = some (.cells (cur.toList.take o ++ vs ++ cur.toList.drop (o + vs.length)).toArray e fr)
  | [], o, cur, w, h, _ => by simp [World.setCells, h]
  | v :: vs, o, cur, w, h, hl => by
    have h1 : (w.setCell ⟨g, o, none⟩ v).heap[g]? = some (.cells (cur.setIfInBounds o v) e fr) := by
      simp [World.setCell, Array.getElem?_modify, h]
    have hl' : o < cur.size := by simp at hl; omega
    have := setCells_heap g e fr vs (o + 1) (cur.setIfInBounds o v) _ h1 (by simp at hl ⊢; omega)
    simp only [World.setCells]
    rw [this]
    congr 2
    apply Array.ext'
    simp only [Array.toList_setIfInBounds, List.append_assoc]
    have hd : (cur.toList.set o v).drop (o + 1 + vs.length) = cur.toList.drop (o + (v :: vs).length) := by
      rw [List.drop_set_of_lt (by omega)]
      congr 1
      simp; omega
    have ht : (cur.toList.set o v).take (o + 1) = cur.toList.take o ++ [v] := by
      rw [List.take_succ_eq_append_getElem (by simpa using hl'), List.take_set_of_le (by omega)]
      simp
    rw [hd, ht]
    simp
theorem grownBy_weak {a b : World} {row : Option Nat} (h : a.grownBy b none) : a.grownBy b row := ⟨h.os, h.tape, h.output, h.size, fun k hk _ => h.block k hk (by simp)⟩
theorem grownBy_after {a b c : World} (h : a.grownBy b none) (k : b.grownBy c (some a.heap.size)) : a.grownBy c none :=
  ⟨k.os.trans h.os, k.tape.trans h.tape, k.output.trans h.output, Nat.le_trans h.size k.size, fun i hi _ => (k.block i (Nat.lt_of_lt_of_le hi h.size) (by intro e; injection e; omega)).trans (h.block i hi (by simp))⟩
theorem grownBy_alloc' {a b : World} {row : Option Nat} (h : a.grownBy b row) (o : Obj) : a.grownBy (b.alloc o) row :=
  h.trans ⟨rfl, rfl, rfl, by simp, fun k hk _ => Below.heap_alloc b o k hk⟩
theorem grownBy_drew {a b : World} {row : Option Nat} (h : a.grownBy b row) : a.grownBy b.drew row := ⟨h.os, h.tape, h.output, h.size, h.block⟩
theorem grownBy_drewN {a b : World} {row : Option Nat} (h : a.grownBy b row) (n : Nat) : a.grownBy (b.drewN n) row := ⟨h.os, h.tape, h.output, h.size, h.block⟩
theorem grownBy_set {a b : World} {g : Nat} (h : a.grownBy b (some g)) (i : Nat) (u : Value) : a.grownBy (b.setCell ⟨g, i, none⟩ u) (some g) :=
  h.trans ⟨rfl, rfl, rfl, by simp [World.setCell], fun k _ hne => Below.heap_setCell b ⟨g, i, none⟩ u k (fun e => hne (by simp [e]))⟩
theorem setCells_grownBy (g : Nat) : ∀ (vs : List Value) (o : Nat) (w : World), w.grownBy (w.setCells g o vs) (some g)
  | [], _, w => .refl _ _
  | v :: vs, o, w => by
    refine World.grownBy.trans (b := w.setCell ⟨g, o, none⟩ v) ?_ (setCells_grownBy g vs (o + 1) _)
    exact ⟨rfl, rfl, rfl, by simp [World.setCell], fun k _ hk => Below.heap_setCell w ⟨g, o, none⟩ v k (fun e => hk (by simp [e]))⟩

section
variable {w w' : World} {base : Nat} {e : TypeId} {size : Nat} {v : Value} {n : Nat} {xs : List Value}
theorem Own.nil_ (w : World) (base : Nat) (e : TypeId) (size : Nat) : Own w base e size (.slice none 0 0) 0 [] := ⟨⟨by simp, by omega⟩, .inl ⟨rfl, rfl⟩⟩
theorem Own.of_owns (h : w.ownsRow base e size v n xs) (hn : n ≤ 140737488355328) : Own w base e size v n xs := by
  refine ⟨⟨h.1, hn⟩, ?_⟩
  rcases h.2 with h | ⟨g, cap, cur, h1, h2, h3, h4, h5, h6, h7⟩
  · exact .inl h
  · exact .inr ⟨g, cap, cur, (0, 0), h1, h2, h3, fun j _ hj => by omega, h4, h5, h6, h7⟩
theorem Own.made (w : World) (base : Nat) (e : TypeId) (size : Nat) (hb : base ≤ w.heap.size) : Own (w.alloc (.cells #[] e)) base e size (.slice (some ⟨w.heap.size, 0, none⟩) 0 0) 0 [] :=
  ⟨⟨by simp, by omega⟩, .inr ⟨w.heap.size, 0, #[], (0, 0), rfl, hb, heap_alloc_new w _, fun j hj => by simp at hj, Nat.le_refl _, Nat.zero_le _, by simp, by simp⟩⟩
theorem Own.lt (h : Own w base e size v n xs) : ∀ k, v.ownBlock = some k → base ≤ k ∧ k < w.heap.size := by
  intro k hk
  rcases h.2 with ⟨rfl, _⟩ | ⟨g, cap, cur, fr, rfl, hb, hg, _⟩
  · simp [Value.ownBlock] at hk
  · simp [Value.ownBlock] at hk
    subst hk
    exact ⟨hb, (Array.getElem?_eq_some_iff.1 hg).1⟩
theorem Own.kept {row : Option Nat} (h : Own w base e size v n xs) (hg : w.grownBy w' row) (hne : v.ownBlock = none ∨ v.ownBlock ≠ row) : Own w' base e size v n xs := by
  refine ⟨h.1, ?_⟩
  rcases h.2 with hn | ⟨g, cap, cur, fr, rfl, hb, hgg, rest⟩
  · exact .inl hn
  · refine .inr ⟨g, cap, cur, fr, rfl, hb, ?_, rest⟩
    rw [hg.block g (Array.getElem?_eq_some_iff.1 hgg).1 (by simpa [Value.ownBlock] using hne)]
    exact hgg
theorem Own.below {B : Nat} (h : Own w base e size v n xs) (hb : Below B w w') (hB : w.heap.size ≤ B) : Own w' base e size v n xs :=
  h.kept (row := none) ⟨hb.os, hb.tape, hb.output, hb.size, fun k hk _ => hb.block k (by omega)⟩ (by cases v.ownBlock <;> simp)
theorem Own.mono {base' : Nat} (h : Own w base e size v n xs) (hb : base' ≤ base) : Own w base' e size v n xs := by
  refine ⟨h.1, ?_⟩
  rcases h.2 with h | ⟨g, cap, cur, fr, h1, h2, h3, h4, h5, h6, h7⟩
  · exact .inl h
  · exact .inr ⟨g, cap, cur, fr, h1, by omega, h3, h4, h5, h6, h7⟩
theorem Own.far (h : Own w base e size v n xs) {g : Nat} (hg : g < base) (hw : w.grownBy w' (some g)) : Own w' base e size v n xs :=
  h.kept hw (by
    cases hv : v.ownBlock with
    | none => exact .inl rfl
    | some k =>
      have := (h.lt k hv).1
      right; intro e; injection e with e; omega)
theorem Own.form (h : Own w base e size v n xs) : ∃ A c, v = .slice A n c ∧ Sl w w.heap.size size A n c xs := by
  rcases h.2 with ⟨rfl, rfl⟩ | ⟨g, cap, cur, fr, rfl, hb, hg, _, hc, hm, hs, ht⟩
  · obtain rfl : xs = [] := List.eq_nil_of_length_eq_zero (by simpa using h.1.1)
    exact ⟨none, 0, rfl, Sl.none_ _ _ _⟩
  · refine ⟨_, cap, rfl, h.1.1, hc, hm, h.1.2, fun hA => (by cases hA), fun _ a hA => ?_, fun a j u hA hu => ?_⟩
    · injection hA with hA
      subst hA
      exact (Array.getElem?_eq_some_iff.1 hg).1
    · injection hA with hA
      subst hA
      rw [head_add, cell_of_row w g j cur e fr hg]
      rw [← ht, List.getElem?_take] at hu
      split at hu
      · simpa using hu
      · cases hu
theorem Own.sl {A : Option Addr} {c : Nat} (h : Own w base e size (.slice A n c) n xs) : Sl w w.heap.size size A n c xs := by
  obtain ⟨A', c', he, hs⟩ := h.form
  injection he with h1 _ h3
  subst h1
  subst h3
  exact hs
end

section
variable {w : World} {base : Nat} {e : TypeId} {size : Nat} {v : Value} {n c : Nat} {xs : List Value} {g : Nat}
theorem Own.head (h : Own w base e size v n xs) (hn : 0 < n) : ∃ g c, v = .slice (some ⟨g, 0, none⟩) n c ∧ base ≤ g ∧ g < w.heap.size ∧ v.ownBlock = some g := by
  rcases h.2 with ⟨_, h0⟩ | ⟨g, cap, cur, fr, hv, hb, hg, _⟩
  · omega
  · exact ⟨g, cap, hv, hb, (Array.getElem?_eq_some_iff.1 hg).1, by rw [hv]; rfl⟩
theorem Own.thaw (h : Own w base e size (.slice (some ⟨g, 0, none⟩) n c) n xs) {k : Nat} (hk : k < n * size) : w.frozen? ⟨g, k, none⟩ = false := by
  rcases h.2 with ⟨hv, _⟩ | ⟨g', cap, cur, fr, hv, hb, hg, hf, hc, hm, hs, ht⟩
  · cases hv
  · injection hv with h1 _ h3
    injection h1 with h1
    injection h1 with h1
    subst h1
    have hlt : k < cur.size := by rw [hs]; exact Nat.lt_of_lt_of_le hk (Nat.mul_le_mul_right _ hc)
    have := hf k hlt
    simp only [World.frozen?, hg, Bool.and_eq_false_iff, decide_eq_false_iff_not]
    by_cases h1 : fr.1 ≤ k
    · exact .inr (fun h2 => this ⟨h1, h2⟩)
    · exact .inl h1
theorem Own.put (h : Own w base e size (.slice (some ⟨g, 0, none⟩) n c) n xs) {k : Nat} (hk : k < n * size) (u : Value) : Own (w.setCell ⟨g, k, none⟩ u) base e size (.slice (some ⟨g, 0, none⟩) n c) n (xs.set k u) := by
  refine ⟨⟨by rw [List.length_set]; exact h.1.1, h.1.2⟩, ?_⟩
  rcases h.2 with ⟨hv, _⟩ | ⟨g', cap, cur, fr, hv, hb, hg, hf, hc, hm, hs, ht⟩
  · cases hv
  · injection hv with h1 _ h3
    injection h1 with h1
    injection h1 with h1
    subst h1
    subst h3
    refine .inr ⟨g, c, cur.setIfInBounds k u, fr, rfl, hb, by simp [World.setCell, Array.getElem?_modify, hg], fun j hj => hf j (by simpa using hj), hc, hm, by simpa using hs, ?_⟩
    rw [Array.toList_setIfInBounds, List.take_set, ht]
theorem grownBy_setCell (w : World) (g k : Nat) (u : Value) : w.grownBy (w.setCell ⟨g, k, none⟩ u) (some g) := grownBy_set (.refl _ _) k u
end

section
variable {P : Program} (w : World)
theorem run_append_Own (base : Nat) (t ty e : TypeId) (i : TypeInfo) (z : Value) (size bytes : Nat) (ht : P.underlying t = some (.slice e)) (hi : P.info? e = some i) (hz : i.zero = some z)
    (hsize : i.size = size) (hby : i.bytes = bytes) (hzs : z.cells.size = size) (hsz : 0 < size) (hbp : 0 < bytes)
    (v : Value) (n : Nat) (xs : List Value) (hown : Own w base e size v n xs)
    (B : Nat) (A : Option Addr) (m c : Nat) (news : List Value) (hr : Sl w B size A m c news) (h1 : ∀ u ∈ news, u.oneCell' = true)
    (h63 : n + m ≤ maxLen) (hbytes : (n + m) * bytes ≤ 140737488355328) (hbase : base ≤ w.heap.size) :
    ∃ v' w', (Builtin.append_ #[t, t] ty #[v, .slice A m c]).run P w = .ok v' w' ∧ Own w' base e size v' (n + m) (xs ++ news) ∧ w.grownBy w' v.ownBlock ∧
      (v'.ownBlock = v.ownBlock ∨ v'.ownBlock = some w.heap.size) := by
  subst hsize
  subst hby
  have hfew : n + m ≤ 140737488355328 := Nat.le_trans (Nat.le_mul_of_pos_right _ hbp) hbytes
  have hlen : (xs ++ news).length = (n + m) * i.size := by rw [List.length_append, hown.1.1, hr.len, Nat.add_mul]
  by_cases hm : m = 0
  · subst hm
    have hn : news = [] := List.eq_nil_of_length_eq_zero (by simpa using hr.len)
    subst hn
    refine ⟨v, w, ?_, by simpa using hown, .refl _ _, .inl rfl⟩
    rcases hown.2 with ⟨rfl, rfl⟩ | ⟨g, cap, cur, fr, rfl, _, _, _, hnc, _⟩
    · rcases A with _ | ad <;> simp [Builtin.append_, run_underlying ht, sizeOf, typeInfo, hi, Builtin.lenOf, Builtin.firstCells, loadCells, loadCellsFrom]
    · rcases A with _ | ad <;> simp [Builtin.append_, run_underlying ht, sizeOf, typeInfo, hi, Builtin.lenOf, Builtin.firstCells, hnc, storeCells, loadCells, loadCellsFrom]
  · obtain ⟨ad, rfl⟩ := hr.some_ (by omega)
    have hnews := fun j u hu => hr.cell ad j u rfl hu
    have grown : ∀ (old : Nat), old < n + m → ∀ (row : Option Nat),
        Own (w.drew.alloc (.cells (xs.toArray ++ news.toArray ++ Builtin.zeroCells z.cells (grownCap w (n + m) old e - (n + m))) e)) base e i.size
          (.slice (some ⟨w.heap.size, 0, none⟩) (n + m) (grownCap w (n + m) old e)) (n + m) (xs ++ news) ∧
        w.grownBy (w.drew.alloc (.cells (xs.toArray ++ news.toArray ++ Builtin.zeroCells z.cells (grownCap w (n + m) old e - (n + m))) e)) row := by
      intro old ho row
      have hge := grownCap_ge w (n + m) old e
      have hcm : grownCap w (n + m) old e ≤ maxLen := grownCap_le_maxLen w (n + m) old e h63
      refine ⟨⟨⟨hlen, hfew⟩, .inr ⟨w.heap.size, _, _, (0, 0), rfl, hbase, heap_alloc_new w.drew _, fun j _ hj => by omega, hge, hcm, ?_, ?_⟩⟩, ⟨rfl, rfl, rfl, by simp, fun k hk _ => Below.heap_alloc w.drew _ k hk⟩⟩
      · simp only [Array.size_append, List.size_toArray, size_zeroCells, hzs, hown.1.1, hr.len, ← Nat.add_mul]
        congr 1
        omega
      · simp only [Array.toList_append, List.append_assoc]
        rw [← List.append_assoc, ← hlen]
        exact List.take_left
    have hsmall : n + m ≤ 9223372036854775807 := by simp only [maxLen] at h63; omega
    rcases hown.2 with ⟨rfl, rfl⟩ | ⟨g, cap, cur, fr, rfl, hbg, hg, hfr, hnc, hcm, hcs, htake⟩
    · have hx : xs = [] := List.eq_nil_of_length_eq_zero (by simpa using hown.1.1)
      subst hx
      have hrun := run_append_nil (P := P) w t ty e i z ht hi hz ad m c news hr.len hnews (by omega) (by omega) (by have hb := hbytes; simp only [Nat.zero_add] at hb; omega)
      have hgr := grown 0 (by omega) (Value.ownBlock (.slice none 0 0))
      simp only [Nat.zero_add, List.nil_append, Array.empty_append] at hgr ⊢
      exact ⟨_, _, hrun, hgr.1, hgr.2, .inr rfl⟩
    · by_cases hroom : n + m ≤ cap
      · have hfit : n * i.size + news.length ≤ cur.size := by rw [hr.len, hcs, ← Nat.add_mul]; exact Nat.mul_le_mul_right _ hroom
        have hrun := run_append_room_cells (P := P) w t ty e i ht hi g 0 n cap ad m c news hr.len hnews h1 hroom
          (fun j hj => by rw [cell_of_row w g _ cur e fr hg]; simp; omega)
          (fun j hj => by
            have := hfr (0 + n * i.size + j) (by omega)
            simp only [World.frozen?, hg, Bool.and_eq_false_iff, decide_eq_false_iff_not]
            by_cases h1 : fr.1 ≤ 0 + n * i.size + j
            · exact .inr (fun h2 => this ⟨h1, h2⟩)
            · exact .inl h1)
        simp only [Nat.zero_add] at hrun
        refine ⟨_, _, hrun, ⟨⟨hlen, hfew⟩, .inr ⟨g, cap, _, fr, rfl, hbg, setCells_heap g e fr news _ cur w hg hfit, ?_, hroom, hcm, ?_, ?_⟩⟩, ?_, .inl rfl⟩
        · intro j hj
          exact hfr j (by simp at hj; omega)
        · simp only [List.size_toArray, List.length_append, List.length_take, List.length_drop, Array.length_toList]
          omega
        · rw [htake, ← hlen]
          exact List.take_left
        · exact setCells_grownBy g news _ w
      · have holds : ∀ j u, xs[j]? = some u → w.cell? ((⟨g, 0, none⟩ : Addr).add j) = some u := fun j u hu => (Own.sl hown).cell _ j u rfl hu
        have hrun := run_append_grow (P := P) w t ty e i z ht hi hz ⟨g, 0, none⟩ n cap xs hown.1.1 holds ad m c news hr.len hnews (by omega) (by omega) (growslice_fits (by omega) hbytes)
        have hgr := grown cap (by omega) (Value.ownBlock (.slice (some ⟨g, 0, none⟩) n cap))
        exact ⟨_, _, hrun, hgr.1, hgr.2, .inr rfl⟩
end

/-- A byte as a cell; a text's bytes as cells. -/
def byteV (c : UInt8) : Value := .int .u8 c.toNat
def bytesV (l : List UInt8) : List Value := l.map byteV
theorem bytesV_length (l : List UInt8) : (bytesV l).length = l.length := by simp [bytesV]
theorem bytesV_append (a b : List UInt8) : bytesV (a ++ b) = bytesV a ++ bytesV b := by simp [bytesV]
theorem bytesV_drop (a : List UInt8) (k : Nat) : (bytesV a).drop k = bytesV (a.drop k) := by simp [bytesV, List.map_drop]
theorem bytesV_take (a : List UInt8) (k : Nat) : (bytesV a).take k = bytesV (a.take k) := by simp [bytesV, List.map_take]
theorem bytesV_one (l : List UInt8) : ∀ u ∈ bytesV l, u.oneCell' = true := by
  intro u hu
  simp only [bytesV, List.mem_map] at hu
  obtain ⟨c, _, rfl⟩ := hu
  rfl

theorem Own.bytes {w : World} {base n : Nat} {e : TypeId} {v : Value} {xs : List Value} (h : Own w base e 1 v n xs) (l : List UInt8) (hx : xs = bytesV l) : Own w base e 1 v l.length (bytesV l) := by
  subst hx
  have := h.1.1
  rw [bytesV_length, Nat.mul_one] at this
  rw [this]
  exact h

section
variable {P : Program} (w : World)
/-- 'string(b)', b nil or not. -/
theorem conv_bs (src dst e : TypeId) (hs : P.underlying src = some (.slice e)) (he : P.underlying e = some (.int .u8)) (hd : P.underlying dst = some .string)
    (B : Nat) (A : Option Addr) (n c : Nat) (l : List UInt8) (hr : Sl w B 1 A n c (bytesV l)) :
    (convert src dst (.slice A n c)).run P w = .ok (.string ⟨l.toArray⟩) w := by
  have hn : l.length = n := by have := hr.len; simpa [bytesV] using this
  subst hn
  cases A with
  | none =>
    obtain rfl : l = [] := List.eq_nil_of_length_eq_zero (hr.nil rfl)
    rw [run_convert_bytes_string w src dst e none _ c hs he hd]
    simp [Conv.bytesToString, loadCells, loadCellsFrom]
    try rfl
  | some ad => exact run_convert_bytes_back w src dst e ad c l hs he hd (fun j hj => hr.cell ad j _ rfl (by simp [bytesV, byteV, hj]))

theorem conv_bt (src dst e : TypeId) (hs : P.underlying src = some (.slice e)) (he : P.underlying e = some (.int .u8)) (hd : P.underlying dst = some .string)
    (B : Nat) (A : Option Addr) (n c : Nat) (s : ByteArray) (l : List UInt8) (hl : s.data.toList = l) (hr : Sl w B 1 A n c (bytesV l)) :
    (convert src dst (.slice A n c)).run P w = .ok (.string s) w := by
  rw [conv_bs w src dst e hs he hd B A n c l hr, ← hl]

/-- 'string([]byte{x, ..})'. -/
theorem conv_ints (src dst e : TypeId) (hs : P.underlying src = some (.slice e)) (he : P.underlying e = some (.int .u8)) (hd : P.underlying dst = some .string) (zs : List Int) (hz : ∀ z ∈ zs, 0 ≤ z ∧ z < 256) (hl : zs.length ≤ 1000) :
    (convert src dst (.slice (some ⟨w.heap.size, 0, none⟩) zs.length zs.length)).run P (w.alloc (.cells (zs.map (Value.int .u8)).toArray e)) = .ok (.string ⟨(zs.map fun z => UInt8.ofNat z.toNat).toArray⟩) (w.alloc (.cells (zs.map (Value.int .u8)).toArray e)) := by
  have hb : bytesV (zs.map fun z => UInt8.ofNat z.toNat) = zs.map (Value.int .u8) := by
    unfold bytesV
    rw [List.map_map]
    refine List.map_congr_left fun z hz' => ?_
    have := hz z hz'
    simp only [Function.comp, byteV, UInt8.toNat_ofNat']
    congr 1
    omega
  have hn := Sl.newrow w (zs.map (Value.int .u8)).toArray e (by simp; omega)
  have := conv_bs (P := P) (w.alloc (.cells (zs.map (Value.int .u8)).toArray e)) src dst e hs he hd _ (some ⟨w.heap.size, 0, none⟩) (zs.map (Value.int .u8)).toArray.size (zs.map (Value.int .u8)).toArray.size (zs.map fun z => UInt8.ofNat z.toNat) (by rw [hb]; exact hn)
  simpa using this

/-- The value and the world of '[]byte(s)', under names. -/
def sbV (w : World) (e : TypeId) (s : ByteArray) : Value := .slice (some ⟨w.heap.size, 0, none⟩) s.size (grownCap w s.size 0 e)
def sbW (w : World) (e : TypeId) (s : ByteArray) : World :=
  w.drew.alloc (.cells (bytesRow s (grownCap w s.size 0 e)) e ((bytesRow s (grownCap w s.size 0 e)).size, (bytesRow s (grownCap w s.size 0 e)).size + 1))
theorem run_sb (src dst e : TypeId) (s : ByteArray) (hs : P.underlying src = some .string) (hd : P.underlying dst = some (.slice e)) (he : P.underlying e = some (.int .u8)) :
    (convert src dst (.string s)).run P w = .ok (sbV w e s) (sbW w e s) := run_bytes_of_string w src dst e s hs hd he
theorem sb_own (e : TypeId) (s : ByteArray) (hl : s.size ≤ 140737488355328) : Own (sbW w e s) w.heap.size e 1 (sbV w e s) s.size (bytesV s.data.toList) := by
  have hz : s.data.size = s.size := rfl
  have hge := grownCap_ge w s.size 0 e
  have hcm := grownCap_le_maxLen w s.size 0 e (by unfold maxLen; omega)
  unfold sbW sbV
  generalize hcap : grownCap w s.size 0 e = cap at *
  have hrs : (bytesRow s cap).size = cap := by simp [bytesRow, hz]; omega
  refine ⟨⟨(by rw [bytesV_length, Array.length_toList, Nat.mul_one]; rfl), hl⟩, .inr ⟨w.heap.size, cap, bytesRow s cap, ((bytesRow s cap).size, (bytesRow s cap).size + 1), rfl, Nat.le_refl _, ?_, ?_, hge, hcm, ?_, ?_⟩⟩
  · show (w.heap.push _)[w.heap.size]? = _
    simp
  · intro j hj hh; omega
  · omega
  · unfold bytesRow bytesV byteV
    rw [Array.toList_append, Array.toList_map, Nat.mul_one]
    exact List.take_left' (by rw [List.length_map, Array.length_toList]; exact hz)
theorem sb_grown (e : TypeId) (s : ByteArray) : w.grownBy (sbW w e s) none := ⟨rfl, rfl, rfl, by simp [sbW], fun k hk _ => Below.heap_alloc w.drew _ k hk⟩
theorem sb_size (e : TypeId) (s : ByteArray) : (sbW w e s).heap.size = w.heap.size + 1 := by simp [sbW]

theorem wp_append_Own {o : Oper} {a : Act} {K : Act → World → Prop} {Q : Exit → Act → World → Prop} (s x : Operand) (t : TypeId)
    (ho : o.op = .call { callee := .builtin .append, args := #[s, x], argTypes := #[t, t] })
    (base : Nat) (e : TypeId) (i : TypeInfo) (z : Value) (size bytes : Nat) (ht : P.underlying t = some (.slice e)) (hi : P.info? e = some i) (hz : i.zero = some z)
    (hsize : i.size = size) (hby : i.bytes = bytes) (hzs : z.cells.size = size) (hsz : 0 < size) (hbp : 0 < bytes)
    (v : Value) (n : Nat) (xs : List Value) (hs : a.eval s = v) (hown : Own w base e size v n xs)
    (B : Nat) (A : Option Addr) (m c : Nat) (news : List Value) (hx : a.eval x = .slice A m c) (hr : Sl w B size A m c news) (h1 : ∀ u ∈ news, u.oneCell' = true)
    (h63 : n + m ≤ maxLen) (hbytes : (n + m) * bytes ≤ 140737488355328) (hbase : base ≤ w.heap.size)
    (h : ∀ v' w', Own w' base e size v' (n + m) (xs ++ news) → w.grownBy w' v.ownBlock → (v'.ownBlock = v.ownBlock ∨ v'.ownBlock = some w.heap.size) → K (a.put o.dst v') w') : o.wp P a w K Q := by
  obtain ⟨v', w', hrun, h2, h3, h4⟩ := run_append_Own (P := P) w base t o.type e i z size bytes ht hi hz hsize hby hzs hsz hbp v n xs hown B A m c news hr h1 h63 hbytes hbase
  unfold Oper.wp execOp
  simp only [ho, resolve, invoke, builtin, Sem.run_bind, Sem.run_pure, Result.andThen_ok, List.map_toArray, List.map_cons, List.map_nil, hs, hx, hrun]
  exact h v' w' h2 h3 h4

theorem wpList_append_Own {ops : Array Oper} {rest : List Oper} {o : Oper} {a : Act} {Q : Exit → Act → World → Prop} (hgd : o.guard = none) (s x : Operand) (t : TypeId)
    (ho : o.op = .call { callee := .builtin .append, args := #[s, x], argTypes := #[t, t] })
    (base : Nat) (e : TypeId) (i : TypeInfo) (z : Value) (size bytes : Nat) (ht : P.underlying t = some (.slice e)) (hi : P.info? e = some i) (hz : i.zero = some z)
    (hsize : i.size = size) (hby : i.bytes = bytes) (hzs : z.cells.size = size) (hsz : 0 < size) (hbp : 0 < bytes)
    (v : Value) (n : Nat) (xs : List Value) (hs : a.eval s = v) (hown : Own w base e size v n xs)
    (B : Nat) (A : Option Addr) (m c : Nat) (news : List Value) (hx : a.eval x = .slice A m c) (hr : Sl w B size A m c news) (h1 : ∀ u ∈ news, u.oneCell' = true)
    (h63 : n + m ≤ maxLen) (hbytes : (n + m) * bytes ≤ 140737488355328) (hbase : base ≤ w.heap.size)
    (h : ∀ v' w', Own w' base e size v' (n + m) (xs ++ news) → w.grownBy w' v.ownBlock → (v'.ownBlock = v.ownBlock ∨ v'.ownBlock = some w.heap.size) → wpList P ops Q rest (a.put o.dst v') w') : wpList P ops Q (o :: rest) a w :=
  wpList_plain hgd fun _ hK => wp_append_Own w s x t ho base e i z size bytes ht hi hz hsize hby hzs hsz hbp v n xs hs hown B A m c news hx hr h1 h63 hbytes hbase fun v' w' h2 h3 h4 => hK _ _ (h v' w' h2 h3 h4)

theorem step_append_Own {ops : Array Oper} {o : Oper} {a : Act} {K : Act → World → Prop} {Q : Exit → Act → World → Prop} {E : Prop} (hgd : o.guard = none) (s x : Operand) (t : TypeId)
    (ho : o.op = .call { callee := .builtin .append, args := #[s, x], argTypes := #[t, t] })
    (base : Nat) (e : TypeId) (i : TypeInfo) (z : Value) (size bytes : Nat) (ht : P.underlying t = some (.slice e)) (hi : P.info? e = some i) (hz : i.zero = some z)
    (hsize : i.size = size) (hby : i.bytes = bytes) (hzs : z.cells.size = size) (hsz : 0 < size) (hbp : 0 < bytes)
    (v : Value) (n : Nat) (xs : List Value) (hs : a.eval s = v) (hown : Own w base e size v n xs)
    (B : Nat) (A : Option Addr) (m c : Nat) (news : List Value) (hx : a.eval x = .slice A m c) (hr : Sl w B size A m c news) (h1 : ∀ u ∈ news, u.oneCell' = true)
    (h63 : n + m ≤ maxLen) (hbytes : (n + m) * bytes ≤ 140737488355328) (hbase : base ≤ w.heap.size)
    (h : ∀ v' w', Own w' base e size v' (n + m) (xs ++ news) → w.grownBy w' v.ownBlock → (v'.ownBlock = v.ownBlock ∨ v'.ownBlock = some w.heap.size) → K (a.put o.dst v') w') :
    if Region.wanted o (yielded ops a.tmps) = true then Oper.wp P o a w K Q else E := by
  have hw : Region.wanted o (yielded ops a.tmps) = true := by simp [Region.wanted, hgd]
  rw [if_pos hw]
  exact wp_append_Own w s x t ho base e i z size bytes ht hi hz hsize hby hzs hsz hbp v n xs hs hown B A m c news hx hr h1 h63 hbytes hbase h
end

/-- Two lists, place by place. -/
structure Each {α β : Type} (R : α → β → Prop) (xs : List α) (ys : List β) : Prop where
  len : xs.length = ys.length
  at_ : ∀ (i : Nat) x y, xs[i]? = some x → ys[i]? = some y → R x y
section
variable {α β : Type} {R R' : α → β → Prop} {xs xs' : List α} {ys ys' : List β}
theorem Each.nil : Each R [] ([] : List β) := ⟨rfl, fun i x y h => by simp at h⟩
theorem Each.imp (h : Each R xs ys) (f : ∀ x y, R x y → R' x y) : Each R' xs ys := ⟨h.len, fun i x y hx hy => f x y (h.at_ i x y hx hy)⟩
theorem Each.get (h : Each R xs ys) {i : Nat} {x : α} (hx : xs[i]? = some x) : ∃ y, ys[i]? = some y ∧ R x y := by
  have hi : i < ys.length := by rw [← h.len]; exact (List.getElem?_eq_some_iff.1 hx).1
  exact ⟨ys[i], List.getElem?_eq_getElem hi, h.at_ i x _ hx (List.getElem?_eq_getElem hi)⟩
theorem Each.got (h : Each R xs ys) {i : Nat} {y : β} (hy : ys[i]? = some y) : ∃ x, xs[i]? = some x ∧ R x y := by
  have hi : i < xs.length := by rw [h.len]; exact (List.getElem?_eq_some_iff.1 hy).1
  exact ⟨xs[i], List.getElem?_eq_getElem hi, h.at_ i _ y (List.getElem?_eq_getElem hi) hy⟩
theorem Each.cons {x : α} {y : β} (hr : R x y) (h : Each R xs ys) : Each R (x :: xs) (y :: ys) := by
  refine ⟨by simp [h.len], fun i a b ha hb => ?_⟩
  cases i with
  | zero => simp at ha hb; subst ha; subst hb; exact hr
  | succ i => exact h.at_ i a b (by simpa using ha) (by simpa using hb)
theorem Each.append (h : Each R xs ys) (h' : Each R xs' ys') : Each R (xs ++ xs') (ys ++ ys') := by
  refine ⟨by simp [h.len, h'.len], fun i a b ha hb => ?_⟩
  by_cases hi : i < xs.length
  · rw [List.getElem?_append_left hi] at ha
    rw [List.getElem?_append_left (by rw [← h.len]; exact hi)] at hb
    exact h.at_ i a b ha hb
  · rw [List.getElem?_append_right (by omega)] at ha
    rw [List.getElem?_append_right (by rw [← h.len]; omega), ← h.len] at hb
    exact h'.at_ _ a b ha hb
theorem Each.snoc {x : α} {y : β} (h : Each R xs ys) (hr : R x y) : Each R (xs ++ [x]) (ys ++ [y]) := h.append (Each.nil.cons hr)
theorem Each.drop (h : Each R xs ys) (k : Nat) : Each R (xs.drop k) (ys.drop k) :=
  ⟨by simp [h.len], fun i a b ha hb => by rw [List.getElem?_drop] at ha hb; exact h.at_ _ a b ha hb⟩
theorem Each.take (h : Each R xs ys) (k : Nat) : Each R (xs.take k) (ys.take k) := by
  refine ⟨by simp [h.len], fun i a b ha hb => ?_⟩
  rw [List.getElem?_take] at ha hb
  split at ha
  · rename_i hi
    rw [if_pos hi] at hb
    exact h.at_ _ a b ha hb
  · cases ha
theorem Each.of_all (h : ∀ (i : Nat) x, xs[i]? = some x → ∃ y, R x y) : ∃ ys, Each R xs ys := by
  induction xs with
  | nil => exact ⟨[], Each.nil⟩
  | cons x xs ih =>
    obtain ⟨ys, hy⟩ := ih (fun i a ha => h (i + 1) a (by simpa using ha))
    obtain ⟨y, hr⟩ := h 0 x (by simp)
    exact ⟨y :: ys, hy.cons hr⟩
theorem Each.map_left {γ : Type} {f : γ → α} {zs : List γ} (h : Each (fun z y => R (f z) y) zs ys) : Each R (zs.map f) ys := by
  refine ⟨by simp [h.len], fun i a b ha hb => ?_⟩
  rw [List.getElem?_map] at ha
  cases hz : zs[i]? with
  | none => rw [hz] at ha; cases ha
  | some z => rw [hz] at ha; injection ha with ha; subst ha; exact h.at_ i z b hz hb
end

theorem add_succ (x : Addr) (j : Nat) : x.add (j + 1) = ⟨x.block, x.off + (j + 1), none⟩ := by simp [Addr.add]

section
variable {α : Type} {f : α → List Value} {s : Nat} {L : List α} {w : World} {B n c : Nat} {a : Addr}
theorem flat_len (hf : ∀ x, (f x).length = s) : (L.flatMap f).length = L.length * s := by
  induction L with
  | nil => simp
  | cons y L ih => rw [List.flatMap_cons, List.length_append, ih, hf, List.length_cons, Nat.succ_mul, Nat.add_comm]
theorem flat_get (hf : ∀ x, (f x).length = s) : ∀ {L : List α} {k j : Nat} {x : α}, L[k]? = some x → j < s → (L.flatMap f)[k * s + j]? = (f x)[j]?
  | [], k, j, x, hx, _ => by simp at hx
  | y :: L, 0, j, x, hx, hj => by
    simp at hx
    subst hx
    rw [List.flatMap_cons, Nat.zero_mul, Nat.zero_add, List.getElem?_append_left (by rw [hf]; exact hj)]
  | y :: L, k + 1, j, x, hx, hj => by
    rw [List.flatMap_cons, List.getElem?_append_right (by rw [hf, Nat.succ_mul]; omega), hf, show (k + 1) * s + j - s = k * s + j by rw [Nat.succ_mul]; omega]
    exact flat_get hf (by simpa using hx) hj
/-- The cells of an element of more than one cell, in the walk's own words. -/
theorem Sl.fld0 (h : Sl w B s (some a) n c (L.flatMap f)) (hf : ∀ x, (f x).length = s) (hs : 0 < s) {k : Nat} {x : α} (hx : L[k]? = some x) {u : Value} (hu : (f x)[0]? = some u) : w.cell? (a.add (k * s)) = some u := by
  have := h.cell a (k * s + 0) u rfl (by rw [flat_get hf hx hs]; exact hu)
  exact this
theorem Sl.fld (h : Sl w B s (some a) n c (L.flatMap f)) (hf : ∀ x, (f x).length = s) {k : Nat} {x : α} (hx : L[k]? = some x) (j : Nat) {u : Value} (hu : (f x)[j + 1]? = some u) :
    w.cell? ⟨(a.add (k * s)).block, (a.add (k * s)).off + (j + 1), none⟩ = some u := by
  have hj : j + 1 < s := by rw [← hf x]; exact (List.getElem?_eq_some_iff.1 hu).1
  have := h.cell a (k * s + (j + 1)) u rfl (by rw [flat_get hf hx hj]; exact hu)
  rw [← add_add, add_succ] at this
  exact this
end

end Go.Proofs.YtgiemhooeoakmaaDoor

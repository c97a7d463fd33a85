/- Words for memory: a slice that reads as a list of cells; a block known whole; what the call's own rows are; laws of conversions between strings and bytes, of append, in the walk's own forms. How what came in is opened: slices of whatever elements, byte texts, slices of them. Tables of strings, as they lie in memory. Rows of strings behind other calls; two rows. Rows and tables that a call builds of its own. How tables that came in are opened. slices.Clone of strings. Rows of ints, as they lie in memory. slices.Index, slices.Contains of ints. Slices whose elements are of several cells: how they are read, appended to. Columns, as they lie in memory. Slices whose elements lead on: read, and of the call's own. Values, as they lie in memory; rows and tables of them. -/
import Derived.Test.YtgiemhooeoakmaaDoorRows
import Derived.WalkKit
import Derived.WalkSpells
import Derived.BigQuiet
import Derived.WalkLawsBesides
import Derived.Deep.QuietTactic
import Derived.Deep.RegionLaw
import Derived.Deep.Draws
import Derived.Maps.AppendAt
import Derived.Lib.Hide
import Derived.Laws.BytesArg
import Derived.Deep.Slices
import Derived.SizedLaws
import Derived.ProofKit
import Derived.Lib.QuietBelow
import Derived.Lib.Strings
import Derived.Lib.SlBytesConst
import Derived.Deep.Strs
namespace Go.Proofs.YtgiemhooeoakmaaDoor
open Go.RowKit
set_option linter.unusedVariables false
set_option linter.unusedSimpArgs false

/-- The post behind a letter, so that the walk does not open it. -/
theorem cps {P : Program} {f : FuncId} {args : Array Value} {w : World} {Post : Ending → World → Prop}
    (h : ∀ R : Ending → World → Prop, Hid (∀ e w', Post e w' → R e w') → Calls P f args w R) : Calls P f args w Post := h Post (fun _ _ x => x)

theorem add_block (a : Addr) (k : Nat) : (a.add k).block = a.block := by
  by_cases h : k = 0 <;> simp [Addr.add, h]
theorem add_add (a : Addr) (i j : Nat) : (a.add i).add j = a.add (i + j) := by
  by_cases h : i = 0
  · simp [Addr.add, h]
  · by_cases h' : j = 0 <;> simp [Addr.add, h, h', Nat.add_assoc]
theorem head_add (g j : Nat) : (⟨g, 0, none⟩ : Addr).add j = ⟨g, j, none⟩ := by
  by_cases h : j = 0 <;> simp [Addr.add, h]

/-- The slice of address A, length n and capacity c holds the cells xs (so many an element), in a block below B. -/
structure Sl (w : World) (B size : Nat) (A : Option Addr) (n c : Nat) (xs : List Value) : Prop where
  len : xs.length = n * size
  cap : n ≤ c
  most : c ≤ maxLen
  few : n ≤ 140737488355328
  nil : A = none → n = 0
  low : 0 < n → ∀ a, A = some a → a.block < B
  cell : ∀ a j u, A = some a → xs[j]? = some u → w.cell? (a.add j) = some u

section
variable {w w' : World} {B B' size n c : Nat} {A : Option Addr} {xs : List Value}
theorem Sl.none_ (w : World) (B size : Nat) : Sl w B size none 0 0 [] :=
  ⟨by simp, Nat.le_refl _, Nat.zero_le _, by omega, fun _ => rfl, fun h => absurd h (by omega), fun _ _ _ h => by cases h⟩
theorem Sl.some_ (h : Sl w B size A n c xs) (hn : 0 < n) : ∃ a, A = some a := by
  cases A with
  | none => have := h.nil rfl; omega
  | some a => exact ⟨a, rfl⟩
theorem Sl.keep (h : Sl w B size A n c xs) (hk : ∀ a, A = some a → 0 < n → a.block < B → ∀ p : Addr, p.block = a.block → w'.cell? p = w.cell? p) : Sl w' B size A n c xs :=
  ⟨h.len, h.cap, h.most, h.few, h.nil, h.low, fun a j u hA hu => by
    have hn : 0 < n := by
      rcases Nat.eq_zero_or_pos n with h0 | h0
      · have hl := h.len
        rw [h0, Nat.zero_mul] at hl
        rw [List.eq_nil_of_length_eq_zero hl] at hu
        simp at hu
      · exact h0
    rw [hk a hA hn (h.low hn a hA) _ (add_block a j)]
    exact h.cell a j u hA hu⟩
theorem Sl.more (h : Sl w B size A n c xs) (hB : B ≤ B') : Sl w B' size A n c xs :=
  ⟨h.len, h.cap, h.most, h.few, h.nil, fun hn a hA => Nat.lt_of_lt_of_le (h.low hn a hA) hB, h.cell⟩
theorem Sl.below (h : Sl w B size A n c xs) (hb : Below B w w') : Sl w' B size A n c xs :=
  h.keep fun _ _ _ hl _ hp => hb.cell (by rw [hp]; exact hl)
theorem Sl.drew (h : Sl w B size A n c xs) : Sl w.drew B size A n c xs := ⟨h.len, h.cap, h.most, h.few, h.nil, h.low, h.cell⟩
theorem Sl.drewN (h : Sl w B size A n c xs) (k : Nat) : Sl (w.drewN k) B size A n c xs := ⟨h.len, h.cap, h.most, h.few, h.nil, h.low, h.cell⟩
theorem Sl.alloc (h : Sl w B size A n c xs) (hB : B ≤ w.heap.size) (o : Obj) : Sl (w.alloc o) B size A n c xs :=
  h.keep fun _ _ _ hl p hp => World.cell?_alloc_lt w o p (by rw [hp]; omega)
theorem Sl.grown {row : Option Nat} (h : Sl w B size A n c xs) (hg : w.grownBy w' row) (hB : B ≤ w.heap.size) (hr : ∀ g, row = some g → 0 < n → ∀ a, A = some a → a.block ≠ g) : Sl w' B size A n c xs :=
  h.keep fun a hA hn hl p hp => World.cell?_of_block (hg.block p.block (by rw [hp]; omega) (fun e => by rw [hp] at e; exact hr _ e.symm hn a hA rfl))
theorem Sl.cut (h : Sl w B size A n c xs) {k : Nat} (hk : k ≤ n) :
    Sl w B size (if c = k then A else A.map (·.add (k * size))) (n - k) (c - k) (xs.drop (k * size)) := by
  refine ⟨by rw [List.length_drop, h.len, Nat.sub_mul], by have := h.cap; omega, by have := h.most; omega, by have := h.few; omega, fun hA => ?_, fun hn a hA => ?_, fun a j u hA hu => ?_⟩
  · split at hA
    · have := h.cap; omega
    · cases A with
      | none => have := h.nil rfl; omega
      | some a => cases hA
  · rw [if_neg (by have := h.cap; omega)] at hA
    obtain ⟨b, rfl⟩ := h.some_ (by omega)
    injection hA with hA
    subst hA
    rw [add_block]
    exact h.low (by omega) b rfl
  · by_cases hc : c = k
    · have hl := h.len
      have hcn := h.cap
      have : xs.drop (k * size) = [] := List.drop_of_length_le (by rw [hl]; exact Nat.mul_le_mul_right _ (by omega))
      rw [this] at hu
      simp at hu
    · rw [if_neg hc] at hA
      cases A with
      | none => cases hA
      | some b =>
        injection hA with hA
        subst hA
        show w.cell? ((b.add (k * size)).add j) = some u
        rw [add_add]
        exact h.cell b _ u rfl (by rw [← hu, List.getElem?_drop])
/-- What a block that was just made holds. -/
theorem Sl.newrow (w : World) (cs : Array Value) (e : TypeId) (hm : cs.size ≤ 140737488355328) :
    Sl (w.alloc (.cells cs e)) (w.alloc (.cells cs e)).heap.size 1 (some ⟨w.heap.size, 0, none⟩) cs.size cs.size cs.toList := by
  refine ⟨by simp, Nat.le_refl _, by unfold maxLen; omega, hm, fun h => (by cases h), fun _ a hA => ?_, fun a j u hA hu => ?_⟩
  · injection hA with hA
    subst hA
    simp
  · injection hA with hA
    subst hA
    rw [head_add, cell_of_row (w.alloc (.cells cs e)) w.heap.size j cs e (0, 0) (heap_alloc_new w _)]
    simpa using hu
/-- A cell of the slice, in the walk's own words. -/
theorem Sl.at1 (h : Sl w B 1 A n c xs) {k : Nat} (hk : k < n) : ∃ a u, A = some a ∧ a.block < B ∧ xs[k]? = some u ∧ w.cell? (a.add k) = some u := by
  obtain ⟨a, rfl⟩ := h.some_ (by omega)
  have hl : k < xs.length := by rw [h.len]; omega
  exact ⟨a, xs[k], rfl, h.low (by omega) a rfl, List.getElem?_eq_getElem hl, h.cell a k _ rfl (List.getElem?_eq_getElem hl)⟩
end

/-- Block g holds the cells cs of type t; none is marked. -/
structure Box (w : World) (g : Nat) (t : TypeId) (cs : Array Value) : Prop where
  is : w.heap[g]? = some (.cells cs t (0, 0))

section
variable {w w' : World} {g : Nat} {t : TypeId} {cs : Array Value}
theorem Box.lt (h : Box w g t cs) : g < w.heap.size := (Array.getElem?_eq_some_iff.1 h.is).1
theorem Box.cell (h : Box w g t cs) (i : Nat) : w.cell? ⟨g, i, none⟩ = cs[i]? := cell_of_row w g i cs t (0, 0) h.is
theorem Box.frozen (h : Box w g t cs) (i : Nat) : w.frozen? ⟨g, i, none⟩ = false := by
  have := h.is
  simp [World.frozen?, this]
theorem Box.new (w : World) (t : TypeId) (cs : Array Value) : Box (w.alloc (.cells cs t)) w.heap.size t cs := ⟨heap_alloc_new w _⟩
theorem Box.drew (h : Box w g t cs) : Box w.drew g t cs := ⟨h.is⟩
theorem Box.drewN (h : Box w g t cs) (n : Nat) : Box (w.drewN n) g t cs := ⟨h.is⟩
theorem Box.alloc (h : Box w g t cs) (o : Obj) : Box (w.alloc o) g t cs := ⟨(Below.heap_alloc w o g h.lt).trans h.is⟩
theorem Box.put (h : Box w g t cs) (i : Nat) (u : Value) : Box (w.setCell ⟨g, i, none⟩ u) g t (cs.setIfInBounds i u) :=
  ⟨by have := h.is; simp [World.setCell, Array.getElem?_modify, this]⟩
theorem Box.below {B : Nat} (h : Box w g t cs) (hb : Below B w w') (hg : g < B) : Box w' g t cs := ⟨(hb.block g hg).trans h.is⟩
theorem Box.grown {row : Option Nat} (h : Box w g t cs) (hb : w.grownBy w' row) (hg : some g ≠ row) : Box w' g t cs := ⟨(hb.block g h.lt hg).trans h.is⟩
/-- A cell whose value the block does not hold lies elsewhere. -/
theorem Box.apart (h : Box w g t cs) {a : Addr} {u : Value} (ha : w.cell? a = some u) (hu : ∀ i : Nat, cs[i]? ≠ some u) : a.block ≠ g := by
  intro e
  have hi := h.is
  rw [← e] at hi
  unfold World.cell? at ha
  rw [hi] at ha
  by_cases hs : a.spot.isSome
  · simp [hs] at ha
  · simp [hs] at ha
    exact hu _ (by simpa using ha)
end

/-- A row of the call's own, a spare part of its block perhaps marked (what a conversion of a string to bytes leaves). -/
def Own (w : World) (base : Nat) (e : TypeId) (size : Nat) (v : Value) (n : Nat) (xs : List Value) : Prop :=
  (xs.length = n * size ∧ n ≤ 140737488355328) ∧
  ((v = .slice none 0 0 ∧ n = 0) ∨
   ∃ g cap cur fr, v = .slice (some ⟨g, 0, none⟩) n cap ∧ base ≤ g ∧ w.heap[g]? = some (.cells cur e fr) ∧ (∀ j, j < cur.size → ¬ (fr.1 ≤ j ∧ j < fr.2)) ∧ n ≤ cap ∧ cap ≤ maxLen ∧ cur.size = cap * size ∧ cur.toList.take (n * size) = xs)

theorem setCells_heap (g : Nat) (e : TypeId) (fr : Nat × Nat) : ∀ (vs : List Value) (o : Nat) (cur : Array Value) (w : World), w.heap[g]? = some (.cells cur e fr) → o + vs.length ≤ cur.size →
    (w.setCells g o vs).heap[g]? = some (.cells (cur.toList.take o ++ vs ++ cur.toList.drop (o + vs.length)).toArray e fr)
  | [], o, cur, w, h, _ => by simp [World.setCells, h]
  | v :: vs, o, cur, w, h, hl => by
    have h1 : (w.setCell ⟨g, o, none⟩ v).heap[g]? = some (.cells (cur.setIfInBounds o v) e fr) := by
      simp [World.setCell, Array.getElem?_modify, h]
    have hl' : o < cur.size := by simp at hl; omega
    have := setCells_heap g e fr vs (o + 1) (cur.setIfInBounds o v) _ h1 (by simp at hl ⊢; omega)
    simp only [World.setCells]
    rw [this]
    congr 2
    apply Array.ext'
    simp only [Array.toList_setIfInBounds, List.append_assoc]
    have hd : (cur.toList.set o v).drop (o + 1 + vs.length) = cur.toList.drop (o + (v :: vs).length) := by
      rw [List.drop_set_of_lt (by omega)]
      congr 1
      simp; omega
    have ht : (cur.toList.set o v).take (o + 1) = cur.toList.take o ++ [v] := by
      rw [List.take_succ_eq_append_getElem (by simpa using hl'), List.take_set_of_le (by omega)]
      simp
    rw [hd, ht]
    simp
theorem grownBy_weak {a b : World} {row : Option Nat} (h : a.grownBy b none) : a.grownBy b row := ⟨h.os, h.tape, h.output, h.size, fun k hk _ => h.block k hk (by simp)⟩
theorem grownBy_after {a b c : World} (h : a.grownBy b none) (k : b.grownBy c (some a.heap.size)) : a.grownBy c none :=
  ⟨k.os.trans h.os, k.tape.trans h.tape, k.output.trans h.output, Nat.le_trans h.size k.size, fun i hi _ => (k.block i (Nat.lt_of_lt_of_le hi h.size) (by intro e; injection e; omega)).trans (h.block i hi (by simp))⟩
theorem grownBy_alloc' {a b : World} {row : Option Nat} (h : a.grownBy b row) (o : Obj) : a.grownBy (b.alloc o) row :=
  h.trans ⟨rfl, rfl, rfl, by simp, fun k hk _ => Below.heap_alloc b o k hk⟩
theorem grownBy_drew {a b : World} {row : Option Nat} (h : a.grownBy b row) : a.grownBy b.drew row := ⟨h.os, h.tape, h.output, h.size, h.block⟩
theorem grownBy_drewN {a b : World} {row : Option Nat} (h : a.grownBy b row) (n : Nat) : a.grownBy (b.drewN n) row := ⟨h.os, h.tape, h.output, h.size, h.block⟩
theorem grownBy_set {a b : World} {g : Nat} (h : a.grownBy b (some g)) (i : Nat) (u : Value) : a.grownBy (b.setCell ⟨g, i, none⟩ u) (some g) :=
  h.trans ⟨rfl, rfl, rfl, by simp [World.setCell], fun k _ hne => Below.heap_setCell b ⟨g, i, none⟩ u k (fun e => hne (by simp [e]))⟩
theorem setCells_grownBy (g : Nat) : ∀ (vs : List Value) (o : Nat) (w : World), w.grownBy (w.setCells g o vs) (some g)
  | [], _, w => .refl _ _
  | v :: vs, o, w => by
    refine World.grownBy.trans (b := w.setCell ⟨g, o, none⟩ v) ?_ (setCells_grownBy g vs (o + 1) _)
    exact ⟨rfl, rfl, rfl, by simp [World.setCell], fun k _ hk => Below.heap_setCell w ⟨g, o, none⟩ v k (fun e => hk (by simp [e]))⟩

section
variable {w w' : World} {base : Nat} {e : TypeId} {size : Nat} {v : Value} {n : Nat} {xs : List Value}
theorem Own.nil_ (w : World) (base : Nat) (e : TypeId) (size : Nat) : Own w base e size (.slice none 0 0) 0 [] := ⟨⟨by simp, by omega⟩, .inl ⟨rfl, rfl⟩⟩
theorem Own.of_owns (h : w.ownsRow base e size v n xs) (hn : n ≤ 140737488355328) : Own w base e size v n xs := by
  refine ⟨⟨h.1, hn⟩, ?_⟩
  rcases h.2 with h | ⟨g, cap, cur, h1, h2, h3, h4, h5, h6, h7⟩
  · exact .inl h
  · exact .inr ⟨g, cap, cur, (0, 0), h1, h2, h3, fun j _ hj => by omega, h4, h5, h6, h7⟩
theorem Own.made (w : World) (base : Nat) (e : TypeId) (size : Nat) (hb : base ≤ w.heap.size) : Own (w.alloc (.cells #[] e)) base e size (.slice (some ⟨w.heap.size, 0, none⟩) 0 0) 0 [] :=
  ⟨⟨by simp, by omega⟩, .inr ⟨w.heap.size, 0, #[], (0, 0), rfl, hb, heap_alloc_new w _, fun j hj => by simp at hj, Nat.le_refl _, Nat.zero_le _, by simp, by simp⟩⟩
theorem Own.lt (h : Own w base e size v n xs) : ∀ k, v.ownBlock = some k → base ≤ k ∧ k < w.heap.size := by
  intro k hk
  rcases h.2 with ⟨rfl, _⟩ | ⟨g, cap, cur, fr, rfl, hb, hg, _⟩
  · simp [Value.ownBlock] at hk
  · simp [Value.ownBlock] at hk
    subst hk
    exact ⟨hb, (Array.getElem?_eq_some_iff.1 hg).1⟩
theorem Own.kept {row : Option Nat} (h : Own w base e size v n xs) (hg : w.grownBy w' row) (hne : v.ownBlock = none ∨ v.ownBlock ≠ row) : Own w' base e size v n xs := by
  refine ⟨h.1, ?_⟩
  rcases h.2 with hn | ⟨g, cap, cur, fr, rfl, hb, hgg, rest⟩
  · exact .inl hn
  · refine .inr ⟨g, cap, cur, fr, rfl, hb, ?_, rest⟩
    rw [hg.block g (Array.getElem?_eq_some_iff.1 hgg).1 (by simpa [Value.ownBlock] using hne)]
    exact hgg
theorem Own.below {B : Nat} (h : Own w base e size v n xs) (hb : Below B w w') (hB : w.heap.size ≤ B) : Own w' base e size v n xs :=
  h.kept (row := none) ⟨hb.os, hb.tape, hb.output, hb.size, fun k hk _ => hb.block k (by omega)⟩ (by cases v.ownBlock <;> simp)
theorem Own.mono {base' : Nat} (h : Own w base e size v n xs) (hb : base' ≤ base) : Own w base' e size v n xs := by
  refine ⟨h.1, ?_⟩
  rcases h.2 with h | ⟨g, cap, cur, fr, h1, h2, h3, h4, h5, h6, h7⟩
  · exact .inl h
  · exact .inr ⟨g, cap, cur, fr, h1, by omega, h3, h4, h5, h6, h7⟩
theorem Own.far (h : Own w base e size v n xs) {g : Nat} (hg : g < base) (hw : w.grownBy w' (some g)) : Own w' base e size v n xs :=
  h.kept hw (by
    cases hv : v.ownBlock with
    | none => exact .inl rfl
    | some k =>
      have := (h.lt k hv).1
      right; intro e; injection e with e; omega)
theorem Own.form (h : Own w base e size v n xs) : ∃ A c, v = .slice A n c ∧ Sl w w.heap.size size A n c xs := by
  rcases h.2 with ⟨rfl, rfl⟩ | ⟨g, cap, cur, fr, rfl, hb, hg, _, hc, hm, hs, ht⟩
  · obtain rfl : xs = [] := List.eq_nil_of_length_eq_zero (by simpa using h.1.1)
    exact ⟨none, 0, rfl, Sl.none_ _ _ _⟩
  · refine ⟨_, cap, rfl, h.1.1, hc, hm, h.1.2, fun hA => (by cases hA), fun _ a hA => ?_, fun a j u hA hu => ?_⟩
    · injection hA with hA
      subst hA
      exact (Array.getElem?_eq_some_iff.1 hg).1
    · injection hA with hA
      subst hA
      rw [head_add, cell_of_row w g j cur e fr hg]
      rw [← ht, List.getElem?_take] at hu
      split at hu
      · simpa using hu
      · cases hu
theorem Own.sl {A : Option Addr} {c : Nat} (h : Own w base e size (.slice A n c) n xs) : Sl w w.heap.size size A n c xs := by
  obtain ⟨A', c', he, hs⟩ := h.form
  injection he with h1 _ h3
  subst h1
  subst h3
  exact hs
end

section
variable {w : World} {base : Nat} {e : TypeId} {size : Nat} {v : Value} {n c : Nat} {xs : List Value} {g : Nat}
theorem Own.head (h : Own w base e size v n xs) (hn : 0 < n) : ∃ g c, v = .slice (some ⟨g, 0, none⟩) n c ∧ base ≤ g ∧ g < w.heap.size ∧ v.ownBlock = some g := by
  rcases h.2 with ⟨_, h0⟩ | ⟨g, cap, cur, fr, hv, hb, hg, _⟩
  · omega
  · exact ⟨g, cap, hv, hb, (Array.getElem?_eq_some_iff.1 hg).1, by rw [hv]; rfl⟩
theorem Own.thaw (h : Own w base e size (.slice (some ⟨g, 0, none⟩) n c) n xs) {k : Nat} (hk : k < n * size) : w.frozen? ⟨g, k, none⟩ = false := by
  rcases h.2 with ⟨hv, _⟩ | ⟨g', cap, cur, fr, hv, hb, hg, hf, hc, hm, hs, ht⟩
  · cases hv
  · injection hv with h1 _ h3
    injection h1 with h1
    injection h1 with h1
    subst h1
    have hlt : k < cur.size := by rw [hs]; exact Nat.lt_of_lt_of_le hk (Nat.mul_le_mul_right _ hc)
    have := hf k hlt
    simp only [World.frozen?, hg, Bool.and_eq_false_iff, decide_eq_false_iff_not]
    by_cases h1 : fr.1 ≤ k
    · exact .inr (fun h2 => this ⟨h1, h2⟩)
    · exact .inl h1
theorem Own.put (h : Own w base e size (.slice (some ⟨g, 0, none⟩) n c) n xs) {k : Nat} (hk : k < n * size) (u : Value) : Own (w.setCell ⟨g, k, none⟩ u) base e size (.slice (some ⟨g, 0, none⟩) n c) n (xs.set k u) := by
  refine ⟨⟨by rw [List.length_set]; exact h.1.1, h.1.2⟩, ?_⟩
  rcases h.2 with ⟨hv, _⟩ | ⟨g', cap, cur, fr, hv, hb, hg, hf, hc, hm, hs, ht⟩
  · cases hv
  · injection hv with h1 _ h3
    injection h1 with h1
    injection h1 with h1
    subst h1
    subst h3
    refine .inr ⟨g, c, cur.setIfInBounds k u, fr, rfl, hb, by simp [World.setCell, Array.getElem?_modify, hg], fun j hj => hf j (by simpa using hj), hc, hm, by simpa using hs, ?_⟩
    rw [Array.toList_setIfInBounds, List.take_set, ht]
theorem grownBy_setCell (w : World) (g k : Nat) (u : Value) : w.grownBy (w.setCell ⟨g, k, none⟩ u) (some g) := grownBy_set (.refl _ _) k u
end

section
variable {P : Program} (w : World)
theorem run_append_Own (base : Nat) (t ty e : TypeId) (i : TypeInfo) (z : Value) (size bytes : Nat) (ht : P.underlying t = some (.slice e)) (hi : P.info? e = some i) (hz : i.zero = some z)
    (hsize : i.size = size) (hby : i.bytes = bytes) (hzs : z.cells.size = size) (hsz : 0 < size) (hbp : 0 < bytes)
    (v : Value) (n : Nat) (xs : List Value) (hown : Own w base e size v n xs)
    (B : Nat) (A : Option Addr) (m c : Nat) (news : List Value) (hr : Sl w B size A m c news) (h1 : ∀ u ∈ news, u.oneCell' = true)
    (h63 : n + m ≤ maxLen) (hbytes : (n + m) * bytes ≤ 140737488355328) (hbase : base ≤ w.heap.size) :
    ∃ v' w', (Builtin.append_ #[t, t] ty #[v, .slice A m c]).run P w = .ok v' w' ∧ Own w' base e size v' (n + m) (xs ++ news) ∧ w.grownBy w' v.ownBlock ∧
      (v'.ownBlock = v.ownBlock ∨ v'.ownBlock = some w.heap.size) := by
  subst hsize
  subst hby
  have hfew : n + m ≤ 140737488355328 := Nat.le_trans (Nat.le_mul_of_pos_right _ hbp) hbytes
  have hlen : (xs ++ news).length = (n + m) * i.size := by rw [List.length_append, hown.1.1, hr.len, Nat.add_mul]
  by_cases hm : m = 0
  · subst hm
    have hn : news = [] := List.eq_nil_of_length_eq_zero (by simpa using hr.len)
    subst hn
    refine ⟨v, w, ?_, by simpa using hown, .refl _ _, .inl rfl⟩
    rcases hown.2 with ⟨rfl, rfl⟩ | ⟨g, cap, cur, fr, rfl, _, _, _, hnc, _⟩
    · rcases A with _ | ad <;> simp [Builtin.append_, run_underlying ht, sizeOf, typeInfo, hi, Builtin.lenOf, Builtin.firstCells, loadCells, loadCellsFrom]
    · rcases A with _ | ad <;> simp [Builtin.append_, run_underlying ht, sizeOf, typeInfo, hi, Builtin.lenOf, Builtin.firstCells, hnc, storeCells, loadCells, loadCellsFrom]
  · obtain ⟨ad, rfl⟩ := hr.some_ (by omega)
    have hnews := fun j u hu => hr.cell ad j u rfl hu
    have grown : ∀ (old : Nat), old < n + m → ∀ (row : Option Nat),
        Own (w.drew.alloc (.cells (xs.toArray ++ news.toArray ++ Builtin.zeroCells z.cells (grownCap w (n + m) old e - (n + m))) e)) base e i.size
          (.slice (some ⟨w.heap.size, 0, none⟩) (n + m) (grownCap w (n + m) old e)) (n + m) (xs ++ news) ∧
        w.grownBy (w.drew.alloc (.cells (xs.toArray ++ news.toArray ++ Builtin.zeroCells z.cells (grownCap w (n + m) old e - (n + m))) e)) row := by
      intro old ho row
      have hge := grownCap_ge w (n + m) old e
      have hcm : grownCap w (n + m) old e ≤ maxLen := grownCap_le_maxLen w (n + m) old e h63
      refine ⟨⟨⟨hlen, hfew⟩, .inr ⟨w.heap.size, _, _, (0, 0), rfl, hbase, heap_alloc_new w.drew _, fun j _ hj => by omega, hge, hcm, ?_, ?_⟩⟩, ⟨rfl, rfl, rfl, by simp, fun k hk _ => Below.heap_alloc w.drew _ k hk⟩⟩
      · simp only [Array.size_append, List.size_toArray, size_zeroCells, hzs, hown.1.1, hr.len, ← Nat.add_mul]
        congr 1
        omega
      · simp only [Array.toList_append, List.append_assoc]
        rw [← List.append_assoc, ← hlen]
        exact List.take_left
    have hsmall : n + m ≤ 9223372036854775807 := by simp only [maxLen] at h63; omega
    rcases hown.2 with ⟨rfl, rfl⟩ | ⟨g, cap, cur, fr, rfl, hbg, hg, hfr, hnc, hcm, hcs, htake⟩
    · have hx : xs = [] := List.eq_nil_of_length_eq_zero (by simpa using hown.1.1)
      subst hx
      have hrun := run_append_nil (P := P) w t ty e i z ht hi hz ad m c news hr.len hnews (by omega) (by omega) (by have hb := hbytes; simp only [Nat.zero_add] at hb; omega)
      have hgr := grown 0 (by omega) (Value.ownBlock (.slice none 0 0))
      simp only [Nat.zero_add, List.nil_append, Array.empty_append] at hgr ⊢
      exact ⟨_, _, hrun, hgr.1, hgr.2, .inr rfl⟩
    · by_cases hroom : n + m ≤ cap
      · have hfit : n * i.size + news.length ≤ cur.size := by rw [hr.len, hcs, ← Nat.add_mul]; exact Nat.mul_le_mul_right _ hroom
        have hrun := run_append_room_cells (P := P) w t ty e i ht hi g 0 n cap ad m c news hr.len hnews h1 hroom
          (fun j hj => by rw [cell_of_row w g _ cur e fr hg]; simp; omega)
          (fun j hj => by
            have := hfr (0 + n * i.size + j) (by omega)
            simp only [World.frozen?, hg, Bool.and_eq_false_iff, decide_eq_false_iff_not]
            by_cases h1 : fr.1 ≤ 0 + n * i.size + j
            · exact .inr (fun h2 => this ⟨h1, h2⟩)
            · exact .inl h1)
        simp only [Nat.zero_add] at hrun
        refine ⟨_, _, hrun, ⟨⟨hlen, hfew⟩, .inr ⟨g, cap, _, fr, rfl, hbg, setCells_heap g e fr news _ cur w hg hfit, ?_, hroom, hcm, ?_, ?_⟩⟩, ?_, .inl rfl⟩
        · intro j hj
          exact hfr j (by simp at hj; omega)
        · simp only [List.size_toArray, List.length_append, List.length_take, List.length_drop, Array.length_toList]
          omega
        · rw [htake, ← hlen]
          exact List.take_left
        · exact setCells_grownBy g news _ w
      · have holds : ∀ j u, xs[j]? = some u → w.cell? ((⟨g, 0, none⟩ : Addr).add j) = some u := fun j u hu => (Own.sl hown).cell _ j u rfl hu
        have hrun := run_append_grow (P := P) w t ty e i z ht hi hz ⟨g, 0, none⟩ n cap xs hown.1.1 holds ad m c news hr.len hnews (by omega) (by omega) (growslice_fits (by omega) hbytes)
        have hgr := grown cap (by omega) (Value.ownBlock (.slice (some ⟨g, 0, none⟩) n cap))
        exact ⟨_, _, hrun, hgr.1, hgr.2, .inr rfl⟩
end

/-- A byte as a cell; a text's bytes as cells. -/
def byteV (c : UInt8) : Value := .int .u8 c.toNat
def bytesV (l : List UInt8) : List Value := l.map byteV
theorem bytesV_length (l : List UInt8) : (bytesV l).length = l.length := by simp [bytesV]
theorem bytesV_append (a b : List UInt8) : bytesV (a ++ b) = bytesV a ++ bytesV b := by simp [bytesV]
theorem bytesV_drop (a : List UInt8) (k : Nat) : (bytesV a).drop k = bytesV (a.drop k) := by simp [bytesV, List.map_drop]
theorem bytesV_take (a : List UInt8) (k : Nat) : (bytesV a).take k = bytesV (a.take k) := by simp [bytesV, List.map_take]
theorem bytesV_one (l : List UInt8) : ∀ u ∈ bytesV l, u.oneCell' = true := by
  intro u hu
  simp only [bytesV, List.mem_map] at hu
  obtain ⟨c, _, rfl⟩ := hu
  rfl

theorem Own.bytes {w : World} {base n : Nat} {e : TypeId} {v : Value} {xs : List Value} (h : Own w base e 1 v n xs) (l : List UInt8) (hx : xs = bytesV l) : Own w base e 1 v l.length (bytesV l) := by
  subst hx
  have := h.1.1
  rw [bytesV_length, Nat.mul_one] at this
  rw [this]
  exact h

section
variable {P : Program} (w : World)
/-- 'string(b)', b nil or not. -/
theorem conv_bs (src dst e : TypeId) (hs : P.underlying src = some (.slice e)) (he : P.underlying e = some (.int .u8)) (hd : P.underlying dst = some .string)
    (B : Nat) (A : Option Addr) (n c : Nat) (l : List UInt8) (hr : Sl w B 1 A n c (bytesV l)) :
    (convert src dst (.slice A n c)).run P w = .ok (.string ⟨l.toArray⟩) w := by
  have hn : l.length = n := by have := hr.len; simpa [bytesV] using this
  subst hn
  cases A with
  | none =>
    obtain rfl : l = [] := List.eq_nil_of_length_eq_zero (hr.nil rfl)
    rw [run_convert_bytes_string w src dst e none _ c hs he hd]
    simp [Conv.bytesToString, loadCells, loadCellsFrom]
    try rfl
  | some ad => exact run_convert_bytes_back w src dst e ad c l hs he hd (fun j hj => hr.cell ad j _ rfl (by simp [bytesV, byteV, hj]))

theorem conv_bt (src dst e : TypeId) (hs : P.underlying src = some (.slice e)) (he : P.underlying e = some (.int .u8)) (hd : P.underlying dst = some .string)
    (B : Nat) (A : Option Addr) (n c : Nat) (s : ByteArray) (l : List UInt8) (hl : s.data.toList = l) (hr : Sl w B 1 A n c (bytesV l)) :
    (convert src dst (.slice A n c)).run P w = .ok (.string s) w := by
  rw [conv_bs w src dst e hs he hd B A n c l hr, ← hl]

/-- 'string([]byte{x, ..})'. -/
theorem conv_ints (src dst e : TypeId) (hs : P.underlying src = some (.slice e)) (he : P.underlying e = some (.int .u8)) (hd : P.underlying dst = some .string) (zs : List Int) (hz : ∀ z ∈ zs, 0 ≤ z ∧ z < 256) (hl : zs.length ≤ 1000) :
    (convert src dst (.slice (some ⟨w.heap.size, 0, none⟩) zs.length zs.length)).run P (w.alloc (.cells (zs.map (Value.int .u8)).toArray e)) = .ok (.string ⟨(zs.map fun z => UInt8.ofNat z.toNat).toArray⟩) (w.alloc (.cells (zs.map (Value.int .u8)).toArray e)) := by
  have hb : bytesV (zs.map fun z => UInt8.ofNat z.toNat) = zs.map (Value.int .u8) := by
    unfold bytesV
    rw [List.map_map]
    refine List.map_congr_left fun z hz' => ?_
    have := hz z hz'
    simp only [Function.comp, byteV, UInt8.toNat_ofNat']
    congr 1
    omega
  have hn := Sl.newrow w (zs.map (Value.int .u8)).toArray e (by simp; omega)
  have := conv_bs (P := P) (w.alloc (.cells (zs.map (Value.int .u8)).toArray e)) src dst e hs he hd _ (some ⟨w.heap.size, 0, none⟩) (zs.map (Value.int .u8)).toArray.size (zs.map (Value.int .u8)).toArray.size (zs.map fun z => UInt8.ofNat z.toNat) (by rw [hb]; exact hn)
  simpa using this

/-- The value and the world of '[]byte(s)', under names. -/
def sbV (w : World) (e : TypeId) (s : ByteArray) : Value := .slice (some ⟨w.heap.size, 0, none⟩) s.size (grownCap w s.size 0 e)
def sbW (w : World) (e : TypeId) (s : ByteArray) : World :=
  w.drew.alloc (.cells (bytesRow s (grownCap w s.size 0 e)) e ((bytesRow s (grownCap w s.size 0 e)).size, (bytesRow s (grownCap w s.size 0 e)).size + 1))
theorem run_sb (src dst e : TypeId) (s : ByteArray) (hs : P.underlying src = some .string) (hd : P.underlying dst = some (.slice e)) (he : P.underlying e = some (.int .u8)) :
    (convert src dst (.string s)).run P w = .ok (sbV w e s) (sbW w e s) := run_bytes_of_string w src dst e s hs hd he
theorem sb_own (e : TypeId) (s : ByteArray) (hl : s.size ≤ 140737488355328) : Own (sbW w e s) w.heap.size e 1 (sbV w e s) s.size (bytesV s.data.toList) := by
  have hz : s.data.size = s.size := rfl
  have hge := grownCap_ge w s.size 0 e
  have hcm := grownCap_le_maxLen w s.size 0 e (by unfold maxLen; omega)
  unfold sbW sbV
  generalize hcap : grownCap w s.size 0 e = cap at *
  have hrs : (bytesRow s cap).size = cap := by simp [bytesRow, hz]; omega
  refine ⟨⟨(by rw [bytesV_length, Array.length_toList, Nat.mul_one]; rfl), hl⟩, .inr ⟨w.heap.size, cap, bytesRow s cap, ((bytesRow s cap).size, (bytesRow s cap).size + 1), rfl, Nat.le_refl _, ?_, ?_, hge, hcm, ?_, ?_⟩⟩
  · show (w.heap.push _)[w.heap.size]? = _
    simp
  · intro j hj hh; omega
  · omega
  · unfold bytesRow bytesV byteV
    rw [Array.toList_append, Array.toList_map, Nat.mul_one]
    exact List.take_left' (by rw [List.length_map, Array.length_toList]; exact hz)
theorem sb_grown (e : TypeId) (s : ByteArray) : w.grownBy (sbW w e s) none := ⟨rfl, rfl, rfl, by simp [sbW], fun k hk _ => Below.heap_alloc w.drew _ k hk⟩
theorem sb_size (e : TypeId) (s : ByteArray) : (sbW w e s).heap.size = w.heap.size + 1 := by simp [sbW]

theorem wp_append_Own {o : Oper} {a : Act} {K : Act → World → Prop} {Q : Exit → Act → World → Prop} (s x : Operand) (t : TypeId)
    (ho : o.op = .call { callee := .builtin .append, args := #[s, x], argTypes := #[t, t] })
    (base : Nat) (e : TypeId) (i : TypeInfo) (z : Value) (size bytes : Nat) (ht : P.underlying t = some (.slice e)) (hi : P.info? e = some i) (hz : i.zero = some z)
    (hsize : i.size = size) (hby : i.bytes = bytes) (hzs : z.cells.size = size) (hsz : 0 < size) (hbp : 0 < bytes)
    (v : Value) (n : Nat) (xs : List Value) (hs : a.eval s = v) (hown : Own w base e size v n xs)
    (B : Nat) (A : Option Addr) (m c : Nat) (news : List Value) (hx : a.eval x = .slice A m c) (hr : Sl w B size A m c news) (h1 : ∀ u ∈ news, u.oneCell' = true)
    (h63 : n + m ≤ maxLen) (hbytes : (n + m) * bytes ≤ 140737488355328) (hbase : base ≤ w.heap.size)
    (h : ∀ v' w', Own w' base e size v' (n + m) (xs ++ news) → w.grownBy w' v.ownBlock → (v'.ownBlock = v.ownBlock ∨ v'.ownBlock = some w.heap.size) → K (a.put o.dst v') w') : o.wp P a w K Q := by
  obtain ⟨v', w', hrun, h2, h3, h4⟩ := run_append_Own (P := P) w base t o.type e i z size bytes ht hi hz hsize hby hzs hsz hbp v n xs hown B A m c news hr h1 h63 hbytes hbase
  unfold Oper.wp execOp
  simp only [ho, resolve, invoke, builtin, Sem.run_bind, Sem.run_pure, Result.andThen_ok, List.map_toArray, List.map_cons, List.map_nil, hs, hx, hrun]
  exact h v' w' h2 h3 h4

theorem wpList_append_Own {ops : Array Oper} {rest : List Oper} {o : Oper} {a : Act} {Q : Exit → Act → World → Prop} (hgd : o.guard = none) (s x : Operand) (t : TypeId)
    (ho : o.op = .call { callee := .builtin .append, args := #[s, x], argTypes := #[t, t] })
    (base : Nat) (e : TypeId) (i : TypeInfo) (z : Value) (size bytes : Nat) (ht : P.underlying t = some (.slice e)) (hi : P.info? e = some i) (hz : i.zero = some z)
    (hsize : i.size = size) (hby : i.bytes = bytes) (hzs : z.cells.size = size) (hsz : 0 < size) (hbp : 0 < bytes)
    (v : Value) (n : Nat) (xs : List Value) (hs : a.eval s = v) (hown : Own w base e size v n xs)
    (B : Nat) (A : Option Addr) (m c : Nat) (news : List Value) (hx : a.eval x = .slice A m c) (hr : Sl w B size A m c news) (h1 : ∀ u ∈ news, u.oneCell' = true)
    (h63 : n + m ≤ maxLen) (hbytes : (n + m) * bytes ≤ 140737488355328) (hbase : base ≤ w.heap.size)
    (h : ∀ v' w', Own w' base e size v' (n + m) (xs ++ news) → w.grownBy w' v.ownBlock → (v'.ownBlock = v.ownBlock ∨ v'.ownBlock = some w.heap.size) → wpList P ops Q rest (a.put o.dst v') w') : wpList P ops Q (o :: rest) a w :=
  wpList_plain hgd fun _ hK => wp_append_Own w s x t ho base e i z size bytes ht hi hz hsize hby hzs hsz hbp v n xs hs hown B A m c news hx hr h1 h63 hbytes hbase fun v' w' h2 h3 h4 => hK _ _ (h v' w' h2 h3 h4)

theorem step_append_Own {ops : Array Oper} {o : Oper} {a : Act} {K : Act → World → Prop} {Q : Exit → Act → World → Prop} {E : Prop} (hgd : o.guard = none) (s x : Operand) (t : TypeId)
    (ho : o.op = .call { callee := .builtin .append, args := #[s, x], argTypes := #[t, t] })
    (base : Nat) (e : TypeId) (i : TypeInfo) (z : Value) (size bytes : Nat) (ht : P.underlying t = some (.slice e)) (hi : P.info? e = some i) (hz : i.zero = some z)
    (hsize : i.size = size) (hby : i.bytes = bytes) (hzs : z.cells.size = size) (hsz : 0 < size) (hbp : 0 < bytes)
    (v : Value) (n : Nat) (xs : List Value) (hs : a.eval s = v) (hown : Own w base e size v n xs)
    (B : Nat) (A : Option Addr) (m c : Nat) (news : List Value) (hx : a.eval x = .slice A m c) (hr : Sl w B size A m c news) (h1 : ∀ u ∈ news, u.oneCell' = true)
    (h63 : n + m ≤ maxLen) (hbytes : (n + m) * bytes ≤ 140737488355328) (hbase : base ≤ w.heap.size)
    (h : ∀ v' w', Own w' base e size v' (n + m) (xs ++ news) → w.grownBy w' v.ownBlock → (v'.ownBlock = v.ownBlock ∨ v'.ownBlock = some w.heap.size) → K (a.put o.dst v') w') :
    if Region.wanted o (yielded ops a.tmps) = true then Oper.wp P o a w K Q else E := by
  have hw : Region.wanted o (yielded ops a.tmps) = true := by simp [Region.wanted, hgd]
  rw [if_pos hw]
  exact wp_append_Own w s x t ho base e i z size bytes ht hi hz hsize hby hzs hsz hbp v n xs hs hown B A m c news hx hr h1 h63 hbytes hbase h
end

/-- Two lists, place by place. -/
structure Each {α β : Type} (R : α → β → Prop) (xs : List α) (ys : List β) : Prop where
  len : xs.length = ys.length
  at_ : ∀ (i : Nat) x y, xs[i]? = some x → ys[i]? = some y → R x y
section
variable {α β : Type} {R R' : α → β → Prop} {xs xs' : List α} {ys ys' : List β}
theorem Each.nil : Each R [] ([] : List β) := ⟨rfl, fun i x y h => by simp at h⟩
theorem Each.imp (h : Each R xs ys) (f : ∀ x y, R x y → R' x y) : Each R' xs ys := ⟨h.len, fun i x y hx hy => f x y (h.at_ i x y hx hy)⟩
theorem Each.get (h : Each R xs ys) {i : Nat} {x : α} (hx : xs[i]? = some x) : ∃ y, ys[i]? = some y ∧ R x y := by
  have hi : i < ys.length := by rw [← h.len]; exact (List.getElem?_eq_some_iff.1 hx).1
  exact ⟨ys[i], List.getElem?_eq_getElem hi, h.at_ i x _ hx (List.getElem?_eq_getElem hi)⟩
theorem Each.got (h : Each R xs ys) {i : Nat} {y : β} (hy : ys[i]? = some y) : ∃ x, xs[i]? = some x ∧ R x y := by
  have hi : i < xs.length := by rw [h.len]; exact (List.getElem?_eq_some_iff.1 hy).1
  exact ⟨xs[i], List.getElem?_eq_getElem hi, h.at_ i _ y (List.getElem?_eq_getElem hi) hy⟩
theorem Each.cons {x : α} {y : β} (hr : R x y) (h : Each R xs ys) : Each R (x :: xs) (y :: ys) := by
  refine ⟨by simp [h.len], fun i a b ha hb => ?_⟩
  cases i with
  | zero => simp at ha hb; subst ha; subst hb; exact hr
  | succ i => exact h.at_ i a b (by simpa using ha) (by simpa using hb)
theorem Each.append (h : Each R xs ys) (h' : Each R xs' ys') : Each R (xs ++ xs') (ys ++ ys') := by
  refine ⟨by simp [h.len, h'.len], fun i a b ha hb => ?_⟩
  by_cases hi : i < xs.length
  · rw [List.getElem?_append_left hi] at ha
    rw [List.getElem?_append_left (by rw [← h.len]; exact hi)] at hb
    exact h.at_ i a b ha hb
  · rw [List.getElem?_append_right (by omega)] at ha
    rw [List.getElem?_append_right (by rw [← h.len]; omega), ← h.len] at hb
    exact h'.at_ _ a b ha hb
theorem Each.snoc {x : α} {y : β} (h : Each R xs ys) (hr : R x y) : Each R (xs ++ [x]) (ys ++ [y]) := h.append (Each.nil.cons hr)
theorem Each.drop (h : Each R xs ys) (k : Nat) : Each R (xs.drop k) (ys.drop k) :=
  ⟨by simp [h.len], fun i a b ha hb => by rw [List.getElem?_drop] at ha hb; exact h.at_ _ a b ha hb⟩
theorem Each.take (h : Each R xs ys) (k : Nat) : Each R (xs.take k) (ys.take k) := by
  refine ⟨by simp [h.len], fun i a b ha hb => ?_⟩
  rw [List.getElem?_take] at ha hb
  split at ha
  · rename_i hi
    rw [if_pos hi] at hb
    exact h.at_ _ a b ha hb
  · cases ha
theorem Each.of_all (h : ∀ (i : Nat) x, xs[i]? = some x → ∃ y, R x y) : ∃ ys, Each R xs ys := by
  induction xs with
  | nil => exact ⟨[], Each.nil⟩
  | cons x xs ih =>
    obtain ⟨ys, hy⟩ := ih (fun i a ha => h (i + 1) a (by simpa using ha))
    obtain ⟨y, hr⟩ := h 0 x (by simp)
    exact ⟨y :: ys, hy.cons hr⟩
theorem Each.map_left {γ : Type} {f : γ → α} {zs : List γ} (h : Each (fun z y => R (f z) y) zs ys) : Each R (zs.map f) ys := by
  refine ⟨by simp [h.len], fun i a b ha hb => ?_⟩
  rw [List.getElem?_map] at ha
  cases hz : zs[i]? with
  | none => rw [hz] at ha; cases ha
  | some z => rw [hz] at ha; injection ha with ha; subst ha; exact h.at_ i z b hz hb
end

theorem add_succ (x : Addr) (j : Nat) : x.add (j + 1) = ⟨x.block, x.off + (j + 1), none⟩ := by simp [Addr.add]

section
variable {α : Type} {f : α → List Value} {s : Nat} {L : List α} {w : World} {B n c : Nat} {a : Addr}
theorem flat_len (hf : ∀ x, (f x).length = s) : (L.flatMap f).length = L.length * s := by
  induction L with
  | nil => simp
  | cons y L ih => rw [List.flatMap_cons, List.length_append, ih, hf, List.length_cons, Nat.succ_mul, Nat.add_comm]
theorem flat_get (hf : ∀ x, (f x).length = s) : ∀ {L : List α} {k j : Nat} {x : α}, L[k]? = some x → j < s → (L.flatMap f)[k * s + j]? = (f x)[j]?
  | [], k, j, x, hx, _ => by simp at hx
  | y :: L, 0, j, x, hx, hj => by
    simp at hx
    subst hx
    rw [List.flatMap_cons, Nat.zero_mul, Nat.zero_add, List.getElem?_append_left (by rw [hf]; exact hj)]
  | y :: L, k + 1, j, x, hx, hj => by
    rw [List.flatMap_cons, List.getElem?_append_right (by rw [hf, Nat.succ_mul]; omega), hf, show (k + 1) * s + j - s = k * s + j by rw [Nat.succ_mul]; omega]
    exact flat_get hf (by simpa using hx) hj
/-- The cells of an element of more than one cell, in the walk's own words. -/
theorem Sl.fld0 (h : Sl w B s (some a) n c (L.flatMap f)) (hf : ∀ x, (f x).length = s) (hs : 0 < s) {k : Nat} {x : α} (hx : L[k]? = some x) {u : Value} (hu : (f x)[0]? = some u) : w.cell? (a.add (k * s)) = some u := by
  have := h.cell a (k * s + 0) u rfl (by rw [flat_get hf hx hs]; exact hu)
  exact this
theorem Sl.fld (h : Sl w B s (some a) n c (L.flatMap f)) (hf : ∀ x, (f x).length = s) {k : Nat} {x : α} (hx : L[k]? = some x) (j : Nat) {u : Value} (hu : (f x)[j + 1]? = some u) :
    w.cell? ⟨(a.add (k * s)).block, (a.add (k * s)).off + (j + 1), none⟩ = some u := by
  have hj : j + 1 < s := by rw [← hf x]; exact (List.getElem?_eq_some_iff.1 hu).1
  have := h.cell a (k * s + (j + 1)) u rfl (by rw [flat_get hf hx hj]; exact hu)
  rw [← add_add, add_succ] at this
  exact this
end

end Go.Proofs.YtgiemhooeoakmaaDoor

namespace Go.Proofs.YtgiemhooeoakmaaDoor
open Go.RowKit Go.ChangeShapes Go.WideShapes
set_option linter.unusedVariables false
set_option linter.unusedSimpArgs false

section
variable {H : Type} {enc : TypeId × Value → H} {P : Program} {w : World} {base : Nat} {spare : Nat → Bool} {held : Bool}

/-- What the form's own reach says of a reading. -/
def Sized {H : Type} (P : Program) (t : TypeId) (d : DataW H) : Prop := ∀ x ∈ d.weights P t, x ≤ 140737488351232
theorem Sized.arg {ts : List TypeId} {ds : List (DataW H)} {j : Nat} {t : TypeId} {d : DataW H} (h : (DataW.weightsEach P ts ds).all (· ≤ reachBytes) = true) (ht : ts[j]? = some t) (hd : ds[j]? = some d) : Sized P t d := fun x hx => by
  have := List.all_eq_true.1 h x (DataW.weights_mem_each ht hd x hx)
  exact of_decide_eq_true this
theorem weights_all {e : TypeId} {d : DataW H} {x : Nat} : ∀ {l : List (DataW H)}, d ∈ l → x ∈ d.weights P e → x ∈ DataW.weightsAll P e l
  | a :: l, hd, hx => by
    rw [DataW.weightsAll, List.mem_append]
    rcases List.mem_cons.1 hd with rfl | hd
    · exact .inl hx
    · exact .inr (weights_all hd hx)
theorem Sized.slice {t e : TypeId} {elems spare : List (DataW H)} (h : Sized P t (.slice elems spare)) (ht : P.underlying t = some (.slice e)) : (elems.length + spare.length) * P.bytesOf e ≤ 140737488351232 ∧ ∀ d ∈ elems, Sized P e d := by
  unfold Sized at h
  simp only [DataW.weights, ht] at h
  exact ⟨h _ (by simp), fun d hd x hx => h x (by rw [List.mem_cons, List.mem_append]; exact .inr (.inl (weights_all hd hx)))⟩
theorem Sized.string {t : TypeId} {b : List UInt8} (h : Sized P t (.lit (.string b) : DataW H)) : b.length ≤ 140737488351232 := h _ (by simp [DataW.weights])
theorem Sized.str {t : TypeId} {b : ByteArray} (h : Sized P t (.lit (.string b.data.toList) : DataW H)) : b.size ≤ 140737488351232 := by
  have := h.string
  rw [Array.length_toList] at this
  exact this
theorem Sized.field {t : TypeId} {fs : Array Field} {parts : List (DataW H)} (h : Sized P t (.agg parts)) (ht : P.underlying t = some (.struct fs)) {i : Nat} {f : Field} {d : DataW H} (hf : fs[i]? = some f) (hd : parts[i]? = some d) : Sized P f.type d := by
  unfold Sized at h
  simp only [DataW.weights, ht] at h
  exact fun x hx => h x (DataW.weights_mem_each (j := i) (by simp [hf]) hd x hx)

theorem open_sl_at {t e : TypeId} {size : Nat} {fuel : Nat} {v : Value} {x : DataW H × List MemPlace} (ht : P.underlying t = some (.slice e)) (hC : P.cellsOf e = size) (hs : 0 < size) (hbp : 0 < P.bytesOf e) (h : DataW.trod enc P w base spare held fuel t [v] = some x) (hsz : Sized P t x.1) :
    ∃ A n c xs D, v = .slice A n c ∧ Sl w w.heap.size size A n c xs ∧ (x.1 = .nil ∧ n = 0 ∨ ∃ sp, x.1 = .slice ((List.range n).map D) sp) ∧ ∀ i, i < n → ∃ f y, DataW.trod enc P w base spare held f e ((xs.drop (i * size)).take size) = some y ∧ y.1 = D i ∧ Sized P e y.1 := by
  rcases Go.Deep.open_slice ht h with ⟨hcs, hx0⟩ | ⟨a, len, cap, m, f, D, Pl, hcs, hb, hl, hm, hmm, hx, hi⟩
  · injection hcs with hv
    exact ⟨none, 0, 0, [], fun _ => .nil, hv, Sl.none_ _ _ _, .inl ⟨by rw [hx0], rfl⟩, fun i hi => by omega⟩
  · injection hcs with hv
    rw [hC] at hi
    have hlm : len ≤ m := by rw [hmm]; split <;> omega
    rw [hx] at hsz
    obtain ⟨hz1, hz2⟩ := hsz.slice ht
    have hfew : len ≤ 140737488355328 := by
      rw [List.length_map, List.length_range] at hz1
      have := Nat.le_trans (Nat.le_mul_of_pos_right (len + _) hbp) hz1
      omega
    have key : ∀ k, k ≤ len → ∃ xs : List Value, xs.length = k * size ∧ (∀ j u, xs[j]? = some u → w.cell? (a.add j) = some u) ∧ ∀ i, i < k → ∃ f y, DataW.trod enc P w base spare held f e ((xs.drop (i * size)).take size) = some y ∧ y.1 = D i ∧ Sized P e y.1 := by
      intro k
      induction k with
      | zero => exact fun _ => ⟨[], by simp, by simp, fun i hi => by omega⟩
      | succ k ih =>
        intro hk
        obtain ⟨xs, hxl, hxc, hxt⟩ := ih (by omega)
        obtain ⟨cs, hc, htr⟩ := hi k (by omega)
        obtain ⟨_, hcl, hat⟩ := World.cells?_some hc
        refine ⟨xs ++ cs, by rw [List.length_append, hxl, hcl, Nat.succ_mul], fun j u hu => ?_, fun i hik => ?_⟩
        · by_cases hj : j < xs.length
          · rw [List.getElem?_append_left hj] at hu
            exact hxc j u hu
          · rw [List.getElem?_append_right (by omega)] at hu
            have hjl : j - xs.length < size := by
              have := (List.getElem?_eq_some_iff.1 hu).1
              omega
            have := hat (j - xs.length) hjl
            rw [hu, add_add, hxl] at this
            rw [show k * size + (j - k * size) = j by omega] at this
            exact this
        · by_cases hlt : i < k
          · obtain ⟨f, y, hy, hD, hz⟩ := hxt i hlt
            refine ⟨f, y, ?_, hD, hz⟩
            have h1 : (i + 1) * size ≤ k * size := Nat.mul_le_mul_right _ hlt
            rw [Nat.succ_mul] at h1
            rw [List.drop_append_of_le_length (by omega), List.take_append_of_le_length (by rw [List.length_drop]; omega)]
            exact hy
          · obtain rfl : i = k := by omega
            refine ⟨f, (D i, Pl i), ?_, rfl, hz2 _ (List.mem_map.2 ⟨i, by simp; omega, rfl⟩)⟩
            rw [List.drop_left' hxl, List.take_of_length_le (by omega)]
            exact htr
    obtain ⟨xs, hxl, hxc, hxt⟩ := key len (Nat.le_refl _)
    refine ⟨some a, len, cap, xs, D, hv, ⟨hxl, hl, hm, hfew, fun h => (by cases h), fun hn b hb' => ?_, fun b j u hb' hu => ?_⟩, .inr ⟨_, by rw [hx]⟩, hxt⟩
    · injection hb' with hb'
      subst hb'
      obtain ⟨cs, hc, htr⟩ := hi 0 (by omega)
      obtain ⟨hlow, hcl, hat⟩ := World.cells?_some hc
      have h0 := hat 0 hs
      rw [List.getElem?_eq_getElem (by omega)] at h0
      have := World.block_lt_of_cell? w _ h0
      simpa [add_block] using this
    · injection hb' with hb'
      subst hb'
      exact hxc j u hu

theorem open_sl {t e : TypeId} {size : Nat} {fuel : Nat} {v : Value} {x : DataW H × List MemPlace} (ht : P.underlying t = some (.slice e)) (hC : P.cellsOf e = size) (hs : 0 < size) (hbp : 0 < P.bytesOf e) (h : DataW.trod enc P w base spare held fuel t [v] = some x) (hsz : Sized P t x.1) :
    ∃ A n c xs, v = .slice A n c ∧ Sl w w.heap.size size A n c xs ∧ ∀ i, i < n → ∃ f y, DataW.trod enc P w base spare held f e ((xs.drop (i * size)).take size) = some y ∧ Sized P e y.1 := by
  obtain ⟨A, n, c, xs, D, h1, h2, _, h3⟩ := open_sl_at ht hC hs hbp h hsz
  refine ⟨A, n, c, xs, h1, h2, fun i hi => ?_⟩
  obtain ⟨f, y, h4, _, h5⟩ := h3 i hi
  exact ⟨f, y, h4, h5⟩

/-- A byte text: what '[]byte' holds. -/
theorem open_bytes {t e : TypeId} {fuel : Nat} {v : Value} {x : DataW H × List MemPlace} (ht : P.underlying t = some (.slice e)) (he : P.underlying e = some (.int .u8)) (hC : P.cellsOf e = 1) (hbp : 0 < P.bytesOf e) (h : DataW.trod enc P w base spare held fuel t [v] = some x) (hsz : Sized P t x.1) :
    ∃ A n c l, v = .slice A n c ∧ Sl w w.heap.size 1 A n c (bytesV l) := by
  obtain ⟨A, n, c, xs, hv, hs, hi⟩ := open_sl ht hC (by omega) hbp h hsz
  have hl := hs.len
  rw [Nat.mul_one] at hl
  have key : ∀ ys : List Value, (∀ i, i < ys.length → ∃ f y, DataW.trod enc P w base spare held f e ((ys.drop i).take 1) = some y) → ∃ l, ys = bytesV l := by
    intro ys
    induction ys with
    | nil => exact fun _ => ⟨[], rfl⟩
    | cons u ys ih =>
      intro hy
      obtain ⟨l, rfl⟩ := ih (fun i hi => by
        obtain ⟨f, y, h⟩ := hy (i + 1) (by simp; omega)
        exact ⟨f, y, by simpa using h⟩)
      obtain ⟨f, y, h0⟩ := hy 0 (by simp)
      obtain ⟨k, hk, _, hwf⟩ := DataW.trod_int he h0
      simp at hk
      subst hk
      refine ⟨UInt8.ofNat k.toNat :: l, ?_⟩
      simp [Lit.wf, IntKind.min, IntKind.max, IntKind.signed, IntKind.bits] at hwf
      simp only [bytesV, List.map_cons, byteV]
      congr 2
      simp only [UInt8.toNat_ofNat']
      omega
  obtain ⟨l, rfl⟩ := key xs (fun i hil => by
    obtain ⟨f, y, h, _⟩ := hi i (by omega)
    exact ⟨f, y, by simpa using h⟩)
  exact ⟨A, n, c, l, hv, hs⟩

/-- A slice whose elements are of one cell each. -/
theorem open_ones {t e : TypeId} {fuel : Nat} {v : Value} {x : DataW H × List MemPlace} {α : Type} {R : Value → α → Prop} (ht : P.underlying t = some (.slice e)) (hC : P.cellsOf e = 1) (hbp : 0 < P.bytesOf e) (h : DataW.trod enc P w base spare held fuel t [v] = some x) (hsz : Sized P t x.1)
    (hR : ∀ u f y, DataW.trod enc P w base spare held f e [u] = some y → Sized P e y.1 → ∃ a, R u a) :
    ∃ A n c vs l, v = .slice A n c ∧ Sl w w.heap.size 1 A n c vs ∧ Each R vs l := by
  obtain ⟨A, n, c, xs, hv, hs, hi⟩ := open_sl ht hC (by omega) hbp h hsz
  obtain ⟨l, hl⟩ := Each.of_all (R := R) (xs := xs) (fun i u hu => by
    have hil := (List.getElem?_eq_some_iff.1 hu).1
    have hln := hs.len
    obtain ⟨f, y, hy, hz⟩ := hi i (by omega)
    rw [Nat.mul_one, List.drop_eq_getElem_cons hil] at hy
    have hu' : xs[i] = u := by rw [List.getElem?_eq_getElem hil] at hu; injection hu
    exact hR u f y (by simpa [hu'] using hy) hz)
  exact ⟨A, n, c, xs, l, hv, hs, hl⟩

end

/-- A row of byte texts. -/
structure RdRows (w : World) (B : Nat) (A : Option Addr) (n c : Nat) (l : List (List UInt8)) : Prop where
  is : ∃ vs, Sl w B 1 A n c vs ∧ Each (fun u d => ∃ A n c, u = .slice A n c ∧ Sl w B 1 A n c (bytesV d)) vs l
theorem RdRows.below {w w' : World} {B : Nat} {A : Option Addr} {n c : Nat} {l : List (List UInt8)} (h : RdRows w B A n c l) (hb : Below B w w') : RdRows w' B A n c l := by
  obtain ⟨vs, hs, he⟩ := h.is
  exact ⟨vs, hs.below hb, he.imp fun _ _ ⟨A, n, c, hu, h⟩ => ⟨A, n, c, hu, h.below hb⟩⟩

section
variable {H : Type} {enc : TypeId × Value → H} {P : Program} {w : World} {base : Nat} {spare : Nat → Bool} {held : Bool}
theorem open_rows {t e b : TypeId} {v : Value} {d : DataW H} {p : List MemPlace} (ht : P.underlying t = some (.slice e)) (he : P.underlying e = some (.slice b)) (hb : P.underlying b = some (.int .u8)) (hC : P.cellsOf e = 1) (hC' : P.cellsOf b = 1) (hbe : 0 < P.bytesOf e) (hbb : 0 < P.bytesOf b)
    {r : Reach} {b0 : Nat} (hv : Value.okWide P w r b0 t v) (h : DataW.Trod enc P w base spare held t v d p) (hsz : Sized P t d) : ∃ A n c l, v = .slice A n c ∧ RdRows w w.heap.size A n c l := by
  obtain ⟨A0, n0, c0, rfl⟩ := okWide_slice ht hv
  obtain ⟨fuel, hf⟩ := h
  obtain ⟨A, n, c, vs, l, hv, hs, hl⟩ := open_ones (R := fun u d => ∃ A n c, u = .slice A n c ∧ Sl w w.heap.size 1 A n c (bytesV d)) ht hC hbe hf hsz (fun u f y hy hz => by
    obtain ⟨A, n, c, l, h1, h2⟩ := open_bytes he hb hC' hbb hy hz
    exact ⟨l, A, n, c, h1, h2⟩)
  exact ⟨A, n, c, l, hv, ⟨vs, hs, hl⟩⟩
theorem open_text {t b : TypeId} {v : Value} {d : DataW H} {p : List MemPlace} (ht : P.underlying t = some (.slice b)) (hb : P.underlying b = some (.int .u8)) (hC' : P.cellsOf b = 1) (hbb : 0 < P.bytesOf b)
    {r : Reach} {b0 : Nat} (hv : Value.okWide P w r b0 t v) (h : DataW.Trod enc P w base spare held t v d p) (hsz : Sized P t d) : ∃ A n c l, v = .slice A n c ∧ Sl w w.heap.size 1 A n c (bytesV l) := by
  obtain ⟨A0, n0, c0, rfl⟩ := okWide_slice ht hv
  obtain ⟨fuel, hf⟩ := h
  exact open_bytes ht hb hC' hbb hf hsz
end
end Go.Proofs.YtgiemhooeoakmaaDoor

namespace Go.Proofs.YtgiemhooeoakmaaDoor
open Go.RowKit Go.ChangeShapes Go.WideShapes
set_option linter.unusedVariables false
set_option linter.unusedSimpArgs false

abbrev Row := List ByteArray
abbrev Tbl := List (List ByteArray)
def strV (l : Row) : List Value := l.map Value.string
/-- A row of strings. -/
structure RdS (w : World) (B : Nat) (v : Value) (l : Row) : Prop where
  is : ∃ A c, v = .slice A l.length c ∧ Sl w B 1 A l.length c (strV l)
/-- A table. -/
structure RdT (w : World) (B : Nat) (v : Value) (t : Tbl) : Prop where
  is : ∃ A c vs, v = .slice A t.length c ∧ Sl w B 1 A t.length c vs ∧ Each (RdS w B) vs t
section
variable {w w' : World} {B B' : Nat} {v : Value} {l : Row} {t : Tbl}
theorem RdS.below (h : RdS w B v l) (hb : Below B w w') : RdS w' B v l := by
  obtain ⟨A, c, h1, h2⟩ := h.is
  exact ⟨A, c, h1, h2.below hb⟩
theorem RdT.below (h : RdT w B v t) (hb : Below B w w') : RdT w' B v t := by
  obtain ⟨A, c, vs, h1, h2, h3⟩ := h.is
  exact ⟨A, c, vs, h1, h2.below hb, h3.imp fun _ _ h => h.below hb⟩
theorem RdS.more (h : RdS w B v l) (hb : B ≤ B') : RdS w B' v l := by
  obtain ⟨A, c, h1, h2⟩ := h.is
  exact ⟨A, c, h1, h2.more hb⟩
theorem RdT.more (h : RdT w B v t) (hb : B ≤ B') : RdT w B' v t := by
  obtain ⟨A, c, vs, h1, h2, h3⟩ := h.is
  exact ⟨A, c, vs, h1, h2.more hb, h3.imp fun _ _ h => h.more hb⟩
/-- What a walk reads at place k of a row. -/
theorem RdS.at (h : RdS w B v l) {k : Nat} (hk : k < l.length) : ∃ a c, v = .slice (some a) l.length c ∧ w.cell? (a.add k) = some (.string l[k]) := by
  obtain ⟨A, c, h1, h2⟩ := h.is
  obtain ⟨a, rfl⟩ := h2.some_ (by omega)
  refine ⟨a, c, h1, h2.cell a k _ rfl ?_⟩
  unfold strV
  rw [List.getElem?_map, List.getElem?_eq_getElem hk]
  rfl
theorem RdT.at (h : RdT w B v t) {k : Nat} (hk : k < t.length) : ∃ a c u, v = .slice (some a) t.length c ∧ w.cell? (a.add k) = some u ∧ RdS w B u t[k] := by
  obtain ⟨A, c, vs, h1, h2, h3⟩ := h.is
  obtain ⟨a, rfl⟩ := h2.some_ (by omega)
  obtain ⟨u, hu, hr⟩ := h3.got (List.getElem?_eq_getElem hk)
  exact ⟨a, c, u, h1, h2.cell a k _ rfl hu, hr⟩
theorem RdT.few (h : RdT w B v t) : t.length ≤ 140737488355328 := by
  obtain ⟨A, c, vs, h1, h2, h3⟩ := h.is
  exact h2.few
theorem RdS.few (h : RdS w B v l) : l.length ≤ 140737488355328 := by
  obtain ⟨A, c, h1, h2⟩ := h.is
  exact h2.few
end

def tot {α : Type} (f : α → Nat) (l : List α) : Nat := (l.map f).sum
theorem tot_take {α : Type} (f : α → Nat) (l : List α) {k : Nat} (hk : k < l.length) : tot f (l.take (k + 1)) = tot f (l.take k) + f l[k] := by
  unfold tot
  rw [List.take_succ_eq_append_getElem hk, List.map_append, List.sum_append]
  simp
theorem tot_all {α : Type} (f : α → Nat) (l : List α) : tot f (l.take l.length) = tot f l := by rw [List.take_length]
theorem le_sum : ∀ {l : List Nat} {x : Nat}, x ∈ l → x ≤ l.sum
  | a :: l, x, h => by
    rw [List.sum_cons]
    rcases List.mem_cons.1 h with rfl | h
    · omega
    · have := le_sum h; omega
def bytesR (r : Row) : Nat := tot ByteArray.size r

end Go.Proofs.YtgiemhooeoakmaaDoor

namespace Go.Proofs.YtgiemhooeoakmaaDoor
open Go.RowKit Go.ChangeShapes Go.WideShapes
set_option linter.unusedVariables false
set_option linter.unusedSimpArgs false

theorem RdS.next {w w' : World} {v : Value} {l : Row} (h : RdS w w.heap.size v l) (hb : Below w.heap.size w w') : RdS w' w'.heap.size v l := (h.below hb).more hb.size
theorem RdT.next {w w' : World} {v : Value} {t : Tbl} (h : RdT w w.heap.size v t) (hb : Below w.heap.size w w') : RdT w' w'.heap.size v t := (h.below hb).more hb.size
theorem str_eq (a b : ByteArray) : (a.toList == b.toList) = decide (a = b) := by
  rw [Bool.eq_iff_iff, beq_iff_eq, decide_eq_true_iff, ByteArray.toList_eq, ByteArray.toList_eq]
  constructor
  · intro h; exact ByteArray.ext (Array.toList_inj.1 h)
  · rintro rfl; rfl
def sameS (a b : Row) : Bool := decide (a = b)
def sameT (a b : Tbl) : Bool := decide (a = b)
end Go.Proofs.YtgiemhooeoakmaaDoor

namespace Go.Proofs.YtgiemhooeoakmaaDoor
open Go.RowKit Go.ChangeShapes Go.WideShapes
set_option linter.unusedVariables false
set_option linter.unusedSimpArgs false

theorem below_grown {B : Nat} {a w w' : World} {row : Option Nat} (h : Below B a w) (hg : w.grownBy w' row) (hr : ∀ g, row = some g → B ≤ g) (hB : B ≤ w.heap.size) : Below B a w' :=
  ⟨hg.os.trans h.os, hg.tape.trans h.tape, hg.output.trans h.output, Nat.le_trans h.size hg.size, fun k hk => (hg.block k (by omega) (fun e => by have := hr k e.symm; omega)).trans (h.block k hk)⟩
theorem below_grownBy {a b : World} (h : Below a.heap.size a b) (row : Option Nat) : a.grownBy b row := ⟨h.os, h.tape, h.output, h.size, fun k hk _ => h.block k hk⟩

/-- Append of one element that was just made. -/
theorem wpList_push {P : Program} {w : World} {ops : Array Oper} {rest : List Oper} {o : Oper} {a : Act} {Q : Exit → Act → World → Prop} (hgd : o.guard = none) (s x : Operand) (t : TypeId)
    (ho : o.op = .call { callee := .builtin .append, args := #[s, x], argTypes := #[t, t] })
    (base : Nat) (e : TypeId) (i : TypeInfo) (z : Value) (bytes : Nat) (ht : P.underlying t = some (.slice e)) (hi : P.info? e = some i) (hz : i.zero = some z)
    (hsize : i.size = 1) (hby : i.bytes = bytes) (hzs : z.cells.size = 1) (hbp : 0 < bytes)
    (v : Value) (n : Nat) (xs : List Value) (u : Value) (hs : a.eval s = v) (hown : Own w base e 1 v n xs) (hx : a.eval x = .slice (some ⟨w.heap.size, 0, none⟩) 1 1)
    (h1 : u.oneCell' = true) (hbytes : (n + 1) * bytes ≤ 140737488355328) (hbase : base ≤ w.heap.size)
    (h : ∀ v' w', Own w' base e 1 v' (n + 1) (xs ++ [u]) → w.grownBy w' v.ownBlock → (v'.ownBlock = v.ownBlock ∨ ∃ g, v'.ownBlock = some g ∧ w.heap.size ≤ g) → wpList P ops Q rest (a.put o.dst v') w') :
    wpList P ops Q (o :: rest) a (w.alloc (.cells #[u] e)) := by
  have hnb : n + 1 ≤ maxLen := by
    have := Nat.le_trans (Nat.le_mul_of_pos_right (n + 1) hbp) hbytes
    unfold maxLen
    omega
  refine wpList_append_Own (w := w.alloc (.cells #[u] e)) hgd s x t ho base e i z 1 bytes ht hi hz hsize hby hzs (by omega) hbp v n xs hs (hown.below ((Below.refl w.heap.size w).alloc (Nat.le_refl _) _) (Nat.le_refl _)) _ _ _ _ [u] hx
    (by simpa using Sl.newrow w #[u] e (by simp)) (by simpa using h1) hnb hbytes (by simp; omega) ?_
  intro v' w' h2 h3 h4
  refine h v' w' h2 ⟨h3.os, h3.tape, h3.output, Nat.le_trans (by simp) h3.size, fun k hk hne => ?_⟩ ?_
  · rw [h3.block k (by simp; omega) hne]
    exact Below.heap_alloc w _ k hk
  · rcases h4 with h4 | h4
    · exact .inl h4
    · exact .inr ⟨_, h4, by simp⟩

/-- A row of strings whose cells lie elsewhere than block 'row'. -/
structure RdA (w : World) (row : Option Nat) (v : Value) (l : Row) : Prop where
  is : ∃ A c, v = .slice A l.length c ∧ Sl w w.heap.size 1 A l.length c (strV l) ∧ ∀ a, A = some a → 0 < l.length → some a.block ≠ row
theorem RdA.rd {w : World} {row : Option Nat} {v : Value} {l : Row} (h : RdA w row v l) : RdS w w.heap.size v l := by
  obtain ⟨A, c, h1, h2, _⟩ := h.is
  exact ⟨A, c, h1, h2⟩
theorem RdA.one {w : World} {row : Option Nat} {v : Value} {l : Row} (h : RdA w row v l) : v.oneCell' = true := by
  obtain ⟨A, c, h1, h2, _⟩ := h.is
  rw [h1]
  rfl
theorem RdA.grown {w w' : World} {row : Option Nat} {v : Value} {l : Row} (h : RdA w row v l) (hg : w.grownBy w' row) : RdA w' row v l := by
  obtain ⟨A, c, h1, h2, h3⟩ := h.is
  exact ⟨A, c, h1, (h2.grown hg (Nat.le_refl _) (fun g hr hn a ha he => h3 a ha hn (by rw [he, hr]))).more hg.size, h3⟩
theorem RdA.turn {w w' : World} {row row' : Option Nat} {v : Value} {l : Row} (h : RdA w row v l) (hg : w.grownBy w' row) (hr : row' = row ∨ ∃ g, row' = some g ∧ w.heap.size ≤ g) : RdA w' row' v l := by
  obtain ⟨A, c, h1, h2, h3⟩ := h.is
  obtain ⟨A', c', h1', h2', h3'⟩ := (h.grown hg).is
  rw [h1] at h1'
  injection h1' with hA _ hc
  subst hA
  subst hc
  refine ⟨A, c, h1, h2', fun a ha hn => ?_⟩
  rcases hr with rfl | ⟨g, rfl, hge⟩
  · exact h3 a ha hn
  · intro e
    injection e with e
    have := h2.low hn a ha
    omega
theorem RdA.keep {w w' : World} {row : Option Nat} {v : Value} {l : Row} (h : RdA w row v l) (hb : Below w.heap.size w w') : RdA w' row v l := h.grown (below_grownBy hb row)
/-- A row of the call's own, made behind block 'row'. -/
theorem RdA.of_own {w : World} {row : Option Nat} {v : Value} {l : Row} {base n : Nat} {e : TypeId} (h : Own w base e 1 v n (strV l)) (hr : ∀ g, row = some g → g < base) : RdA w row v l := by
  obtain ⟨A, c, h1, h2⟩ := h.form
  have hl : n = l.length := by have := h2.len; unfold strV at this; simp at this; omega
  subst hl
  refine ⟨A, c, h1, h2, fun a ha hn e => ?_⟩
  obtain ⟨g, c', h3, h4, h5, h6⟩ := h.head hn
  rw [h1] at h3
  injection h3 with hA
  rw [ha] at hA
  injection hA with hA
  have := hr _ e.symm
  rw [hA] at this
  simp at this
  omega
/-- Any row that can be read below B, another block being B's or above. -/
theorem RdA.of_rd {w : World} {B : Nat} {row : Option Nat} {v : Value} {l : Row} (h : RdS w B v l) (hB : B ≤ w.heap.size) (hr : ∀ g, row = some g → B ≤ g) : RdA w row v l := by
  obtain ⟨A, c, h1, h2⟩ := h.is
  refine ⟨A, c, h1, h2.more hB, fun a ha hn e => ?_⟩
  have := h2.low hn a ha
  have := hr _ e.symm
  omega

/-- A table of the call's own. -/
structure TabOut (w : World) (base : Nat) (v : Value) (t : Tbl) : Prop where
  is : ∃ vs, Own w base 26 1 v t.length vs ∧ Each (RdA w v.ownBlock) vs t
section
variable {w w' : World} {base : Nat} {v v' : Value} {t : Tbl}
theorem TabOut.none_ (w : World) (base : Nat) : TabOut w base (.slice none 0 0) [] := ⟨[], Own.nil_ _ _ _ _, Each.nil⟩
theorem TabOut.keep (h : TabOut w base v t) (hb : Below w.heap.size w w') : TabOut w' base v t := by
  obtain ⟨vs, h1, h2⟩ := h.is
  exact ⟨vs, h1.below hb (Nat.le_refl _), h2.imp fun _ _ h => h.keep hb⟩
theorem TabOut.mono {base' : Nat} (h : TabOut w base v t) (hb : base' ≤ base) : TabOut w base' v t := by
  obtain ⟨vs, h1, h2⟩ := h.is
  exact ⟨vs, h1.mono hb, h2⟩
theorem TabOut.lt (h : TabOut w base v t) : ∀ k, v.ownBlock = some k → base ≤ k ∧ k < w.heap.size := by
  obtain ⟨vs, h1, h2⟩ := h.is
  exact h1.lt
theorem TabOut.push {vs : List Value} {u : Value} {l : Row} (h1 : Own w' base 26 1 v' (t.length + 1) (vs ++ [u])) (h2 : Each (RdA w v.ownBlock) vs t) (hu : RdA w v.ownBlock u l)
    (hg : w.grownBy w' v.ownBlock) (hr : v'.ownBlock = v.ownBlock ∨ ∃ g, v'.ownBlock = some g ∧ w.heap.size ≤ g) : TabOut w' base v' (t ++ [l]) :=
  ⟨vs ++ [u], by rw [List.length_append]; exact h1, (h2.snoc hu).imp fun _ _ h => h.turn hg hr⟩
theorem TabOut.rd (h : TabOut w base v t) : RdT w w.heap.size v t := by
  obtain ⟨vs, h1, h2⟩ := h.is
  obtain ⟨A, c, h3, h4⟩ := h1.form
  exact ⟨A, c, vs, h3, h4, h2.imp fun _ _ h => h.rd⟩
end
theorem str_info : (Tryd.prog.info? 9).map (fun i => (i.zero, i.size, i.bytes)) = some (some (.string ⟨#[]⟩), 1, 16) := by kernel_rfl
theorem row_info : (Tryd.prog.info? 26).map (fun i => (i.zero, i.size, i.bytes)) = some (some (.slice none 0 0), 1, 24) := by kernel_rfl
theorem strV_snoc (l : Row) (x : ByteArray) : strV (l ++ [x]) = strV l ++ [.string x] := by simp [strV]
theorem strV_len (l : Row) : (strV l).length = l.length := by simp [strV]
end Go.Proofs.YtgiemhooeoakmaaDoor

namespace Go.Proofs.YtgiemhooeoakmaaDoor
open Go.RowKit Go.ChangeShapes Go.WideShapes
set_option linter.unusedVariables false
set_option linter.unusedSimpArgs false
theorem each_strs : ∀ (vs : List Value) (l : Row), Each (fun u s => u = Value.string s) vs l → vs = strV l := by
  intro vs l h
  unfold strV
  apply List.ext_getElem?
  intro i
  rw [List.getElem?_map]
  cases hl : l[i]? with
  | none =>
    have : l.length ≤ i := by simpa using hl
    rw [List.getElem?_eq_none (by have := h.len; omega)]
    rfl
  | some s =>
    obtain ⟨u, hu, hr⟩ := h.got hl
    rw [hu, hr]
    rfl
section
variable {H : Type} {enc : TypeId × Value → H} {w : World} {base : Nat} {spare : Nat → Bool} {held : Bool}
set_option maxRecDepth 100000 in
theorem open_strs {fuel : Nat} {v : Value} {x : DataW H × List MemPlace} (h : DataW.trod enc Tryd.prog w base spare held fuel 26 [v] = some x) (hsz : Sized Tryd.prog 26 x.1) : ∃ l, RdS w w.heap.size v l := by
  obtain ⟨A, n, c, vs, l, hv, hs, hl⟩ := open_ones (R := fun u s => u = Value.string s) Tryd.underlying26 (by kernel_rfl) (of_decide_eq_true (by kernel_rfl)) h hsz (fun u f y hy hz => by
    obtain ⟨s, h1, -, -⟩ := DataW.trod_string Tryd.underlying9 hy
    injection h1 with h1
    exact ⟨s, h1⟩)
  have hvs := each_strs vs l hl
  subst hvs
  have hn : n = l.length := by have := hs.len; rw [strV_len] at this; omega
  subst hn
  exact ⟨l, A, c, hv, hs⟩
end
set_option maxRecDepth 100000 in
theorem open_strsV {H : Type} {enc : TypeId × Value → H} {w : World} {base : Nat} {spare : Nat → Bool} {held : Bool} {v : Value} {d : DataW H} {p : List MemPlace} {r : Reach} {b0 : Nat} (hv : Value.okWide Tryd.prog w r b0 26 v) (h : DataW.Trod enc Tryd.prog w base spare held 26 v d p) (hsz : Sized Tryd.prog 26 d) :
    ∃ l, RdS w w.heap.size v l := by
  obtain ⟨A0, n0, c0, rfl⟩ := okWide_slice Tryd.underlying26 hv
  obtain ⟨fuel, hf⟩ := h
  exact open_strs hf hsz
set_option maxRecDepth 100000 in
theorem open_strsB {H : Type} {enc : TypeId × Value → H} {w : World} {base : Nat} {spare : Nat → Bool} {held : Bool} {v : Value} {d : DataW H} {p : List MemPlace} {r : Reach} {b0 : Nat} (hv : Value.okWide Tryd.prog w r b0 26 v) (h : DataW.Trod enc Tryd.prog w base spare held 26 v d p) (hsz : Sized Tryd.prog 26 d) :
    ∃ l, RdS w w.heap.size v l ∧ ∀ s ∈ l, s.size ≤ 140737488351232 := by
  obtain ⟨A0, n0, c0, rfl⟩ := okWide_slice Tryd.underlying26 hv
  obtain ⟨fuel, hf⟩ := h
  obtain ⟨A, n, c, vs, l, hv, hs, hl⟩ := open_ones (R := fun u s => u = Value.string s ∧ s.size ≤ 140737488351232) Tryd.underlying26 (by kernel_rfl) (of_decide_eq_true (by kernel_rfl)) hf hsz (fun u f y hy hz => by
    obtain ⟨s, h1, h2, -⟩ := DataW.trod_string Tryd.underlying9 hy
    injection h1 with h1
    rw [h2] at hz
    exact ⟨s, h1, hz.str⟩)
  have hvs := each_strs vs l (hl.imp fun _ _ h => h.1)
  subst hvs
  have hn : n = l.length := by have := hs.len; rw [strV_len] at this; omega
  subst hn
  refine ⟨l, ⟨A, c, hv, hs⟩, fun s hm => ?_⟩
  obtain ⟨i, hi, rfl⟩ := List.mem_iff_getElem.1 hm
  obtain ⟨u, hu, hr⟩ := hl.got (List.getElem?_eq_getElem hi)
  exact hr.2
end Go.Proofs.YtgiemhooeoakmaaDoor

namespace Go.Proofs.YtgiemhooeoakmaaDoor
open Go.RowKit Go.ChangeShapes Go.WideShapes
set_option linter.unusedVariables false
set_option linter.unusedSimpArgs false

theorem strV_one (l : Row) : ∀ u ∈ strV l, u.oneCell' = true := fun u hu => by
  unfold strV at hu
  obtain ⟨s, -, rfl⟩ := List.mem_map.1 hu
  rfl
theorem cloneS_any (v : Value) (l : Row) (w : World) (h : RdS w w.heap.size v l) (hl : l.length ≤ 100000) :
    Calls Tryd.prog 132 #[v] w fun e w' => ∃ u, e = .returned u ∧ Own w' w.heap.size 9 1 u l.length (strV l) ∧ Below w.heap.size w w' := by
  refine cps fun R HR => ?_
  obtain ⟨A, c, rfl, hr⟩ := h.is
  obtain ⟨i0, hi0, hz0, hz1, hz2⟩ := info_parts str_info
  cases A with
  | none =>
    have hn := hr.nil rfl
    have hx : l = [] := List.eq_nil_of_length_eq_zero hn
    subst hx
    have heq := fun w' => Lib.run_eql_slice_nil (P := Tryd.prog) w' 26 9 none 0 c 0 0 Tryd.underlying26
    go_enter Tryd.func132, Tryd.ntmps132
    go_wp2
    exact HR.out _ _ ⟨_, rfl, Own.nil_ _ _ _ _, Below.refl _ _⟩
  | some ad =>
    have heq := fun w' => Lib.run_eql_slice_nil (P := Tryd.prog) w' 26 9 (some ad) l.length c 0 0 Tryd.underlying26
    go_enter Tryd.func132, Tryd.ntmps132
    go_wp2_with (at_builtin; refine wpList_append_Own _ rfl _ _ _ rfl w.heap.size 9 i0 _ 1 16 Tryd.underlying26 hi0 hz0 hz1 hz2 rfl (by omega) (by omega) (.slice (some ⟨w.heap.size, 0, none⟩) 0 0) 0 [] rfl (Own.made w _ _ _ (Nat.le_refl _)) w.heap.size (some ad) l.length c (strV l) rfl (hr.alloc (Nat.le_refl _) _) (strV_one l) (by simp only [maxLen]; omega) (by omega) (by simp) ?_; intro v1 w1 hown1 hg1 hat1)
    refine HR.out _ _ ⟨v1, rfl, by simpa using hown1, ?_⟩
    exact below_grown ((Below.refl w.heap.size w).alloc (Nat.le_refl _) _) hg1 (fun g hg => by simp [Value.ownBlock] at hg; omega) (by simp)
end Go.Proofs.YtgiemhooeoakmaaDoor

namespace Go.Proofs.YtgiemhooeoakmaaDoor
open Go.RowKit Go.ChangeShapes Go.WideShapes
set_option linter.unusedVariables false
set_option linter.unusedSimpArgs false

def intV (l : List Int) : List Value := l.map (Value.int .i64)
structure RdI (w : World) (B : Nat) (v : Value) (l : List Int) : Prop where
  is : ∃ A c, v = .slice A l.length c ∧ Sl w B 1 A l.length c (intV l)
theorem RdI.below {w w' : World} {B : Nat} {v : Value} {l : List Int} (h : RdI w B v l) (hb : Below B w w') : RdI w' B v l := by
  obtain ⟨A, c, h1, h2⟩ := h.is
  exact ⟨A, c, h1, h2.below hb⟩
theorem RdI.next {w w' : World} {v : Value} {l : List Int} (h : RdI w w.heap.size v l) (hb : Below w.heap.size w w') : RdI w' w'.heap.size v l := by
  obtain ⟨A, c, h1, h2⟩ := (h.below hb).is
  exact ⟨A, c, h1, h2.more hb.size⟩
theorem RdI.at {w : World} {B : Nat} {v : Value} {l : List Int} (h : RdI w B v l) {k : Nat} (hk : k < l.length) : ∃ a c, v = .slice (some a) l.length c ∧ w.cell? (a.add k) = some (.int .i64 l[k]) := by
  obtain ⟨A, c, h1, h2⟩ := h.is
  obtain ⟨a, rfl⟩ := h2.some_ (by omega)
  refine ⟨a, c, h1, h2.cell a k _ rfl ?_⟩
  unfold intV
  rw [List.getElem?_map, List.getElem?_eq_getElem hk]
  rfl
theorem RdI.few {w : World} {B : Nat} {v : Value} {l : List Int} (h : RdI w B v l) : l.length ≤ 140737488355328 := by
  obtain ⟨A, c, h1, h2⟩ := h.is
  exact h2.few
theorem int_info : (Tryd.prog.info? 3).map (fun i => (i.zero, i.size, i.bytes)) = some (some (.int .i64 0), 1, 8) := by kernel_rfl
theorem intV_snoc (l : List Int) (x : Int) : intV (l ++ [x]) = intV l ++ [.int .i64 x] := by simp [intV]
theorem intV_len (l : List Int) : (intV l).length = l.length := by simp [intV]
theorem RdI.of_own {w : World} {base n : Nat} {e : TypeId} {v : Value} {l : List Int} (h : Own w base e 1 v n (intV l)) : RdI w w.heap.size v l := by
  obtain ⟨A, c, h1, h2⟩ := h.form
  have hl : n = l.length := by have := h2.len; rw [intV_len] at this; omega
  subst hl
  exact ⟨A, c, h1, h2⟩
theorem RdS.of_own {w : World} {base n : Nat} {e : TypeId} {v : Value} {l : Row} (h : Own w base e 1 v n (strV l)) : RdS w w.heap.size v l := by
  obtain ⟨A, c, h1, h2⟩ := h.form
  have hl : n = l.length := by have := h2.len; rw [strV_len] at this; omega
  subst hl
  exact ⟨A, c, h1, h2⟩
theorem RdS.take {w : World} {B k c : Nat} {A : Option Addr} {l : Row} (h : RdS w B (.slice A l.length c) l) (hk : k ≤ l.length) : RdS w B (.slice A k c) (l.take k) := by
  obtain ⟨A', c', h1, h2⟩ := h.is
  injection h1 with hA _ hc
  subst hA
  subst hc
  have hkl : (l.take k).length = k := by rw [List.length_take]; omega
  refine ⟨A, c, by rw [hkl], ⟨by rw [strV_len, Nat.mul_one], by rw [hkl]; have := h2.cap; omega, h2.most, by rw [hkl]; have := h2.few; omega, fun hA => by rw [hkl]; have := h2.nil hA; omega, fun hn => h2.low (by rw [hkl] at hn; omega), fun a j u hA hu => h2.cell a j u hA ?_⟩⟩
  unfold strV at hu ⊢
  rw [List.getElem?_map] at hu ⊢
  by_cases hj : j < k
  · rw [List.getElem?_take, if_pos hj] at hu
    exact hu
  · rw [List.getElem?_take, if_neg hj] at hu
    simp at hu
theorem RdS.new (w : World) (l : Row) (e : TypeId) (n : Nat) (hn : n = l.length) (hl : n ≤ 100000) : RdS (w.alloc (.cells (l.map Value.string).toArray e)) (w.alloc (.cells (l.map Value.string).toArray e)).heap.size (.slice (some ⟨w.heap.size, 0, none⟩) n n) l := by
  subst hn
  refine ⟨_, _, rfl, ?_⟩
  have := Sl.newrow w (l.map Value.string).toArray e (by simp; omega)
  simpa [strV] using this
theorem RdI.new (w : World) (l : List Int) (e : TypeId) (n : Nat) (hn : n = l.length) (hl : n ≤ 100000) : RdI (w.alloc (.cells (l.map (Value.int .i64)).toArray e)) (w.alloc (.cells (l.map (Value.int .i64)).toArray e)).heap.size (.slice (some ⟨w.heap.size, 0, none⟩) n n) l := by
  subst hn
  refine ⟨_, _, rfl, ?_⟩
  have := Sl.newrow w (l.map (Value.int .i64)).toArray e (by simp; omega)
  simpa [intV] using this
end Go.Proofs.YtgiemhooeoakmaaDoor

namespace Go.Proofs.YtgiemhooeoakmaaDoor
open Go.RowKit Go.ChangeShapes Go.WideShapes
set_option linter.unusedVariables false
set_option linter.unusedSimpArgs false

/-- The place of a number; -1: it is not there. -/
def idxI : Nat → List Int → Int → Int
  | _, [], _ => -1
  | j, a :: r, x => if x = a then j else idxI (j + 1) r x
theorem idxI_mem : ∀ (l : List Int) (j : Nat) (x : Int), decide (0 ≤ idxI j l x) = decide (x ∈ l)
  | [], j, x => rfl
  | a :: r, j, x => by
    rw [idxI]
    by_cases h : x = a
    · rw [if_pos h, decide_eq_true (by omega), decide_eq_true (by simp [h])]
    · rw [if_neg h, idxI_mem r (j + 1) x]
      simp [h]
theorem indexInt_any (v : Value) (l : List Int) (x : Int) (w : World) {B : Nat} (h : RdI w B v l) :
    Calls Tryd.prog 124 #[v, .int .i64 x] w fun e w' => e = .returned (.int .i64 (idxI 0 l x)) ∧ w' = w := by
  refine cps fun R HR => ?_
  have h0 := h
  obtain ⟨A, c, rfl, -⟩ := h.is
  have hfew := h.few
  clear h
  go_enter Tryd.func124, Tryd.ntmps124
  go_wp2
  go_loopw [8] (fun i wr => ∃ k : Nat, k ≤ l.length ∧ i = .int .i64 k ∧ idxI k (l.drop k) x = idxI 0 l x ∧ wr = w) (fun i _ => l.length - (intOf i).toNat)
  case atStart => exact ⟨0, Nat.zero_le _, rfl, rfl, rfl⟩
  case round =>
    obtain ⟨k, hk, rfl, hN, rfl⟩ := hrel
    have HN := Lib.hid hN; clear hN
    by_cases hlt : k < l.length
    · obtain ⟨p, c3, hv, hcp⟩ := h0.at hlt
      injection hv with hA _ hcc
      subst hA
      subst hcc
      have hd : l.drop k = l[k] :: l.drop (k + 1) := List.drop_eq_getElem_cons hlt
      obtain ⟨s, hs⟩ : ∃ s, s = l[k] := ⟨_, rfl⟩
      rw [← hs] at hcp hd
      clear hs
      have dk : decide ((k : Int) < l.length) = true := decide_eq_true (by omega)
      by_cases hb : x = s
      · have HV := Lib.hid (show idxI 0 l x = k by rw [← HN.out, hd, idxI, if_pos hb])
        have d : (x == s) = true := by simp [hb]
        clear hd hb
        go_wp2
        exact HR.out _ _ ⟨by rw [HV.out]; try rfl, rfl⟩
      · have HV := Lib.hid (show idxI (k + 1) (l.drop (k + 1)) x = idxI 0 l x by rw [← HN.out, hd, idxI, if_neg hb])
        have d : (x == s) = false := by rw [beq_eq_false_iff_ne]; exact hb
        clear hd hb
        go_wp2
        exact ⟨⟨k + 1, by omega, by go_num, HV.out, trivial⟩, by simp [intOf]; omega⟩
    · have hd : l.drop k = [] := List.drop_of_length_le (by omega)
      have HV := Lib.hid (show idxI 0 l x = -1 by rw [← HN.out, hd, idxI])
      clear hd
      go_wp2
      exact HR.out _ _ ⟨by rw [HV.out]; try rfl, rfl⟩
theorem containsInt_any (v : Value) (l : List Int) (x : Int) (w : World) {B : Nat} (h : RdI w B v l) :
    Calls Tryd.prog 98 #[v, .int .i64 x] w fun e w' => e = .returned (.bool (decide (x ∈ l))) ∧ w' = w := by
  refine cps fun R HR => ?_
  have hx := idxI_mem l 0 x
  rw [← hx] at HR
  obtain ⟨n, hn⟩ : ∃ n, n = idxI 0 l x := ⟨_, rfl⟩
  rw [← hn] at HR
  have HN := Lib.hid hn
  clear hx hn
  go_enter Tryd.func98, Tryd.ntmps98
  go_wp2_with fail
  refine (indexInt_any v l x _ h).mono ?_
  rintro e w1 ⟨rfl, rfl⟩
  rw [← HN.out]
  go_wp2
  exact HR.out _ _ ⟨rfl, rfl⟩
end Go.Proofs.YtgiemhooeoakmaaDoor

namespace Go.Proofs.YtgiemhooeoakmaaDoor
open Go.RowKit Go.ChangeShapes Go.WideShapes
set_option linter.unusedVariables false
set_option linter.unusedSimpArgs false

/-- A slice of elements of s cells each, f their cells. -/
structure RdF {α : Type} (f : α → List Value) (s : Nat) (w : World) (B : Nat) (v : Value) (l : List α) : Prop where
  is : ∃ A c, v = .slice A l.length c ∧ Sl w B s A l.length c (l.flatMap f)
section
variable {α : Type} {f : α → List Value} {s : Nat} {w w' : World} {B B' : Nat} {v : Value} {l : List α}
theorem RdF.below (h : RdF f s w B v l) (hb : Below B w w') : RdF f s w' B v l := by
  obtain ⟨A, c, h1, h2⟩ := h.is
  exact ⟨A, c, h1, h2.below hb⟩
theorem RdF.more (h : RdF f s w B v l) (hb : B ≤ B') : RdF f s w B' v l := by
  obtain ⟨A, c, h1, h2⟩ := h.is
  exact ⟨A, c, h1, h2.more hb⟩
theorem RdF.next (h : RdF f s w w.heap.size v l) (hb : Below w.heap.size w w') : RdF f s w' w'.heap.size v l := (h.below hb).more hb.size
theorem RdF.few (h : RdF f s w B v l) : l.length ≤ 140737488355328 := by
  obtain ⟨A, c, h1, h2⟩ := h.is
  exact h2.few
theorem RdF.cap {A : Option Addr} {n c : Nat} (h : RdF f s w B (.slice A n c) l) : l.length ≤ c := by
  obtain ⟨A', c', h1, h2⟩ := h.is
  injection h1 with _ _ hc
  subst hc
  exact h2.cap
/-- What a walk reads at place k: the first cell. -/
theorem RdF.at0 (h : RdF f s w B v l) (hf : ∀ x, (f x).length = s) (hs : 0 < s) {k : Nat} (hk : k < l.length) : ∃ a c, v = .slice (some a) l.length c ∧ ∀ u, (f l[k])[0]? = some u → w.cell? (a.add (k * s)) = some u := by
  obtain ⟨A, c, h1, h2⟩ := h.is
  obtain ⟨a, rfl⟩ := h2.some_ (by omega)
  exact ⟨a, c, h1, fun u hu => h2.fld0 hf hs (List.getElem?_eq_getElem hk) hu⟩
/-- .. its other cells. -/
theorem RdF.atj {a : Addr} {n c : Nat} (h : RdF f s w B (.slice (some a) n c) l) (hf : ∀ x, (f x).length = s) {k : Nat} (hk : k < l.length) (j : Nat) {u : Value} (hu : (f l[k])[j + 1]? = some u) :
    w.cell? ⟨(a.add (k * s)).block, (a.add (k * s)).off + (j + 1), none⟩ = some u := by
  obtain ⟨A, c', h1, h2⟩ := h.is
  injection h1 with hA _ hc
  subst hA
  exact h2.fld hf (List.getElem?_eq_getElem hk) j hu
theorem RdF.take {A : Option Addr} {c k : Nat} (h : RdF f s w B (.slice A l.length c) l) (hf : ∀ x, (f x).length = s) (hk : k ≤ l.length) : RdF f s w B (.slice A k c) (l.take k) := by
  obtain ⟨A', c', h1, h2⟩ := h.is
  injection h1 with hA _ hc
  subst hA
  subst hc
  have hkl : (l.take k).length = k := by rw [List.length_take]; omega
  refine ⟨A, c, by rw [hkl], ⟨by rw [flat_len hf, hkl], by rw [hkl]; have := h2.cap; omega, h2.most, by rw [hkl]; have := h2.few; omega, fun hA => by rw [hkl]; have := h2.nil hA; omega, fun hn => h2.low (by rw [hkl] at hn; omega), fun a j u hA hu => h2.cell a j u hA ?_⟩⟩
  have hsp : l.flatMap f = (l.take k).flatMap f ++ (l.drop k).flatMap f := by rw [← List.flatMap_append, List.take_append_drop]
  have hj : j < ((l.take k).flatMap f).length := (List.getElem?_eq_some_iff.1 hu).1
  rw [hsp, List.getElem?_append_left hj]
  exact hu
theorem RdF.nil (w : World) (B : Nat) : RdF f s w B (.slice none 0 0) [] := ⟨none, 0, rfl, Sl.none_ _ _ _⟩
theorem RdF.of_own {base n : Nat} {e : TypeId} (hf : ∀ x, (f x).length = s) (hs : 0 < s) (h : Own w base e s v n (l.flatMap f)) : RdF f s w w.heap.size v l := by
  obtain ⟨A, c, h1, h2⟩ := h.form
  have hl : n = l.length := by
    have := h2.len
    rw [flat_len hf] at this
    exact (Nat.mul_right_cancel hs this).symm
  subst hl
  exact ⟨A, c, h1, h2⟩
end
/-- What a block that was just made holds: n elements. -/
theorem Sl.newrowF (w : World) (cs : Array Value) (e : TypeId) (n s : Nat) (hn : cs.size = n * s) (hm : n ≤ 140737488355328) :
    Sl (w.alloc (.cells cs e)) (w.alloc (.cells cs e)).heap.size s (some ⟨w.heap.size, 0, none⟩) n n cs.toList := by
  refine ⟨by simpa using hn, Nat.le_refl _, by unfold maxLen; omega, hm, fun h => (by cases h), fun _ a hA => ?_, fun a j u hA hu => ?_⟩
  · injection hA with hA
    subst hA
    simp
  · injection hA with hA
    subst hA
    rw [head_add, cell_of_row (w.alloc (.cells cs e)) w.heap.size j cs e (0, 0) (heap_alloc_new w _)]
    simpa using hu
theorem RdF.new {α : Type} {f : α → List Value} {s : Nat} (w : World) (l : List α) (e : TypeId) (n : Nat) (cs : Array Value) (hcs : cs = (l.flatMap f).toArray) (hf : ∀ x, (f x).length = s) (hn : n = l.length) (hl : n ≤ 100000) : RdF f s (w.alloc (.cells cs e)) (w.alloc (.cells cs e)).heap.size (.slice (some ⟨w.heap.size, 0, none⟩) n n) l := by
  subst hn
  subst hcs
  refine ⟨_, _, rfl, ?_⟩
  have := Sl.newrowF w (l.flatMap f).toArray e l.length s (by rw [List.size_toArray, flat_len hf]) (by omega)
  simpa using this
/-- Append of one element that was just made, of several cells. -/
theorem wpList_pushF {P : Program} {w : World} {ops : Array Oper} {rest : List Oper} {o : Oper} {a : Act} {Q : Exit → Act → World → Prop} (hgd : o.guard = none) (s x : Operand) (t : TypeId)
    (ho : o.op = .call { callee := .builtin .append, args := #[s, x], argTypes := #[t, t] })
    (base : Nat) (e : TypeId) (i : TypeInfo) (z : Value) (size bytes : Nat) (ht : P.underlying t = some (.slice e)) (hi : P.info? e = some i) (hz : i.zero = some z)
    (hsize : i.size = size) (hby : i.bytes = bytes) (hzs : z.cells.size = size) (hsp : 0 < size) (hbp : 0 < bytes)
    (v : Value) (n : Nat) (xs : List Value) (cs : Array Value) (hcs : cs.size = size) (hs : a.eval s = v) (hown : Own w base e size v n xs) (hx : a.eval x = .slice (some ⟨w.heap.size, 0, none⟩) 1 1)
    (h1 : ∀ u ∈ cs.toList, u.oneCell' = true) (hbytes : (n + 1) * bytes ≤ 140737488355328) (hbase : base ≤ w.heap.size)
    (h : ∀ v' w', Own w' base e size v' (n + 1) (xs ++ cs.toList) → w.grownBy w' v.ownBlock → (v'.ownBlock = v.ownBlock ∨ ∃ g, v'.ownBlock = some g ∧ w.heap.size ≤ g) → wpList P ops Q rest (a.put o.dst v') w') :
    wpList P ops Q (o :: rest) a (w.alloc (.cells cs e)) := by
  have hnb : n + 1 ≤ maxLen := by
    have := Nat.le_trans (Nat.le_mul_of_pos_right (n + 1) hbp) hbytes
    unfold maxLen
    omega
  refine wpList_append_Own (w := w.alloc (.cells cs e)) hgd s x t ho base e i z size bytes ht hi hz hsize hby hzs hsp hbp v n xs hs (hown.below ((Below.refl w.heap.size w).alloc (Nat.le_refl _) _) (Nat.le_refl _)) _ _ _ _ cs.toList hx
    (Sl.newrowF w cs e 1 size (by omega) (by omega)) h1 hnb hbytes (by simp; omega) ?_
  intro v' w' h2 h3 h4
  refine h v' w' h2 ⟨h3.os, h3.tape, h3.output, Nat.le_trans (by simp) h3.size, fun k hk hne => ?_⟩ ?_
  · rw [h3.block k (by simp; omega) hne]
    exact Below.heap_alloc w _ k hk
  · rcases h4 with h4 | h4
    · exact .inl h4
    · exact .inr ⟨_, h4, by simp⟩
end Go.Proofs.YtgiemhooeoakmaaDoor

namespace Go.Proofs.YtgiemhooeoakmaaDoor
open Go.RowKit Go.ChangeShapes Go.WideShapes
set_option linter.unusedVariables false
set_option linter.unusedSimpArgs false

structure Col where
  name : ByteArray
  kind : Int
  null : Bool
def colV (c : Col) : List Value := [.string c.name, .int .i64 c.kind, .bool c.null]
def nullI (b : Bool) : Int := if b then 1 else 0
/-- .. as the reference has them. -/
def rcolV (c : Col) : List Value := [.string c.name, .int .i64 c.kind, .int .i64 (nullI c.null)]
theorem colV_len (c : Col) : (colV c).length = 3 := rfl
theorem rcolV_len (c : Col) : (rcolV c).length = 3 := rfl
abbrev RdC (w : World) (B : Nat) (v : Value) (l : List Col) : Prop := RdF colV 3 w B v l
abbrev RdRC (w : World) (B : Nat) (v : Value) (l : List Col) : Prop := RdF rcolV 3 w B v l
/-- What a walk reads of a column. -/
theorem RdC.at {w : World} {B : Nat} {v : Value} {l : List Col} (h : RdC w B v l) {k : Nat} (hk : k < l.length) : ∃ a c, v = .slice (some a) l.length c ∧ w.cell? (a.add (k * 3)) = some (.string l[k].name) ∧
    w.cell? ⟨(a.add (k * 3)).block, (a.add (k * 3)).off + 1, none⟩ = some (.int .i64 l[k].kind) ∧ w.cell? ⟨(a.add (k * 3)).block, (a.add (k * 3)).off + 2, none⟩ = some (.bool l[k].null) := by
  obtain ⟨a, c, rfl, h0⟩ := RdF.at0 h colV_len (by omega) hk
  exact ⟨a, c, rfl, h0 _ rfl, RdF.atj h colV_len hk 0 rfl, RdF.atj h colV_len hk 1 rfl⟩
theorem RdRC.at {w : World} {B : Nat} {v : Value} {l : List Col} (h : RdRC w B v l) {k : Nat} (hk : k < l.length) : ∃ a c, v = .slice (some a) l.length c ∧ w.cell? (a.add (k * 3)) = some (.string l[k].name) ∧
    w.cell? ⟨(a.add (k * 3)).block, (a.add (k * 3)).off + 1, none⟩ = some (.int .i64 l[k].kind) ∧ w.cell? ⟨(a.add (k * 3)).block, (a.add (k * 3)).off + 2, none⟩ = some (.int .i64 (nullI l[k].null)) := by
  obtain ⟨a, c, rfl, h0⟩ := RdF.at0 h rcolV_len (by omega) hk
  exact ⟨a, c, rfl, h0 _ rfl, RdF.atj h rcolV_len hk 0 rfl, RdF.atj h rcolV_len hk 1 rfl⟩
def namesC (l : List Col) : Row := l.map (·.name)
theorem namesC_len (l : List Col) : (namesC l).length = l.length := by simp [namesC]
theorem namesC_snoc {l : List Col} {k : Nat} (hk : k < l.length) : namesC (l.take (k + 1)) = namesC (l.take k) ++ [l[k].name] := by
  unfold namesC
  rw [List.take_succ_eq_append_getElem hk, List.map_append]
  rfl
theorem namesC_take (l : List Col) (k : Nat) : namesC (l.take k) = (namesC l).take k := by unfold namesC; rw [List.map_take]
section
variable {H : Type} {enc : TypeId × Value → H} {w : World} {base : Nat} {spare : Nat → Bool} {held : Bool}
set_option maxRecDepth 100000 in
theorem open_col {f : Nat} {cs : List Value} {y : DataW H × List MemPlace} (h : DataW.trod enc Tryd.prog w base spare held f 99 cs = some y) : ∃ c, cs = colV c := by
  obtain ⟨y0, y1, y2, n, rfl, hl, h0, h1, h2⟩ := Go.Deep.trod_struct3 Tryd.underlying99 h
  have hl3 : cs.length = 3 := by rw [hl]; kernel_rfl
  match cs, hl3 with
  | [a, b, c], _ =>
    have c1 : Tryd.prog.cellsOf 9 = 1 := by kernel_rfl
    have c2 : Tryd.prog.cellsOf 3 = 1 := by kernel_rfl
    have c3 : Tryd.prog.cellsOf 4 = 1 := by kernel_rfl
    simp only [c1, c2, c3] at h0 h1 h2
    obtain ⟨s, g0, -, -⟩ := DataW.trod_string Tryd.underlying9 h0
    obtain ⟨z1, g1, -, -⟩ := DataW.trod_int Tryd.underlying3 h1
    obtain ⟨b2, g2, -⟩ := DataW.trod_bool Tryd.underlying4 h2
    simp at g0 g1 g2
    exact ⟨⟨s, z1, b2⟩, by simp [colV, g0, g1, g2]⟩
set_option maxRecDepth 100000 in
theorem open_cols {v : Value} {d : DataW H} {p : List MemPlace} {r : Reach} {b0 : Nat} (hv : Value.okWide Tryd.prog w r b0 22 v) (h : DataW.Trod enc Tryd.prog w base spare held 22 v d p) (hsz : Sized Tryd.prog 22 d) :
    ∃ l, RdC w w.heap.size v l := by
  obtain ⟨A0, n0, c0, rfl⟩ := okWide_slice Tryd.underlying22 hv
  obtain ⟨fuel, hf⟩ := h
  obtain ⟨A, n, c, xs, h1, h2, h3⟩ := open_sl (size := 3) Tryd.underlying22 (by kernel_rfl) (by omega) (of_decide_eq_true (by kernel_rfl)) hf hsz
  obtain ⟨l, hl, rfl⟩ : ∃ l : List Col, l.length = n ∧ xs = l.flatMap colV := by
    have key : ∀ k, k ≤ n → ∃ l : List Col, l.length = k ∧ xs.take (k * 3) = l.flatMap colV := by
      intro k
      induction k with
      | zero => exact fun _ => ⟨[], rfl, by simp⟩
      | succ k ih =>
        intro hk
        obtain ⟨l, hl, he⟩ := ih (by omega)
        obtain ⟨f, y, hy, -⟩ := h3 k (by omega)
        obtain ⟨c, hc⟩ := open_col hy
        refine ⟨l ++ [c], by simp [hl], ?_⟩
        rw [List.flatMap_append, ← he, Nat.succ_mul, List.take_add, hc]
        simp
    obtain ⟨l, hl, he⟩ := key n (Nat.le_refl _)
    exact ⟨l, hl, by rw [← he, List.take_of_length_le (by rw [h2.len]; exact Nat.le_refl _)]⟩
  subst hl
  exact ⟨l, A, c, h1, h2⟩
end
theorem rcol_info : (Tryd.prog.info? 120).map (fun i => (i.zero, i.size, i.bytes)) = some (some (.agg #[.string ⟨#[]⟩, .int .i64 0, .int .i64 0]), 3, 32) := by kernel_rfl
theorem rcol_snoc (l : List Col) (c : Col) : (l ++ [c]).flatMap rcolV = l.flatMap rcolV ++ rcolV c := by simp
theorem rcol_one (c : Col) : ∀ u ∈ rcolV c, u.oneCell' = true := by
  intro u hu
  simp [rcolV] at hu
  rcases hu with rfl | rfl | rfl <;> rfl
end Go.Proofs.YtgiemhooeoakmaaDoor

namespace Go.Proofs.YtgiemhooeoakmaaDoor
open Go.RowKit Go.ChangeShapes Go.WideShapes
set_option linter.unusedVariables false
set_option linter.unusedSimpArgs false

/-- How an element is read: it stays, where what lies below B stays. -/
structure Stays {α : Type} (R : World → Nat → Value → α → Prop) : Prop where
  below : ∀ {w w' : World} {B : Nat} {u : Value} {x : α}, R w B u x → Below B w w' → R w' B u x
  more : ∀ {w : World} {B B' : Nat} {u : Value} {x : α}, R w B u x → B ≤ B' → R w B' u x
/-- A slice of elements of one cell each. -/
structure RdE {α : Type} (R : World → Nat → Value → α → Prop) (w : World) (B : Nat) (v : Value) (t : List α) : Prop where
  is : ∃ A c vs, v = .slice A t.length c ∧ Sl w B 1 A t.length c vs ∧ Each (R w B) vs t
section
variable {α : Type} {R : World → Nat → Value → α → Prop} {w w' : World} {B B' : Nat} {v : Value} {t : List α}
theorem RdE.below (hR : Stays R) (h : RdE R w B v t) (hb : Below B w w') : RdE R w' B v t := by
  obtain ⟨A, c, vs, h1, h2, h3⟩ := h.is
  exact ⟨A, c, vs, h1, h2.below hb, h3.imp fun _ _ h => hR.below h hb⟩
theorem RdE.more (hR : Stays R) (h : RdE R w B v t) (hb : B ≤ B') : RdE R w B' v t := by
  obtain ⟨A, c, vs, h1, h2, h3⟩ := h.is
  exact ⟨A, c, vs, h1, h2.more hb, h3.imp fun _ _ h => hR.more h hb⟩
theorem RdE.next (hR : Stays R) (h : RdE R w w.heap.size v t) (hb : Below w.heap.size w w') : RdE R w' w'.heap.size v t := (h.below hR hb).more hR hb.size
theorem RdE.few (h : RdE R w B v t) : t.length ≤ 140737488355328 := by
  obtain ⟨A, c, vs, h1, h2, h3⟩ := h.is
  exact h2.few
theorem RdE.cap {A : Option Addr} {n c : Nat} (h : RdE R w B (.slice A n c) t) : t.length ≤ c := by
  obtain ⟨A', c', vs, h1, h2, h3⟩ := h.is
  injection h1 with _ _ hc
  subst hc
  exact h2.cap
theorem RdE.at (h : RdE R w B v t) {k : Nat} (hk : k < t.length) : ∃ a c u, v = .slice (some a) t.length c ∧ w.cell? (a.add k) = some u ∧ R w B u t[k] := by
  obtain ⟨A, c, vs, h1, h2, h3⟩ := h.is
  obtain ⟨a, rfl⟩ := h2.some_ (by omega)
  obtain ⟨u, hu, hr⟩ := h3.got (List.getElem?_eq_getElem hk)
  exact ⟨a, c, u, h1, h2.cell a k _ rfl hu, hr⟩
theorem RdE.nil (w : World) (B : Nat) : RdE R w B (.slice none 0 0) [] := ⟨none, 0, [], rfl, Sl.none_ _ _ _, Each.nil⟩
theorem RdE.take {A : Option Addr} {c k : Nat} (h : RdE R w B (.slice A t.length c) t) (hk : k ≤ t.length) : RdE R w B (.slice A k c) (t.take k) := by
  obtain ⟨A', c', vs, h1, h2, h3⟩ := h.is
  injection h1 with hA _ hc
  subst hA
  subst hc
  have hkl : (t.take k).length = k := by rw [List.length_take]; omega
  have hvl := h2.len
  rw [Nat.mul_one] at hvl
  refine ⟨A, c, vs.take k, by rw [hkl], ⟨by rw [List.length_take, hkl]; omega, by rw [hkl]; have := h2.cap; omega, h2.most, by rw [hkl]; have := h2.few; omega, fun hA => by rw [hkl]; have := h2.nil hA; omega, fun hn => h2.low (by rw [hkl] at hn; omega), fun a j u hA hu => h2.cell a j u hA ?_⟩, h3.take k⟩
  by_cases hj : j < k
  · rw [List.getElem?_take, if_pos hj] at hu
    exact hu
  · rw [List.getElem?_take, if_neg hj] at hu
    simp at hu
end
theorem RdF.stays {α : Type} (f : α → List Value) (s : Nat) : Stays (RdF f s) := ⟨fun h hb => h.below hb, fun h hb => h.more hb⟩
/-- A slice of plain elements whose cells lie elsewhere than block 'row'. -/
structure RdX {α : Type} (f : α → List Value) (s : Nat) (w : World) (row : Option Nat) (v : Value) (l : List α) : Prop where
  is : ∃ A c, v = .slice A l.length c ∧ Sl w w.heap.size s A l.length c (l.flatMap f) ∧ ∀ a, A = some a → 0 < l.length → some a.block ≠ row
section
variable {α : Type} {f : α → List Value} {s : Nat} {w w' : World} {row row' : Option Nat} {v : Value} {l : List α}
theorem RdX.rd (h : RdX f s w row v l) : RdF f s w w.heap.size v l := by
  obtain ⟨A, c, h1, h2, _⟩ := h.is
  exact ⟨A, c, h1, h2⟩
theorem RdX.one (h : RdX f s w row v l) : v.oneCell' = true := by
  obtain ⟨A, c, h1, h2, _⟩ := h.is
  rw [h1]
  rfl
theorem RdX.grown (h : RdX f s w row v l) (hg : w.grownBy w' row) : RdX f s w' row v l := by
  obtain ⟨A, c, h1, h2, h3⟩ := h.is
  exact ⟨A, c, h1, (h2.grown hg (Nat.le_refl _) (fun g hr hn a ha he => h3 a ha hn (by rw [he, hr]))).more hg.size, h3⟩
theorem RdX.turn (h : RdX f s w row v l) (hg : w.grownBy w' row) (hr : row' = row ∨ ∃ g, row' = some g ∧ w.heap.size ≤ g) : RdX f s w' row' v l := by
  obtain ⟨A, c, h1, h2, h3⟩ := h.is
  obtain ⟨A', c', h1', h2', h3'⟩ := (h.grown hg).is
  rw [h1] at h1'
  injection h1' with hA _ hc
  subst hA
  subst hc
  refine ⟨A, c, h1, h2', fun a ha hn => ?_⟩
  rcases hr with rfl | ⟨g, rfl, hge⟩
  · exact h3 a ha hn
  · intro e
    injection e with e
    have := h2.low hn a ha
    omega
theorem RdX.keep (h : RdX f s w row v l) (hb : Below w.heap.size w w') : RdX f s w' row v l := h.grown (below_grownBy hb row)
theorem RdX.of_rd {B : Nat} (h : RdF f s w B v l) (hB : B ≤ w.heap.size) (hr : ∀ g, row = some g → B ≤ g) : RdX f s w row v l := by
  obtain ⟨A, c, h1, h2⟩ := h.is
  refine ⟨A, c, h1, h2.more hB, fun a ha hn e => ?_⟩
  have := h2.low hn a ha
  have := hr _ e.symm
  omega
theorem RdX.of_own {base n : Nat} {e : TypeId} (hf : ∀ x, (f x).length = s) (hs : 0 < s) (h : Own w base e s v n (l.flatMap f)) (hr : ∀ g, row = some g → g < base) : RdX f s w row v l := by
  obtain ⟨A, c, h1, h2⟩ := h.form
  have hl : n = l.length := by
    have := h2.len
    rw [flat_len hf] at this
    exact (Nat.mul_right_cancel hs this).symm
  subst hl
  refine ⟨A, c, h1, h2, fun a ha hn e => ?_⟩
  obtain ⟨g, c', h3, h4, h5, h6⟩ := h.head hn
  rw [h1] at h3
  injection h3 with hA
  rw [ha] at hA
  injection hA with hA
  have := hr _ e.symm
  rw [hA] at this
  simp at this
  omega
theorem RdX.nil (w : World) (row : Option Nat) : RdX f s w row (.slice none 0 0) [] := ⟨none, 0, rfl, Sl.none_ _ _ _, fun a ha => by cases ha⟩
end
/-- A table of the call's own: its rows lie elsewhere than itself. -/
structure TabX {α : Type} (f : α → List Value) (s : Nat) (e : TypeId) (w : World) (base : Nat) (v : Value) (t : List (List α)) : Prop where
  is : ∃ vs, Own w base e 1 v t.length vs ∧ Each (RdX f s w v.ownBlock) vs t
section
variable {α : Type} {f : α → List Value} {s : Nat} {e : TypeId} {w w' : World} {base : Nat} {v v' : Value} {t : List (List α)}
theorem TabX.none_ (w : World) (base : Nat) : TabX f s e w base (.slice none 0 0) [] := ⟨[], Own.nil_ _ _ _ _, Each.nil⟩
theorem TabX.keep (h : TabX f s e w base v t) (hb : Below w.heap.size w w') : TabX f s e w' base v t := by
  obtain ⟨vs, h1, h2⟩ := h.is
  exact ⟨vs, h1.below hb (Nat.le_refl _), h2.imp fun _ _ h => h.keep hb⟩
theorem TabX.mono {base' : Nat} (h : TabX f s e w base v t) (hb : base' ≤ base) : TabX f s e w base' v t := by
  obtain ⟨vs, h1, h2⟩ := h.is
  exact ⟨vs, h1.mono hb, h2⟩
theorem TabX.lt (h : TabX f s e w base v t) : ∀ k, v.ownBlock = some k → base ≤ k ∧ k < w.heap.size := by
  obtain ⟨vs, h1, h2⟩ := h.is
  exact h1.lt
theorem TabX.push {vs : List Value} {u : Value} {l : List α} (h1 : Own w' base e 1 v' (t.length + 1) (vs ++ [u])) (h2 : Each (RdX f s w v.ownBlock) vs t) (hu : RdX f s w v.ownBlock u l)
    (hg : w.grownBy w' v.ownBlock) (hr : v'.ownBlock = v.ownBlock ∨ ∃ g, v'.ownBlock = some g ∧ w.heap.size ≤ g) : TabX f s e w' base v' (t ++ [l]) :=
  ⟨vs ++ [u], by rw [List.length_append]; exact h1, (h2.snoc hu).imp fun _ _ h => h.turn hg hr⟩
theorem TabX.rd (h : TabX f s e w base v t) : RdE (RdF f s) w w.heap.size v t := by
  obtain ⟨vs, h1, h2⟩ := h.is
  obtain ⟨A, c, h3, h4⟩ := h1.form
  exact ⟨A, c, vs, h3, h4, h2.imp fun _ _ h => h.rd⟩
theorem TabX.form (h : TabX f s e w base v t) : ∃ A c, v = .slice A t.length c := by
  obtain ⟨vs, h1, h2⟩ := h.is
  obtain ⟨A, c, h3, h4⟩ := h1.form
  exact ⟨A, c, h3⟩
end
theorem Own.agree_ {w w' : World} {base size n : Nat} {e : TypeId} {v : Value} {xs : List Value} (h : Own w base e size v n xs) (hb : ∀ g, v.ownBlock = some g → w'.heap[g]? = w.heap[g]?) : Own w' base e size v n xs := by
  refine ⟨h.1, ?_⟩
  rcases h.2 with hn | ⟨g, cap, cur, fr, hv, hg, hh, rest⟩
  · exact .inl hn
  · exact .inr ⟨g, cap, cur, fr, hv, hg, by rw [hb g (by rw [hv]; rfl)]; exact hh, rest⟩
/-- A table of the call's own, its rows the call's own too. -/
structure TabY {α : Type} (f : α → List Value) (s : Nat) (er et : TypeId) (w : World) (base : Nat) (v : Value) (t : List (List α)) : Prop where
  is : ∃ vs, Own w base et 1 v t.length vs ∧ Each (fun u l => Own w base er s u l.length (l.flatMap f) ∧ (u.ownBlock = none ∨ u.ownBlock ≠ v.ownBlock)) vs t
section
variable {α : Type} {f : α → List Value} {s : Nat} {er et : TypeId} {w w' : World} {base : Nat} {v v' : Value} {t : List (List α)}
theorem TabY.none_ (w : World) (base : Nat) : TabY f s er et w base (.slice none 0 0) [] := ⟨[], Own.nil_ _ _ _ _, Each.nil⟩
theorem TabY.agree (h : TabY f s er et w base v t) (hb : ∀ g, base ≤ g → g < w.heap.size → w'.heap[g]? = w.heap[g]?) : TabY f s er et w' base v t := by
  obtain ⟨vs, h1, h2⟩ := h.is
  refine ⟨vs, h1.agree_ fun g hg => hb g (h1.lt g hg).1 (h1.lt g hg).2, h2.imp fun u l ⟨h3, h4⟩ => ⟨h3.agree_ fun g hg => hb g (h3.lt g hg).1 (h3.lt g hg).2, h4⟩⟩
theorem TabY.keep (h : TabY f s er et w base v t) (hb : Below w.heap.size w w') : TabY f s er et w' base v t := h.agree fun g _ hg => hb.block g hg
theorem TabY.lt (h : TabY f s er et w base v t) : ∀ k, v.ownBlock = some k → base ≤ k ∧ k < w.heap.size := by
  obtain ⟨vs, h1, h2⟩ := h.is
  exact h1.lt
theorem TabY.mono {base' : Nat} (h : TabY f s er et w base v t) (hb : base' ≤ base) : TabY f s er et w base' v t := by
  obtain ⟨vs, h1, h2⟩ := h.is
  exact ⟨vs, h1.mono hb, h2.imp fun u l ⟨h3, h4⟩ => ⟨h3.mono hb, h4⟩⟩
theorem TabY.rd (hf : ∀ x, (f x).length = s) (hs : 0 < s) (h : TabY f s er et w base v t) : RdE (RdF f s) w w.heap.size v t := by
  obtain ⟨vs, h1, h2⟩ := h.is
  obtain ⟨A, c, h3, h4⟩ := h1.form
  exact ⟨A, c, vs, h3, h4, h2.imp fun u l ⟨h5, _⟩ => RdF.of_own hf hs h5⟩
theorem TabY.form (h : TabY f s er et w base v t) : ∃ A c, v = .slice A t.length c := by
  obtain ⟨vs, h1, h2⟩ := h.is
  obtain ⟨A, c, h3, h4⟩ := h1.form
  exact ⟨A, c, h3⟩
/-- One row more, that was made behind all the table's rows. -/
theorem TabY.push {vs : List Value} {y : Value} {x : List α} {lo : Nat} (h1 : Own w' base et 1 v' (t.length + 1) (vs ++ [y])) (h2 : Each (fun u l => Own w base er s u l.length (l.flatMap f) ∧ (u.ownBlock = none ∨ u.ownBlock ≠ v.ownBlock)) vs t)
    (hy : Own w lo er s y x.length (x.flatMap f)) (hlo : base ≤ lo) (hv : ∀ g, v.ownBlock = some g → g < lo) (hg : w.grownBy w' v.ownBlock) (hat : v'.ownBlock = v.ownBlock ∨ ∃ g, v'.ownBlock = some g ∧ w.heap.size ≤ g) : TabY f s er et w' base v' (t ++ [x]) := by
  have tr : ∀ (u : Value) (l : List α), Own w base er s u l.length (l.flatMap f) → (u.ownBlock = none ∨ u.ownBlock ≠ v.ownBlock) → Own w' base er s u l.length (l.flatMap f) ∧ (u.ownBlock = none ∨ u.ownBlock ≠ v'.ownBlock) := fun u l q1 q2 => by
    refine ⟨q1.kept hg q2, ?_⟩
    rcases q2 with q2 | q2
    · exact .inl q2
    · rcases hat with ha | ⟨g, ha, hge⟩
      · exact .inr (by rw [ha]; exact q2)
      · right
        rw [ha]
        intro hh
        have := (q1.lt g hh).2
        omega
  refine ⟨vs ++ [y], by rw [List.length_append]; exact h1, (h2.imp fun u l ⟨q1, q2⟩ => tr u l q1 q2).snoc ?_⟩
  refine tr y x (hy.mono hlo) ?_
  cases hq : y.ownBlock with
  | none => exact .inl rfl
  | some g =>
    right
    intro hh
    have h8 := hv g hh.symm
    have h7 := (hy.lt g hq).1
    omega
end
/-- The first place where p holds, so many being behind; -1: there is none. -/
def idxP {α : Type} (p : α → Bool) : Nat → List α → Int
  | _, [] => -1
  | j, x :: r => if p x then j else idxP p (j + 1) r
theorem idxP_any {α : Type} (p : α → Bool) : ∀ (l : List α) (j : Nat), decide (0 ≤ idxP p j l) = l.any p
  | [], j => rfl
  | x :: r, j => by
    rw [idxP, List.any_cons]
    cases hx : p x
    · rw [if_neg (by simp), idxP_any p r (j + 1)]; rfl
    · rw [if_pos rfl, decide_eq_true (by omega)]; rfl
theorem idxP_none {α : Type} {p : α → Bool} {l : List α} (h : l.any p = false) : ∀ j, idxP p j l = -1 := by
  induction l with
  | nil => intro j; rfl
  | cons x r ih =>
    intro j
    rw [List.any_cons, Bool.or_eq_false_iff] at h
    rw [idxP, h.1, if_neg (by simp), ih h.2]
theorem idxP_some {α : Type} {p : α → Bool} : ∀ {l : List α}, l.any p = true → ∀ j : Nat, ∃ k, ∃ hk : k < l.length, idxP p j l = (j + k : Nat) ∧ p l[k] = true
  | x :: r, h, j => by
    rw [idxP]
    cases hx : p x
    · rw [List.any_cons, hx, Bool.false_or] at h
      obtain ⟨k, hk, h1, h2⟩ := idxP_some h (j + 1)
      refine ⟨k + 1, by simp; omega, ?_, by simpa using h2⟩
      rw [if_neg (by simp), h1]
      congr 1
      omega
    · exact ⟨0, by simp, by rw [if_pos rfl]; rfl, hx⟩
end Go.Proofs.YtgiemhooeoakmaaDoor

namespace Go.Proofs.YtgiemhooeoakmaaDoor
open Go.RowKit Go.ChangeShapes Go.WideShapes
set_option linter.unusedVariables false
set_option linter.unusedSimpArgs false

structure Val where
  kind : Int
  s : ByteArray
  n : Int
  b : Bool
abbrev VRow := List Val
abbrev VTab := List (List Val)
def valV (v : Val) : List Value := [.int .i64 v.kind, .string v.s, .int .i64 v.n, .bool v.b]
/-- .. as the reference has them. -/
def rvalV (v : Val) : List Value := [.int .i64 v.kind, .string v.s, .int .i64 v.n, .int .i64 (nullI v.b)]
def valA (v : Val) : Value := .agg #[.int .i64 v.kind, .string v.s, .int .i64 v.n, .bool v.b]
def rvalA (v : Val) : Value := .agg #[.int .i64 v.kind, .string v.s, .int .i64 v.n, .int .i64 (nullI v.b)]
theorem valV_len (v : Val) : (valV v).length = 4 := rfl
theorem rvalV_len (v : Val) : (rvalV v).length = 4 := rfl
theorem nullI_inj {a b : Bool} (h : nullI a = nullI b) : a = b := by cases a <;> cases b <;> first | rfl | cases h
theorem Val.ext_iff' {a b : Val} : a = b ↔ a.kind = b.kind ∧ a.s = b.s ∧ a.n = b.n ∧ a.b = b.b := by
  cases a; cases b; simp
instance : DecidableEq Val := fun a b => decidable_of_iff _ Val.ext_iff'.symm
abbrev RdV (w : World) (B : Nat) (v : Value) (l : VRow) : Prop := RdF valV 4 w B v l
abbrev RdRV (w : World) (B : Nat) (v : Value) (l : VRow) : Prop := RdF rvalV 4 w B v l
abbrev RdVT (w : World) (B : Nat) (v : Value) (t : VTab) : Prop := RdE (RdF valV 4) w B v t
abbrev RdRVT (w : World) (B : Nat) (v : Value) (t : VTab) : Prop := RdE (RdF rvalV 4) w B v t
/-- What a walk reads of a value. -/
theorem RdV.at {w : World} {B : Nat} {v : Value} {l : VRow} (h : RdV w B v l) {k : Nat} (hk : k < l.length) : ∃ a c, v = .slice (some a) l.length c ∧ w.cell? (a.add (k * 4)) = some (.int .i64 l[k].kind) ∧
    w.cell? ⟨(a.add (k * 4)).block, (a.add (k * 4)).off + 1, none⟩ = some (.string l[k].s) ∧ w.cell? ⟨(a.add (k * 4)).block, (a.add (k * 4)).off + 2, none⟩ = some (.int .i64 l[k].n) ∧ w.cell? ⟨(a.add (k * 4)).block, (a.add (k * 4)).off + 3, none⟩ = some (.bool l[k].b) := by
  obtain ⟨a, c, rfl, h0⟩ := RdF.at0 h valV_len (by omega) hk
  exact ⟨a, c, rfl, h0 _ rfl, RdF.atj h valV_len hk 0 rfl, RdF.atj h valV_len hk 1 rfl, RdF.atj h valV_len hk 2 rfl⟩
theorem RdRV.at {w : World} {B : Nat} {v : Value} {l : VRow} (h : RdRV w B v l) {k : Nat} (hk : k < l.length) : ∃ a c, v = .slice (some a) l.length c ∧ w.cell? (a.add (k * 4)) = some (.int .i64 l[k].kind) ∧
    w.cell? ⟨(a.add (k * 4)).block, (a.add (k * 4)).off + 1, none⟩ = some (.string l[k].s) ∧ w.cell? ⟨(a.add (k * 4)).block, (a.add (k * 4)).off + 2, none⟩ = some (.int .i64 l[k].n) ∧ w.cell? ⟨(a.add (k * 4)).block, (a.add (k * 4)).off + 3, none⟩ = some (.int .i64 (nullI l[k].b)) := by
  obtain ⟨a, c, rfl, h0⟩ := RdF.at0 h rvalV_len (by omega) hk
  exact ⟨a, c, rfl, h0 _ rfl, RdF.atj h rvalV_len hk 0 rfl, RdF.atj h rvalV_len hk 1 rfl, RdF.atj h rvalV_len hk 2 rfl⟩
theorem val_one (v : Val) : ∀ u ∈ valV v, u.oneCell' = true := by
  intro u hu
  simp [valV] at hu
  rcases hu with rfl | rfl | rfl | rfl <;> rfl
theorem rval_one (v : Val) : ∀ u ∈ rvalV v, u.oneCell' = true := by
  intro u hu
  simp [rvalV] at hu
  rcases hu with rfl | rfl | rfl | rfl <;> rfl
theorem val_snoc (l : VRow) (v : Val) : (l ++ [v]).flatMap valV = l.flatMap valV ++ valV v := by simp
theorem rval_snoc (l : VRow) (v : Val) : (l ++ [v]).flatMap rvalV = l.flatMap rvalV ++ rvalV v := by simp
theorem rval_info : (Tryd.prog.info? 112).map (fun i => (i.zero, i.size, i.bytes)) = some (some (.agg #[.int .i64 0, .string ⟨#[]⟩, .int .i64 0, .int .i64 0]), 4, 40) := by kernel_rfl
theorem val_info : (Tryd.prog.info? 96).map (fun i => (i.zero, i.size, i.bytes)) = some (some (.agg #[.int .i64 0, .string ⟨#[]⟩, .int .i64 0, .bool false]), 4, 40) := by kernel_rfl
theorem rvrow_info : (Tryd.prog.info? 63).map (fun i => (i.zero, i.size, i.bytes)) = some (some (.slice none 0 0), 1, 24) := by kernel_rfl
theorem vrow_info : (Tryd.prog.info? 61).map (fun i => (i.zero, i.size, i.bytes)) = some (some (.slice none 0 0), 1, 24) := by kernel_rfl
section
variable {H : Type} {enc : TypeId × Value → H} {w : World} {base : Nat} {spare : Nat → Bool} {held : Bool}
set_option maxRecDepth 100000 in
theorem open_val {f : Nat} {cs : List Value} {y : DataW H × List MemPlace} (h : DataW.trod enc Tryd.prog w base spare held f 96 cs = some y) : ∃ c, cs = valV c := by
  obtain ⟨xs, n, _, rfl, hl, hlen, hf⟩ := DataW.trod_struct Tryd.underlying96 h
  have hl4 : cs.length = 4 := by rw [hl]; kernel_rfl
  match cs, hl4 with
  | [a, b, c, d], _ =>
    have c1 : Tryd.prog.cellsOf 9 = 1 := by kernel_rfl
    have c2 : Tryd.prog.cellsOf 3 = 1 := by kernel_rfl
    have c3 : Tryd.prog.cellsOf 4 = 1 := by kernel_rfl
    have c4 : Tryd.prog.cellsOf 2 = 1 := by kernel_rfl
    match xs, hlen with
    | [y0, y1, y2, y3], _ =>
      have h0 := hf 0 _ rfl
      have h1 := hf 1 _ rfl
      have h2 := hf 2 _ rfl
      have h3 := hf 3 _ rfl
      obtain ⟨k, g0, -, -⟩ := DataW.trod_int Tryd.underlying3 h0
      obtain ⟨s, g1, -, -⟩ := DataW.trod_string Tryd.underlying9 h1
      obtain ⟨z, g2, -, -⟩ := DataW.trod_int Tryd.underlying2 h2
      obtain ⟨t, g3, -⟩ := DataW.trod_bool Tryd.underlying4 h3
      simp [c2] at g0
      simp [c1] at g1
      simp [c4] at g2
      simp [c3] at g3
      exact ⟨⟨k, s, z, t⟩, by simp [valV, g0, g1, g2, g3]⟩
set_option maxRecDepth 100000 in
theorem open_vrow {fuel : Nat} {v : Value} {x : DataW H × List MemPlace} (hf : DataW.trod enc Tryd.prog w base spare held fuel 61 [v] = some x) (hsz : Sized Tryd.prog 61 x.1) : ∃ l, RdV w w.heap.size v l := by
  obtain ⟨A, n, c, xs, h1, h2, h3⟩ := open_sl (size := 4) Tryd.underlying61 (by kernel_rfl) (by omega) (of_decide_eq_true (by kernel_rfl)) hf hsz
  obtain ⟨l, hl, rfl⟩ : ∃ l : VRow, l.length = n ∧ xs = l.flatMap valV := by
    have key : ∀ k, k ≤ n → ∃ l : VRow, l.length = k ∧ xs.take (k * 4) = l.flatMap valV := by
      intro k
      induction k with
      | zero => exact fun _ => ⟨[], rfl, by simp⟩
      | succ k ih =>
        intro hk
        obtain ⟨l, hl, he⟩ := ih (by omega)
        obtain ⟨f, y, hy, -⟩ := h3 k (by omega)
        obtain ⟨c, hc⟩ := open_val hy
        refine ⟨l ++ [c], by simp [hl], ?_⟩
        rw [List.flatMap_append, ← he, Nat.succ_mul, List.take_add, hc]
        simp
    obtain ⟨l, hl, he⟩ := key n (Nat.le_refl _)
    exact ⟨l, hl, by rw [← he, List.take_of_length_le (by rw [h2.len]; exact Nat.le_refl _)]⟩
  subst hl
  exact ⟨l, A, c, h1, h2⟩
set_option maxRecDepth 100000 in
theorem open_vtab {fuel : Nat} {v : Value} {x : DataW H × List MemPlace} (hf : DataW.trod enc Tryd.prog w base spare held fuel 23 [v] = some x) (hsz : Sized Tryd.prog 23 x.1) : ∃ t, RdVT w w.heap.size v t := by
  obtain ⟨A, n, c, vs, t, hv, hs, hl⟩ := open_ones (R := fun u r => RdV w w.heap.size u r) Tryd.underlying23 (by kernel_rfl) (of_decide_eq_true (by kernel_rfl)) hf hsz (fun u f y hy hz => open_vrow hy hz)
  have hn : n = t.length := by have := hs.len; have := hl.len; omega
  subst hn
  exact ⟨t, A, c, vs, hv, hs, hl⟩
end
end Go.Proofs.YtgiemhooeoakmaaDoor


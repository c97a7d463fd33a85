/- Words for memory: a slice that reads as a list of cells; a block known whole; what the call's own rows are; laws of conversions between strings and bytes, of append, in the walk's own forms. -/
import Derived.Test.YtlcglijkpbojgaaRows
import Derived.WalkKit
import Derived.WalkSpells
import Derived.BigQuiet
import Derived.WalkLawsBesides
import Derived.Deep.QuietTactic
import Derived.Deep.AppendLies
import Derived.Deep.RegionLaw
import Derived.Deep.Draws
import Derived.Maps.AppendAt
import Derived.Lib.Hide
import Derived.Laws.BytesArg
namespace Go.Proofs.Ytlcglijkpbojgaa
open Go.RowKit
set_option linter.unusedVariables false
set_option linter.unusedSimpArgs false

/-- The post behind a letter, so that the walk does not open it. -/
theorem cps {P : Program} {f : FuncId} {args : Array Value} {w : World} {Post : Ending → World → Prop}
    (h : ∀ R : Ending → World → Prop, Hid (∀ e w', Post e w' → R e w') → Calls P f args w R) : Calls P f args w Post := h Post (fun _ _ x => x)

theorem block_of_add (a : Addr) (n : Nat) : (a.add n).block = a.block := by unfold Addr.add; split <;> rfl
theorem add_of_add (a : Addr) (i j : Nat) : (a.add i).add j = a.add (i + j) := by
  unfold Addr.add
  by_cases hi : i = 0 <;> by_cases hj : j = 0 <;> simp [hi, hj, Nat.add_assoc]

/-- The slice value '.slice A n c' reads as the cells xs, and lies below block B. -/
def Reads (w : World) (B size : Nat) (A : Option Addr) (n : Nat) (xs : List Value) : Prop :=
  xs.length = n * size ∧ (0 < n → ∃ ad, A = some ad ∧ ad.block < B ∧ ∀ j u, xs[j]? = some u → w.cell? (ad.add j) = some u)

section
variable {w w' : World} {B B' size n : Nat} {A : Option Addr} {xs : List Value}
theorem Reads.none_ : Reads w B size A 0 [] := ⟨by simp, fun h => absurd h (by omega)⟩
theorem Reads.at_ {k : Nat} (h : Reads w B 1 A n xs) (hk : k < n) : ∃ ad u, A = some ad ∧ ad.block < B ∧ xs[k]? = some u ∧ w.cell? (ad.add k) = some u := by
  obtain ⟨ad, e, hb, hc⟩ := h.2 (by omega)
  have hl : k < xs.length := by have := h.1; omega
  exact ⟨ad, xs[k], e, hb, List.getElem?_eq_getElem hl, hc k _ (List.getElem?_eq_getElem hl)⟩
theorem Reads.keep (h : Reads w B size A n xs) (hk : ∀ p : Addr, p.block < B → w'.cell? p = w.cell? p) : Reads w' B size A n xs :=
  ⟨h.1, fun hn => by
    obtain ⟨ad, e, hb, hc⟩ := h.2 hn
    exact ⟨ad, e, hb, fun j u hu => (hk _ (by rw [block_of_add]; exact hb)).trans (hc j u hu)⟩⟩
theorem Reads.keepA (h : Reads w B size A n xs) (hk : ∀ ad, A = some ad → 0 < n → ∀ p : Addr, p.block = ad.block → w'.cell? p = w.cell? p) : Reads w' B size A n xs :=
  ⟨h.1, fun hn => by
    obtain ⟨ad, e, hb, hc⟩ := h.2 hn
    exact ⟨ad, e, hb, fun j u hu => (hk ad e hn _ (by rw [block_of_add])).trans (hc j u hu)⟩⟩
theorem Reads.more (h : Reads w B size A n xs) (hB : B ≤ B') : Reads w B' size A n xs :=
  ⟨h.1, fun hn => by
    obtain ⟨ad, e, hb, hc⟩ := h.2 hn
    exact ⟨ad, e, by omega, hc⟩⟩
theorem Reads.below (h : Reads w B size A n xs) (hb : Below B w w') : Reads w' B size A n xs := h.keep fun _ hp => hb.cell hp
theorem Reads.drew (h : Reads w B size A n xs) : Reads w.drew B size A n xs := h
theorem Reads.drewN (h : Reads w B size A n xs) (k : Nat) : Reads (w.drewN k) B size A n xs := h
theorem Reads.alloc (h : Reads w B size A n xs) (hB : B ≤ w.heap.size) (o : Obj) : Reads (w.alloc o) B size A n xs := h.keep fun p hp => World.cell?_alloc_lt w o p (by omega)
theorem Reads.setCell (h : Reads w B size A n xs) {p : Addr} (hB : B ≤ p.block) (u : Value) : Reads (w.setCell p u) B size A n xs :=
  h.keep fun q hq => World.cell?_setCell_other w p q u (fun e => by subst e; omega)
theorem Reads.cut (h : Reads w B size A n xs) {k cap : Nat} (hk : k ≤ n) (hc : n ≤ cap) :
    Reads w B size (if cap = k then A else A.map (·.add (k * size))) (n - k) (xs.drop (k * size)) := by
  refine ⟨by rw [List.length_drop, h.1, Nat.sub_mul], fun hn => ?_⟩
  obtain ⟨ad, rfl, hb, hcell⟩ := h.2 (by omega)
  rw [if_neg (by omega)]
  refine ⟨ad.add (k * size), rfl, by rw [block_of_add]; exact hb, fun j u hu => ?_⟩
  rw [add_of_add]
  exact hcell _ u (by rw [← hu, List.getElem?_drop])
theorem Reads.newrow (w : World) (cs : Array Value) (e : TypeId) : Reads (w.alloc (.cells cs e)) (w.alloc (.cells cs e)).heap.size 1 (some ⟨w.heap.size, 0, none⟩) cs.size cs.toList := by
  refine ⟨by simp, fun _ => ⟨_, rfl, by simp, fun j u hu => ?_⟩⟩
  have hadd : (⟨w.heap.size, 0, none⟩ : Addr).add j = ⟨w.heap.size, j, none⟩ := by unfold Addr.add; split <;> simp_all
  rw [hadd, cell_of_row (w.alloc (.cells cs e)) w.heap.size j cs e (0, 0) (heap_alloc_new w _)]
  simpa using hu
theorem Reads.of_own {base : Nat} {e : TypeId} {c : Nat} (h : w.ownsRow base e size (.slice A n c) n xs) : Reads w w.heap.size size A n xs := by
  refine ⟨h.1, fun hn => ?_⟩
  obtain ⟨g, cap, hv, _, hlt⟩ := h.form hn
  have hA : A = some ⟨g, 0, none⟩ := by injection hv
  subst hA
  exact ⟨_, rfl, hlt, h.cells (g := g) rfl⟩
end

/-- Block g is just the cells cs of element type t, none frozen. -/
def Blk (w : World) (g : Nat) (t : TypeId) (cs : Array Value) : Prop := w.heap[g]? = some (.cells cs t (0, 0))

section
variable {w w' : World} {g : Nat} {t : TypeId} {cs : Array Value}
theorem Blk.lt (h : Blk w g t cs) : g < w.heap.size := by
  rcases Nat.lt_or_ge g w.heap.size with hlt | hge
  · exact hlt
  · unfold Blk at h; rw [Array.getElem?_eq_none hge] at h; cases h
theorem Blk.cell (h : Blk w g t cs) (i : Nat) : w.cell? ⟨g, i, none⟩ = cs[i]? := cell_of_row w g i cs t (0, 0) h
theorem Blk.frozen (h : Blk w g t cs) (i : Nat) : w.frozen? ⟨g, i, none⟩ = false := by
  unfold Blk at h
  simp [World.frozen?, h]
theorem Blk.new (w : World) (t : TypeId) (cs : Array Value) : Blk (w.alloc (.cells cs t)) w.heap.size t cs := heap_alloc_new w _
theorem Blk.drew (h : Blk w g t cs) : Blk w.drew g t cs := h
theorem Blk.drewN (h : Blk w g t cs) (n : Nat) : Blk (w.drewN n) g t cs := h
theorem Blk.alloc (h : Blk w g t cs) (o : Obj) : Blk (w.alloc o) g t cs := (Below.heap_alloc w o g h.lt).trans h
theorem Blk.set_ (h : Blk w g t cs) (i : Nat) (u : Value) : Blk (w.setCell ⟨g, i, none⟩ u) g t (cs.setIfInBounds i u) := by
  unfold Blk at h ⊢
  simp [World.setCell, Array.getElem?_modify, h]
theorem Blk.far (h : Blk w g t cs) {p : Addr} (hp : g ≠ p.block) (u : Value) : Blk (w.setCell p u) g t cs := (Below.heap_setCell w p u g hp).trans h
theorem Blk.below {B : Nat} (h : Blk w g t cs) (hb : Below B w w') (hg : g < B) : Blk w' g t cs := (hb.block g hg).trans h
theorem Blk.grown {row : Option Nat} (h : Blk w g t cs) (hb : w.grownBy w' row) (hg : some g ≠ row) : Blk w' g t cs := (hb.block g h.lt hg).trans h
theorem Blk.off_ (h : Blk w g t cs) {a : Addr} {u : Value} (ha : w.cell? a = some u) (hu : ∀ i : Nat, cs[i]? ≠ some u) : a.block ≠ g := by
  rintro rfl
  unfold Blk at h
  unfold World.cell? at ha
  rw [h] at ha
  simp only at ha
  split at ha
  · cases ha
  · exact hu _ ha
theorem Blk.ne_ {g' : Nat} {t' : TypeId} {cs' : Array Value} (h : Blk w g t cs) (h' : Blk w g' t' cs') (hne : t ≠ t') : g ≠ g' := by
  rintro rfl
  unfold Blk at h h'
  rw [h] at h'
  injection h' with h'
  injection h' with _ ht
  exact hne ht
end

/-- A row of the call's own, a spare part of its block perhaps marked (what a conversion of a string to bytes leaves). -/
def Own (w : World) (base : Nat) (e : TypeId) (size : Nat) (v : Value) (n : Nat) (xs : List Value) : Prop :=
  xs.length = n * size ∧
  ((v = .slice none 0 0 ∧ n = 0) ∨
   ∃ g cap cur fr, v = .slice (some ⟨g, 0, none⟩) n cap ∧ base ≤ g ∧ w.heap[g]? = some (.cells cur e fr) ∧ (∀ j, j < cur.size → ¬ (fr.1 ≤ j ∧ j < fr.2)) ∧ n ≤ cap ∧ cap ≤ maxLen ∧ cur.size = cap * size ∧ cur.toList.take (n * size) = xs)

theorem setCells_heap (g : Nat) (e : TypeId) (fr : Nat × Nat) : ∀ (vs : List Value) (o : Nat) (cur : Array Value) (w : World), w.heap[g]? = some (.cells cur e fr) → o + vs.length ≤ cur.size →
    (w.setCells g o vs).heap[g]? = some (.cells (cur.toList.take o ++ vs ++ cur.toList.drop (o + vs.length)).toArray e fr)
  | [], o, cur, w, h, _ => by simp [World.setCells, h]
  | v :: vs, o, cur, w, h, hl => by
    have h1 : (w.setCell ⟨g, o, none⟩ v).heap[g]? = some (.cells (cur.setIfInBounds o v) e fr) := by
      simp [World.setCell, Array.getElem?_modify, h]
    have hl' : o < cur.size := by simp at hl; omega
    have := setCells_heap g e fr vs (o + 1) (cur.setIfInBounds o v) _ h1 (by simp at hl ⊢; omega)
    simp only [World.setCells]
    rw [this]
    congr 2
    apply Array.ext'
    simp only [Array.toList_setIfInBounds, List.append_assoc]
    have hd : (cur.toList.set o v).drop (o + 1 + vs.length) = cur.toList.drop (o + (v :: vs).length) := by
      rw [List.drop_set_of_lt (by omega)]
      congr 1
      simp; omega
    have ht : (cur.toList.set o v).take (o + 1) = cur.toList.take o ++ [v] := by
      rw [List.take_succ_eq_append_getElem (by simpa using hl'), List.take_set_of_le (by omega)]
      simp
    rw [hd, ht]
    simp
theorem grownBy_weak {a b : World} {row : Option Nat} (h : a.grownBy b none) : a.grownBy b row := ⟨h.os, h.tape, h.output, h.size, fun k hk _ => h.block k hk (by simp)⟩
theorem grownBy_after {a b c : World} (h : a.grownBy b none) (k : b.grownBy c (some a.heap.size)) : a.grownBy c none :=
  ⟨k.os.trans h.os, k.tape.trans h.tape, k.output.trans h.output, Nat.le_trans h.size k.size, fun i hi _ => (k.block i (Nat.lt_of_lt_of_le hi h.size) (by intro e; injection e; omega)).trans (h.block i hi (by simp))⟩
theorem grownBy_alloc' {a b : World} {row : Option Nat} (h : a.grownBy b row) (o : Obj) : a.grownBy (b.alloc o) row :=
  h.trans ⟨rfl, rfl, rfl, by simp, fun k hk _ => Below.heap_alloc b o k hk⟩
theorem grownBy_drew {a b : World} {row : Option Nat} (h : a.grownBy b row) : a.grownBy b.drew row := ⟨h.os, h.tape, h.output, h.size, h.block⟩
theorem grownBy_drewN {a b : World} {row : Option Nat} (h : a.grownBy b row) (n : Nat) : a.grownBy (b.drewN n) row := ⟨h.os, h.tape, h.output, h.size, h.block⟩
theorem grownBy_set {a b : World} {g : Nat} (h : a.grownBy b (some g)) (i : Nat) (u : Value) : a.grownBy (b.setCell ⟨g, i, none⟩ u) (some g) :=
  h.trans ⟨rfl, rfl, rfl, by simp [World.setCell], fun k _ hne => Below.heap_setCell b ⟨g, i, none⟩ u k (fun e => hne (by simp [e]))⟩
theorem setCells_grownBy (g : Nat) : ∀ (vs : List Value) (o : Nat) (w : World), w.grownBy (w.setCells g o vs) (some g)
  | [], _, w => .refl _ _
  | v :: vs, o, w => by
    refine World.grownBy.trans (b := w.setCell ⟨g, o, none⟩ v) ?_ (setCells_grownBy g vs (o + 1) _)
    exact ⟨rfl, rfl, rfl, by simp [World.setCell], fun k _ hk => Below.heap_setCell w ⟨g, o, none⟩ v k (fun e => hk (by simp [e]))⟩

section
variable {w w' : World} {base : Nat} {e : TypeId} {size : Nat} {v : Value} {n : Nat} {xs : List Value}
theorem Own.nil_ (w : World) (base : Nat) (e : TypeId) (size : Nat) : Own w base e size (.slice none 0 0) 0 [] := ⟨by simp, .inl ⟨rfl, rfl⟩⟩
theorem Own.of_owns (h : w.ownsRow base e size v n xs) : Own w base e size v n xs := by
  refine ⟨h.1, ?_⟩
  rcases h.2 with h | ⟨g, cap, cur, h1, h2, h3, h4, h5, h6, h7⟩
  · exact .inl h
  · exact .inr ⟨g, cap, cur, (0, 0), h1, h2, h3, fun j _ hj => by omega, h4, h5, h6, h7⟩
theorem Own.made (w : World) (base : Nat) (e : TypeId) (size : Nat) (hb : base ≤ w.heap.size) : Own (w.alloc (.cells #[] e)) base e size (.slice (some ⟨w.heap.size, 0, none⟩) 0 0) 0 [] :=
  ⟨by simp, .inr ⟨w.heap.size, 0, #[], (0, 0), rfl, hb, heap_alloc_new w _, fun j hj => by simp at hj, Nat.le_refl _, Nat.zero_le _, by simp, by simp⟩⟩
theorem Own.lt (h : Own w base e size v n xs) : ∀ k, v.ownBlock = some k → base ≤ k ∧ k < w.heap.size := by
  intro k hk
  rcases h.2 with ⟨rfl, _⟩ | ⟨g, cap, cur, fr, rfl, hb, hg, _⟩
  · simp [Value.ownBlock] at hk
  · simp [Value.ownBlock] at hk
    subst hk
    exact ⟨hb, (Array.getElem?_eq_some_iff.1 hg).1⟩
theorem Own.kept {row : Option Nat} (h : Own w base e size v n xs) (hg : w.grownBy w' row) (hne : v.ownBlock = none ∨ v.ownBlock ≠ row) : Own w' base e size v n xs := by
  refine ⟨h.1, ?_⟩
  rcases h.2 with hn | ⟨g, cap, cur, fr, rfl, hb, hgg, rest⟩
  · exact .inl hn
  · refine .inr ⟨g, cap, cur, fr, rfl, hb, ?_, rest⟩
    rw [hg.block g (Array.getElem?_eq_some_iff.1 hgg).1 (by simpa [Value.ownBlock] using hne)]
    exact hgg
theorem Own.below {B : Nat} (h : Own w base e size v n xs) (hb : Below B w w') (hB : w.heap.size ≤ B) : Own w' base e size v n xs :=
  h.kept (row := none) ⟨hb.os, hb.tape, hb.output, hb.size, fun k hk _ => hb.block k (by omega)⟩ (by cases v.ownBlock <;> simp)
theorem Own.mono {base' : Nat} (h : Own w base e size v n xs) (hb : base' ≤ base) : Own w base' e size v n xs := by
  refine ⟨h.1, ?_⟩
  rcases h.2 with h | ⟨g, cap, cur, fr, h1, h2, h3, h4, h5, h6, h7⟩
  · exact .inl h
  · exact .inr ⟨g, cap, cur, fr, h1, by omega, h3, h4, h5, h6, h7⟩
theorem Own.far (h : Own w base e size v n xs) {g : Nat} (hg : g < base) (hw : w.grownBy w' (some g)) : Own w' base e size v n xs :=
  h.kept hw (by
    cases hv : v.ownBlock with
    | none => exact .inl rfl
    | some k =>
      have := (h.lt k hv).1
      right; intro e; injection e with e; omega)
theorem Own.form (h : Own w base e size v n xs) : ∃ A c, v = .slice A n c ∧ n ≤ c ∧ c ≤ maxLen := by
  rcases h.2 with ⟨rfl, rfl⟩ | ⟨g, cap, cur, fr, rfl, _, _, _, hc, hm, _⟩
  · exact ⟨none, 0, rfl, Nat.le_refl _, Nat.zero_le _⟩
  · exact ⟨_, cap, rfl, hc, hm⟩
theorem Own.nilLen {A : Option Addr} {c : Nat} (h : Own w base e size (.slice A n c) n xs) (hA : A = none) : n = 0 := by
  rcases h.2 with ⟨hv, h0⟩ | ⟨g, cap, cur, fr, hv, _⟩
  · exact h0
  · subst hA; cases hv
theorem Own.reads {A : Option Addr} {c : Nat} (h : Own w base e size (.slice A n c) n xs) : Reads w w.heap.size size A n xs := by
  refine ⟨h.1, fun hn => ?_⟩
  rcases h.2 with ⟨hv, h0⟩ | ⟨g, cap, cur, fr, hv, hb, hg, _, hc, hm, hs, ht⟩
  · omega
  · have hA : A = some ⟨g, 0, none⟩ := by injection hv
    subst hA
    refine ⟨_, rfl, (Array.getElem?_eq_some_iff.1 hg).1, fun j u hu => ?_⟩
    have hadd : (⟨g, 0, none⟩ : Addr).add j = ⟨g, j, none⟩ := by unfold Addr.add; split <;> simp_all
    rw [hadd, cell_of_row w g j cur e fr hg]
    rw [← ht, List.getElem?_take] at hu
    split at hu
    · simpa using hu
    · cases hu
end

section
variable {P : Program} (w : World)
theorem run_append_Own (base : Nat) (t ty e : TypeId) (i : TypeInfo) (z : Value) (size bytes : Nat) (ht : P.underlying t = some (.slice e)) (hi : P.info? e = some i) (hz : i.zero = some z)
    (hsize : i.size = size) (hby : i.bytes = bytes) (hzs : z.cells.size = size) (hsz : 0 < size)
    (v : Value) (n : Nat) (xs : List Value) (hown : Own w base e size v n xs)
    (B : Nat) (A : Option Addr) (m c : Nat) (news : List Value) (hr : Reads w B size A m news) (h1 : ∀ u ∈ news, u.oneCell' = true)
    (h63 : n + m ≤ maxLen) (hbytes : (n + m) * bytes ≤ 140737488355328) (hbase : base ≤ w.heap.size) (hA : A = none → m = 0) :
    ∃ v' w', (Builtin.append_ #[t, t] ty #[v, .slice A m c]).run P w = .ok v' w' ∧ Own w' base e size v' (n + m) (xs ++ news) ∧ w.grownBy w' v.ownBlock ∧
      (v'.ownBlock = v.ownBlock ∨ v'.ownBlock = some w.heap.size) := by
  subst hsize
  subst hby
  have hlen : (xs ++ news).length = (n + m) * i.size := by rw [List.length_append, hown.1, hr.1, Nat.add_mul]
  by_cases hm : m = 0
  · subst hm
    have hn : news = [] := List.eq_nil_of_length_eq_zero (by simpa using hr.1)
    subst hn
    refine ⟨v, w, ?_, by simpa using hown, .refl _ _, .inl rfl⟩
    rcases hown.2 with ⟨rfl, rfl⟩ | ⟨g, cap, cur, fr, rfl, _, _, _, hnc, _⟩
    · rcases A with _ | ad <;> simp [Builtin.append_, run_underlying ht, sizeOf, typeInfo, hi, Builtin.lenOf, Builtin.firstCells, loadCells, loadCellsFrom]
    · rcases A with _ | ad <;> simp [Builtin.append_, run_underlying ht, sizeOf, typeInfo, hi, Builtin.lenOf, Builtin.firstCells, hnc, storeCells, loadCells, loadCellsFrom]
  · obtain ⟨ad, rfl, _, hnews⟩ := hr.2 (by omega)
    have grown : ∀ (old : Nat), old < n + m → ∀ (row : Option Nat),
        Own (w.drew.alloc (.cells (xs.toArray ++ news.toArray ++ Builtin.zeroCells z.cells (grownCap w (n + m) old e - (n + m))) e)) base e i.size
          (.slice (some ⟨w.heap.size, 0, none⟩) (n + m) (grownCap w (n + m) old e)) (n + m) (xs ++ news) ∧
        w.grownBy (w.drew.alloc (.cells (xs.toArray ++ news.toArray ++ Builtin.zeroCells z.cells (grownCap w (n + m) old e - (n + m))) e)) row := by
      intro old ho row
      have hge := grownCap_ge w (n + m) old e
      have hcm : grownCap w (n + m) old e ≤ maxLen := grownCap_le_maxLen w (n + m) old e h63
      refine ⟨⟨hlen, .inr ⟨w.heap.size, _, _, (0, 0), rfl, hbase, heap_alloc_new w.drew _, fun j _ hj => by omega, hge, hcm, ?_, ?_⟩⟩, ⟨rfl, rfl, rfl, by simp, fun k hk _ => Below.heap_alloc w.drew _ k hk⟩⟩
      · simp only [Array.size_append, List.size_toArray, size_zeroCells, hzs, hown.1, hr.1, ← Nat.add_mul]
        congr 1
        omega
      · simp only [Array.toList_append, List.append_assoc]
        rw [← List.append_assoc, ← hlen]
        exact List.take_left
    have hsmall : n + m ≤ 9223372036854775807 := by simp only [maxLen] at h63; omega
    rcases hown.2 with ⟨rfl, rfl⟩ | ⟨g, cap, cur, fr, rfl, hbg, hg, hfr, hnc, hcm, hcs, htake⟩
    · have hx : xs = [] := List.eq_nil_of_length_eq_zero (by simpa using hown.1)
      subst hx
      have hrun := run_append_nil (P := P) w t ty e i z ht hi hz ad m c news hr.1 hnews (by omega) (by omega) (by have hb := hbytes; simp only [Nat.zero_add] at hb; omega)
      have hgr := grown 0 (by omega) (Value.ownBlock (.slice none 0 0))
      simp only [Nat.zero_add, List.nil_append, Array.empty_append] at hgr ⊢
      exact ⟨_, _, hrun, hgr.1, hgr.2, .inr rfl⟩
    · by_cases hroom : n + m ≤ cap
      · have hfit : n * i.size + news.length ≤ cur.size := by rw [hr.1, hcs, ← Nat.add_mul]; exact Nat.mul_le_mul_right _ hroom
        have hrun := run_append_room_cells (P := P) w t ty e i ht hi g 0 n cap ad m c news hr.1 hnews h1 hroom
          (fun j hj => by rw [cell_of_row w g _ cur e fr hg]; simp; omega)
          (fun j hj => by
            have := hfr (0 + n * i.size + j) (by omega)
            simp only [World.frozen?, hg, Bool.and_eq_false_iff, decide_eq_false_iff_not]
            by_cases h1 : fr.1 ≤ 0 + n * i.size + j
            · exact .inr (fun h2 => this ⟨h1, h2⟩)
            · exact .inl h1)
        simp only [Nat.zero_add] at hrun
        refine ⟨_, _, hrun, ⟨hlen, .inr ⟨g, cap, _, fr, rfl, hbg, setCells_heap g e fr news _ cur w hg hfit, ?_, hroom, hcm, ?_, ?_⟩⟩, ?_, .inl rfl⟩
        · intro j hj
          exact hfr j (by simp at hj; omega)
        · simp only [List.size_toArray, List.length_append, List.length_take, List.length_drop, Array.length_toList]
          omega
        · rw [htake, ← hlen]
          exact List.take_left
        · exact setCells_grownBy g news _ w
      · have holds : ∀ j u, xs[j]? = some u → w.cell? ((⟨g, 0, none⟩ : Addr).add j) = some u := fun j u hu => by
          have hn0 : 0 < n := by
            rcases Nat.eq_zero_or_pos n with h0 | h0
            · subst h0
              have hx : xs = [] := List.eq_nil_of_length_eq_zero (by simpa using hown.1)
              subst hx
              simp at hu
            · exact h0
          obtain ⟨ad', hA', _, hc'⟩ := (Own.reads hown).2 hn0
          injection hA' with hA'
          subst hA'
          exact hc' j u hu
        have hrun := run_append_grow (P := P) w t ty e i z ht hi hz ⟨g, 0, none⟩ n cap xs hown.1 holds ad m c news hr.1 hnews (by omega) (by omega) (growslice_fits (by omega) hbytes)
        have hgr := grown cap (by omega) (Value.ownBlock (.slice (some ⟨g, 0, none⟩) n cap))
        exact ⟨_, _, hrun, hgr.1, hgr.2, .inr rfl⟩
end

/-- A byte as a cell; a text's bytes as cells. -/
def byteV (c : UInt8) : Value := .int .u8 c.toNat
def bytesV (l : List UInt8) : List Value := l.map byteV
theorem bytesV_length (l : List UInt8) : (bytesV l).length = l.length := by simp [bytesV]
theorem bytesV_append (a b : List UInt8) : bytesV (a ++ b) = bytesV a ++ bytesV b := by simp [bytesV]
theorem bytesV_drop (a : List UInt8) (k : Nat) : (bytesV a).drop k = bytesV (a.drop k) := by simp [bytesV, List.map_drop]
theorem bytesV_take (a : List UInt8) (k : Nat) : (bytesV a).take k = bytesV (a.take k) := by simp [bytesV, List.map_take]
theorem bytesV_one (l : List UInt8) : ∀ u ∈ bytesV l, u.oneCell' = true := by
  intro u hu
  simp only [bytesV, List.mem_map] at hu
  obtain ⟨c, _, rfl⟩ := hu
  rfl

theorem Own.bytes {w : World} {base n : Nat} {e : TypeId} {v : Value} {xs : List Value} (h : Own w base e 1 v n xs) (l : List UInt8) (hx : xs = bytesV l) : Own w base e 1 v l.length (bytesV l) := by
  subst hx
  have := h.1
  rw [bytesV_length, Nat.mul_one] at this
  rw [this]
  exact h

section
variable {P : Program} (w : World)
/-- 'string(b)', b nil or not. -/
theorem conv_bs (src dst e : TypeId) (hs : P.underlying src = some (.slice e)) (he : P.underlying e = some (.int .u8)) (hd : P.underlying dst = some .string)
    (B : Nat) (A : Option Addr) (n c : Nat) (l : List UInt8) (hr : Reads w B 1 A n (bytesV l)) (hA : A = none → n = 0) :
    (convert src dst (.slice A n c)).run P w = .ok (.string ⟨l.toArray⟩) w := by
  have hn : l.length = n := by have := hr.1; simpa [bytesV] using this
  subst hn
  rcases Nat.eq_zero_or_pos l.length with h0 | h0
  · have hl : l = [] := List.eq_nil_of_length_eq_zero h0
    subst hl
    rcases A with _ | ad
    · rw [run_convert_bytes_string w src dst e none _ c hs he hd]
      simp [Conv.bytesToString, loadCells, loadCellsFrom]
      try rfl
    · exact run_convert_bytes_back w src dst e ad c [] hs he hd (fun j hj => by simp at hj)
  · obtain ⟨ad, rfl, _, hc⟩ := hr.2 h0
    exact run_convert_bytes_back w src dst e ad c l hs he hd (fun j hj => hc j _ (by simp [bytesV, byteV, hj]))

theorem conv_sb (src dst e : TypeId) (s : ByteArray) (hs : P.underlying src = some .string) (hd : P.underlying dst = some (.slice e)) (he : P.underlying e = some (.int .u8)) (hl : s.size ≤ maxLen) :
    ∃ v w', (convert src dst (.string s)).run P w = .ok v w' ∧ Own w' w.heap.size e 1 v s.size (bytesV s.data.toList) ∧ w.grownBy w' none ∧ v.ownBlock = some w.heap.size := by
  have hz : s.data.size = s.size := rfl
  have hge := grownCap_ge w s.size 0 e
  have hcm := grownCap_le_maxLen w s.size 0 e hl
  have hrun := run_bytes_of_string (P := P) w src dst e s hs hd he
  generalize hcap : grownCap w s.size 0 e = cap at *
  have hrs : (bytesRow s cap).size = cap := by simp [bytesRow, hz]; omega
  refine ⟨_, _, hrun, ⟨(by rw [bytesV_length, Array.length_toList, Nat.mul_one]; rfl), .inr ⟨w.heap.size, cap, bytesRow s cap, ((bytesRow s cap).size, (bytesRow s cap).size + 1), rfl, Nat.le_refl _, ?_, ?_, hge, hcm, ?_, ?_⟩⟩, ?_, rfl⟩
  · show (w.heap.push _)[w.heap.size]? = _
    simp
  · intro j hj hh; omega
  · omega
  · unfold bytesRow bytesV byteV
    rw [Array.toList_append, Array.toList_map, Nat.mul_one]
    exact List.take_left' (by rw [List.length_map, Array.length_toList]; exact hz)
  · exact ⟨rfl, rfl, rfl, by simp, fun k hk _ => Below.heap_alloc w.drew _ k hk⟩

/-- The value and the world of '[]byte(s)', under names. -/
def sbV (w : World) (e : TypeId) (s : ByteArray) : Value := .slice (some ⟨w.heap.size, 0, none⟩) s.size (grownCap w s.size 0 e)
def sbW (w : World) (e : TypeId) (s : ByteArray) : World :=
  w.drew.alloc (.cells (bytesRow s (grownCap w s.size 0 e)) e ((bytesRow s (grownCap w s.size 0 e)).size, (bytesRow s (grownCap w s.size 0 e)).size + 1))
theorem run_sb (src dst e : TypeId) (s : ByteArray) (hs : P.underlying src = some .string) (hd : P.underlying dst = some (.slice e)) (he : P.underlying e = some (.int .u8)) :
    (convert src dst (.string s)).run P w = .ok (sbV w e s) (sbW w e s) := run_bytes_of_string w src dst e s hs hd he
theorem sb_own (e : TypeId) (s : ByteArray) (hl : s.size ≤ maxLen) : Own (sbW w e s) w.heap.size e 1 (sbV w e s) s.size (bytesV s.data.toList) := by
  have hz : s.data.size = s.size := rfl
  have hge := grownCap_ge w s.size 0 e
  have hcm := grownCap_le_maxLen w s.size 0 e hl
  unfold sbW sbV
  generalize hcap : grownCap w s.size 0 e = cap at *
  have hrs : (bytesRow s cap).size = cap := by simp [bytesRow, hz]; omega
  refine ⟨(by rw [bytesV_length, Array.length_toList, Nat.mul_one]; rfl), .inr ⟨w.heap.size, cap, bytesRow s cap, ((bytesRow s cap).size, (bytesRow s cap).size + 1), rfl, Nat.le_refl _, ?_, ?_, hge, hcm, ?_, ?_⟩⟩
  · show (w.heap.push _)[w.heap.size]? = _
    simp
  · intro j hj hh; omega
  · omega
  · unfold bytesRow bytesV byteV
    rw [Array.toList_append, Array.toList_map, Nat.mul_one]
    exact List.take_left' (by rw [List.length_map, Array.length_toList]; exact hz)
theorem sb_grown (e : TypeId) (s : ByteArray) : w.grownBy (sbW w e s) none := ⟨rfl, rfl, rfl, by simp [sbW], fun k hk _ => Below.heap_alloc w.drew _ k hk⟩
theorem sb_size (e : TypeId) (s : ByteArray) : (sbW w e s).heap.size = w.heap.size + 1 := by simp [sbW]

theorem wp_conv_sb {o : Oper} {a : Act} {K : Act → World → Prop} {Q : Exit → Act → World → Prop} (x : Operand) (src dst e : TypeId) (ho : o.op = .convert src dst x)
    (hs : P.underlying src = some .string) (hd : P.underlying dst = some (.slice e)) (he : P.underlying e = some (.int .u8)) (s : ByteArray) (hx : a.eval x = .string s) (hl : s.size ≤ maxLen)
    (h : ∀ v w', Own w' w.heap.size e 1 v s.size (bytesV s.data.toList) → w.grownBy w' none → v.ownBlock = some w.heap.size → K (a.put o.dst v) w') : o.wp P a w K Q := by
  obtain ⟨v', w', hrun, h2, h3, h4⟩ := conv_sb (P := P) w src dst e s hs hd he hl
  unfold Oper.wp execOp
  simp only [ho, Sem.run_bind, Sem.run_pure, Result.andThen_ok, hx, hrun, Sem.run_map]
  exact h v' w' h2 h3 h4

theorem wpList_conv_sb {ops : Array Oper} {rest : List Oper} {o : Oper} {a : Act} {Q : Exit → Act → World → Prop} (hgd : o.guard = none) (x : Operand) (src dst e : TypeId) (ho : o.op = .convert src dst x)
    (hs : P.underlying src = some .string) (hd : P.underlying dst = some (.slice e)) (he : P.underlying e = some (.int .u8)) (s : ByteArray) (hx : a.eval x = .string s) (hl : s.size ≤ maxLen)
    (h : ∀ v w', Own w' w.heap.size e 1 v s.size (bytesV s.data.toList) → w.grownBy w' none → v.ownBlock = some w.heap.size → wpList P ops Q rest (a.put o.dst v) w') : wpList P ops Q (o :: rest) a w :=
  wpList_plain hgd fun _ hK => wp_conv_sb w x src dst e ho hs hd he s hx hl fun v' w' h2 h3 h4 => hK _ _ (h v' w' h2 h3 h4)

theorem wp_append_Own {o : Oper} {a : Act} {K : Act → World → Prop} {Q : Exit → Act → World → Prop} (s x : Operand) (t : TypeId)
    (ho : o.op = .call { callee := .builtin .append, args := #[s, x], argTypes := #[t, t] })
    (base : Nat) (e : TypeId) (i : TypeInfo) (z : Value) (size bytes : Nat) (ht : P.underlying t = some (.slice e)) (hi : P.info? e = some i) (hz : i.zero = some z)
    (hsize : i.size = size) (hby : i.bytes = bytes) (hzs : z.cells.size = size) (hsz : 0 < size)
    (v : Value) (n : Nat) (xs : List Value) (hs : a.eval s = v) (hown : Own w base e size v n xs)
    (B : Nat) (A : Option Addr) (m c : Nat) (news : List Value) (hx : a.eval x = .slice A m c) (hr : Reads w B size A m news) (h1 : ∀ u ∈ news, u.oneCell' = true)
    (h63 : n + m ≤ maxLen) (hbytes : (n + m) * bytes ≤ 140737488355328) (hbase : base ≤ w.heap.size) (hA : A = none → m = 0)
    (h : ∀ v' w', Own w' base e size v' (n + m) (xs ++ news) → w.grownBy w' v.ownBlock → (v'.ownBlock = v.ownBlock ∨ v'.ownBlock = some w.heap.size) → K (a.put o.dst v') w') : o.wp P a w K Q := by
  obtain ⟨v', w', hrun, h2, h3, h4⟩ := run_append_Own (P := P) w base t o.type e i z size bytes ht hi hz hsize hby hzs hsz v n xs hown B A m c news hr h1 h63 hbytes hbase hA
  unfold Oper.wp execOp
  simp only [ho, resolve, invoke, builtin, Sem.run_bind, Sem.run_pure, Result.andThen_ok, List.map_toArray, List.map_cons, List.map_nil, hs, hx, hrun]
  exact h v' w' h2 h3 h4

theorem wpList_append_Own {ops : Array Oper} {rest : List Oper} {o : Oper} {a : Act} {Q : Exit → Act → World → Prop} (hgd : o.guard = none) (s x : Operand) (t : TypeId)
    (ho : o.op = .call { callee := .builtin .append, args := #[s, x], argTypes := #[t, t] })
    (base : Nat) (e : TypeId) (i : TypeInfo) (z : Value) (size bytes : Nat) (ht : P.underlying t = some (.slice e)) (hi : P.info? e = some i) (hz : i.zero = some z)
    (hsize : i.size = size) (hby : i.bytes = bytes) (hzs : z.cells.size = size) (hsz : 0 < size)
    (v : Value) (n : Nat) (xs : List Value) (hs : a.eval s = v) (hown : Own w base e size v n xs)
    (B : Nat) (A : Option Addr) (m c : Nat) (news : List Value) (hx : a.eval x = .slice A m c) (hr : Reads w B size A m news) (h1 : ∀ u ∈ news, u.oneCell' = true)
    (h63 : n + m ≤ maxLen) (hbytes : (n + m) * bytes ≤ 140737488355328) (hbase : base ≤ w.heap.size) (hA : A = none → m = 0)
    (h : ∀ v' w', Own w' base e size v' (n + m) (xs ++ news) → w.grownBy w' v.ownBlock → (v'.ownBlock = v.ownBlock ∨ v'.ownBlock = some w.heap.size) → wpList P ops Q rest (a.put o.dst v') w') : wpList P ops Q (o :: rest) a w :=
  wpList_plain hgd fun _ hK => wp_append_Own w s x t ho base e i z size bytes ht hi hz hsize hby hzs hsz v n xs hs hown B A m c news hx hr h1 h63 hbytes hbase hA fun v' w' h2 h3 h4 => hK _ _ (h v' w' h2 h3 h4)

theorem step_append_Own {ops : Array Oper} {o : Oper} {a : Act} {K : Act → World → Prop} {Q : Exit → Act → World → Prop} {E : Prop} (hgd : o.guard = none) (s x : Operand) (t : TypeId)
    (ho : o.op = .call { callee := .builtin .append, args := #[s, x], argTypes := #[t, t] })
    (base : Nat) (e : TypeId) (i : TypeInfo) (z : Value) (size bytes : Nat) (ht : P.underlying t = some (.slice e)) (hi : P.info? e = some i) (hz : i.zero = some z)
    (hsize : i.size = size) (hby : i.bytes = bytes) (hzs : z.cells.size = size) (hsz : 0 < size)
    (v : Value) (n : Nat) (xs : List Value) (hs : a.eval s = v) (hown : Own w base e size v n xs)
    (B : Nat) (A : Option Addr) (m c : Nat) (news : List Value) (hx : a.eval x = .slice A m c) (hr : Reads w B size A m news) (h1 : ∀ u ∈ news, u.oneCell' = true)
    (h63 : n + m ≤ maxLen) (hbytes : (n + m) * bytes ≤ 140737488355328) (hbase : base ≤ w.heap.size) (hA : A = none → m = 0)
    (h : ∀ v' w', Own w' base e size v' (n + m) (xs ++ news) → w.grownBy w' v.ownBlock → (v'.ownBlock = v.ownBlock ∨ v'.ownBlock = some w.heap.size) → K (a.put o.dst v') w') :
    if Region.wanted o (yielded ops a.tmps) = true then Oper.wp P o a w K Q else E := by
  have hw : Region.wanted o (yielded ops a.tmps) = true := by simp [Region.wanted, hgd]
  rw [if_pos hw]
  exact wp_append_Own w s x t ho base e i z size bytes ht hi hz hsize hby hzs hsz v n xs hs hown B A m c news hx hr h1 h63 hbytes hbase hA h
end

end Go.Proofs.Ytlcglijkpbojgaa

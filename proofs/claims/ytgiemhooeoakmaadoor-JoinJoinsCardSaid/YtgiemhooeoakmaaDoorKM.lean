/- A region that draws its order, by what each operation makes true: the order does not matter. Slices that are whole blocks; what an allocation or a store elsewhere leaves. Layer 23: the document's example. -/
import Derived.Lib.Hide
import Derived.Test.YtgiemhooeoakmaaDoorKJ
import Derived.Test.YtgiemhooeoakmaaDoorKE
import Derived.Test.YtgiemhooeoakmaaDoorKL
import Derived.Test.YtgiemhooeoakmaaDoorKH
namespace Go.Proofs.YtgiemhooeoakmaaDoor
open Go.RowKit
set_option linter.unusedVariables false
set_option linter.unusedSimpArgs false

section
variable {P : Program} {ops : Array Oper} {Q : Exit → Act → World → Prop}

def mark (L : Nat → Bool) (i : Nat) : Nat → Bool := fun j => if j = i then true else L j
/-- What one operation makes of the state, whatever stands done already. -/
def OrdStep (P : Program) (ops : Array Oper) (Q : Exit → Act → World → Prop) (I : (Nat → Bool) → Act → World → Prop) (i : Nat) (o : Oper) : Prop :=
  ∀ (L : Nat → Bool) (a : Act) (w : World), I L a w → L i = false → (∀ e ∈ o.after, Region.binds .any e = true → L e.on = true) →
    ∀ K : Act → World → Prop, (∀ a' w', I (mark L i) a' w' → K a' w') → if Region.wanted o (yielded ops a.tmps) = true then Oper.wp P o a w K Q else K (a.put o.dst undef) w
def OrdSteps (P : Program) (ops : Array Oper) (Q : Exit → Act → World → Prop) (I : (Nat → Bool) → Act → World → Prop) : Nat → List Oper → Prop
  | _, [] => True
  | k, o :: r => OrdStep P ops Q I k o ∧ OrdSteps P ops Q I (k + 1) r
theorem OrdSteps.at {I : (Nat → Bool) → Act → World → Prop} : ∀ (l : List Oper) (k j : Nat) (o : Oper), OrdSteps P ops Q I k l → l[j]? = some o → OrdStep P ops Q I (k + j) o
  | [], k, j, o, h, ho => by simp at ho
  | x :: r, k, 0, o, h, ho => by simp at ho; subst ho; exact h.1
  | x :: r, k, j + 1, o, h, ho => by
    have := OrdSteps.at r (k + 1) j o h.2 (by simpa using ho)
    rw [show k + (j + 1) = k + 1 + j by omega]
    exact this
/-- Every operation waits for elder ones alone. -/
def ordFwd (ops : Array Oper) : Bool := (List.range ops.size).all fun i => match ops[i]? with
  | some o => o.after.all fun e => !Region.binds .any e || decide (e.on < i)
  | none => true
theorem ordFwd_at (h : ordFwd ops = true) {i : Nat} {o : Oper} (ho : ops[i]? = some o) : ∀ e ∈ o.after, Region.binds .any e = true → e.on < i := fun e he hb => by
  unfold ordFwd at h
  rw [List.all_eq_true] at h
  have h1 := h i (List.mem_range.2 (Array.getElem?_eq_some_iff.1 ho).1)
  rw [ho] at h1
  simp only [Array.all_eq_true_iff_forall_mem] at h1
  have h2 := h1 e he
  rw [hb] at h2
  simpa using h2
theorem ord_all {listed : Array Bool} (hz : listed.size = ops.size) (hf : ordFwd ops = true) (hr : Region.ready .any ops listed = []) : ∀ j, j < ops.size → listed.getD j false = true := by
  intro j
  induction j using Nat.strongRecOn with
  | ind j ih =>
    intro hj
    cases hl : listed.getD j true with
    | true => simpa [hz, hj] using hl
    | false =>
      have hm : j ∈ Region.ready .any ops listed := mem_ready.2 ⟨hl, ops[j], Array.getElem?_eq_getElem hj, fun e he hb => by
        have := ordFwd_at hf (Array.getElem?_eq_getElem hj) e he hb
        exact ih _ this (by omega)⟩
      rw [hr] at hm
      cases hm
theorem ord_any {I : (Nat → Bool) → Act → World → Prop} (hf : ordFwd ops = true) (hs : OrdSteps P ops Q I 0 ops.toList) (hc : ∀ L L' a w, (∀ j, L j = L' j) → I L a w → I L' a w)
    (hend : ∀ L a w, (∀ j, j < ops.size → L j = true) → I L a w → Q .normal a w) :
    ∀ (fuel : Nat) (listed : Array Bool) (a : Act) (w : World), listed.size = ops.size → (∃ U : List Nat, U.length ≤ fuel ∧ ∀ j, j < ops.size → listed.getD j true = false → j ∈ U) →
      I (fun j => listed.getD j false) a w → wpAny P .any ops Q fuel listed a w := by
  intro fuel
  induction fuel with
  | zero =>
    intro listed a w hz ⟨U, hU, hin⟩ hI
    have hU0 : U = [] := List.length_eq_zero_iff.1 (by omega)
    subst hU0
    have hr : Region.ready .any ops listed = [] := by
      cases h : Region.ready .any ops listed with
      | nil => rfl
      | cons i r =>
        have hm : i ∈ Region.ready .any ops listed := by rw [h]; exact List.mem_cons_self
        obtain ⟨h1, o, h2, -⟩ := mem_ready.1 hm
        exact absurd (hin i (Array.getElem?_eq_some_iff.1 h2).1 h1) (by simp)
    exact ⟨hr, hend _ _ _ (ord_all hz hf hr) hI⟩
  | succ fuel ih =>
    intro listed a w hz ⟨U, hU, hin⟩ hI
    refine ⟨fun hr => hend _ _ _ (ord_all hz hf hr) hI, fun i hi => ?_⟩
    obtain ⟨h1, o, h2, h3⟩ := mem_ready.1 hi
    have hlt := (Array.getElem?_eq_some_iff.1 h2).1
    have hst := OrdSteps.at ops.toList 0 i o hs (by simpa using h2)
    rw [Nat.zero_add] at hst
    have hl : listed.getD i false = false := by simpa [hz, hlt] using h1
    refine wpOp_step h2 fun K hK => hst (fun j => listed.getD j false) a w hI hl h3 K fun a' w' hI' => hK a' w' ?_
    refine ih (listed.setIfInBounds i true) a' w' (by simpa using hz) ⟨U.erase i, ?_, ?_⟩ ?_
    · have := List.length_erase_of_mem (hin i hlt h1)
      omega
    · intro j hj hlj
      have hne : j ≠ i := fun he => by
        subst he
        simp [hz, hj] at hlj
      rw [getD_set_ne true (Ne.symm hne)] at hlj
      exact (List.mem_erase_of_ne hne).2 (hin j hj hlj)
    · refine hc _ _ _ _ (fun j => ?_) hI'
      unfold mark
      by_cases hji : j = i
      · subst hji
        simp [hz, hlt]
      · rw [if_neg hji, getD_set_ne false (Ne.symm hji)]
/-- A region that draws its order, by an invariant. -/
theorem wp_region_ord {id : Nat} {a : Act} {w : World} (I : (Nat → Bool) → Act → World → Prop) (hm : P.follows .mixedOrders = true) (hf : ordFwd ops = true) (h0 : I (fun _ => false) a w.drew)
    (hc : ∀ L L' a w, (∀ j, L j = L' j) → I L a w → I L' a w) (hs : OrdSteps P ops Q I 0 ops.toList) (hend : ∀ L a w, (∀ j, j < ops.size → L j = true) → I L a w → Q .normal a w) : (Code.region id ops true).wp P Q a w :=
  wp_region_any hm (ord_any hf hs hc hend ops.size _ a _ (by simp) ⟨List.range ops.size, by simp, fun j hj _ => List.mem_range.2 hj⟩ (hc _ _ _ _ (fun j => by simp [Array.getElem?_replicate]; try (split <;> rfl)) h0))
end
end Go.Proofs.YtgiemhooeoakmaaDoor

namespace Go.Proofs.YtgiemhooeoakmaaDoor
open Go.RowKit Go.ChangeShapes Go.WideShapes
set_option linter.unusedVariables false
set_option linter.unusedSimpArgs false

theorem mark_ne {L : Nat → Bool} {i j : Nat} (h : j ≠ i) (hm : mark L i j = true) : L j = true := by unfold mark at hm; rwa [if_neg h] at hm
theorem mark_off {L : Nat → Bool} {i j : Nat} (h : j ≠ i) (hm : mark L i j = false) : L j = false := by unfold mark at hm; rwa [if_neg h] at hm
theorem mark_self {L : Nat → Bool} {i : Nat} (hm : mark L i i = false) {p : Prop} : p := by unfold mark at hm; rw [if_pos rfl] at hm; cases hm
theorem ordStep_cons {P : Program} {ops : Array Oper} {Q : Exit → Act → World → Prop} {I : (Nat → Bool) → Act → World → Prop} {k : Nat} {o : Oper} {r : List Oper} (h : OrdStep P ops Q I k o) (t : OrdSteps P ops Q I (k + 1) r) : OrdSteps P ops Q I k (o :: r) := ⟨h, t⟩
theorem ordStep_nil {P : Program} {ops : Array Oper} {Q : Exit → Act → World → Prop} {I : (Nat → Bool) → Act → World → Prop} {k : Nat} : OrdSteps P ops Q I k [] := trivial

theorem Box.ne {w : World} {g g' : Nat} {t t' : TypeId} {cs cs' : Array Value} (h : Box w g t cs) (h' : Box w g' t' cs') (ht : t ≠ t') : g ≠ g' := fun e => by
  subst e
  have h1 := h.is.symm.trans h'.is
  injection h1 with h1
  injection h1 with _ h1
  exact ht h1
theorem Box.away {w : World} {g g' : Nat} {t t' : TypeId} {cs cs' : Array Value} (h : Box w g t cs) (h' : Box w g' t' cs') (ht : t ≠ t') (i : Nat) (u : Value) : Box (w.setCell ⟨g', i, none⟩ u) g t cs :=
  ⟨(setCell_block w g' i u g (h.ne h' ht)).trans h.is⟩
/-- A slice that is a whole block. -/
def Blk (w : World) (v : Value) (n : Nat) (t : TypeId) (cs : Array Value) : Prop := ∃ g, v = .slice (some ⟨g, 0, none⟩) n n ∧ Box w g t cs
theorem Blk.new (w : World) (n : Nat) (t : TypeId) (cs : Array Value) : Blk (w.alloc (.cells cs t)) (.slice (some ⟨w.heap.size, 0, none⟩) n n) n t cs := ⟨_, rfl, Box.new _ _ _⟩
theorem Blk.alloc {w : World} {v : Value} {n : Nat} {t : TypeId} {cs : Array Value} (h : Blk w v n t cs) (o : Obj) : Blk (w.alloc o) v n t cs := by
  obtain ⟨g, h1, h2⟩ := h
  exact ⟨g, h1, h2.alloc o⟩
theorem Blk.below {w w' : World} {v : Value} {n : Nat} {t : TypeId} {cs : Array Value} (h : Blk w v n t cs) (b : Below w.heap.size w w') : Blk w' v n t cs := by
  obtain ⟨g, h1, h2⟩ := h
  exact ⟨g, h1, h2.below b h2.lt⟩
theorem Blk.away {w : World} {v : Value} {n : Nat} {t : TypeId} {cs : Array Value} (h : Blk w v n t cs) {g' : Nat} {t' : TypeId} {cs' : Array Value} (h' : Box w g' t' cs') (ht : t ≠ t') (i : Nat) (u : Value) : Blk (w.setCell ⟨g', i, none⟩ u) v n t cs := by
  obtain ⟨g, h1, h2⟩ := h
  exact ⟨g, h1, h2.away h' ht i u⟩
/-- A slice of such slices. -/
def BlkV (w : World) (v : Value) (t2 t : TypeId) (css : List (Nat × Array Value)) : Prop := ∃ us : List Value, Blk w v us.length t2 us.toArray ∧ Each (fun u c => Blk w u c.1 t c.2) us css
theorem BlkV.alloc {w : World} {v : Value} {t2 t : TypeId} {css : List (Nat × Array Value)} (h : BlkV w v t2 t css) (o : Obj) : BlkV (w.alloc o) v t2 t css := by
  obtain ⟨us, h1, h2⟩ := h
  exact ⟨us, h1.alloc o, h2.imp fun _ _ h => h.alloc o⟩
theorem BlkV.below {w w' : World} {v : Value} {t2 t : TypeId} {css : List (Nat × Array Value)} (h : BlkV w v t2 t css) (b : Below w.heap.size w w') : BlkV w' v t2 t css := by
  obtain ⟨us, h1, h2⟩ := h
  exact ⟨us, h1.below b, h2.imp fun _ _ h => h.below b⟩
theorem BlkV.away {w : World} {v : Value} {t2 t : TypeId} {css : List (Nat × Array Value)} (h : BlkV w v t2 t css) {g' : Nat} {t' : TypeId} {cs' : Array Value} (h' : Box w g' t' cs') (ht : t ≠ t') (ht2 : t2 ≠ t') (i : Nat) (u : Value) : BlkV (w.setCell ⟨g', i, none⟩ u) v t2 t css := by
  obtain ⟨us, h1, h2⟩ := h
  exact ⟨us, h1.away h' ht2 i u, h2.imp fun _ _ h => h.away h' ht i u⟩
theorem BlkV.new1 {w : World} {t2 t : TypeId} {u : Value} {n : Nat} {cs : Array Value} (h : Blk w u n t cs) : BlkV (w.alloc (.cells #[u] t2)) (.slice (some ⟨w.heap.size, 0, none⟩) 1 1) t2 t [(n, cs)] :=
  ⟨[u], Blk.new w 1 t2 #[u], Each.cons (y := (n, cs)) (h.alloc _) Each.nil⟩
theorem BlkV.new2 {w : World} {t2 t : TypeId} {u u' : Value} {n n' : Nat} {cs cs' : Array Value} (h : Blk w u n t cs) (h' : Blk w u' n' t cs') : BlkV (w.alloc (.cells #[u, u'] t2)) (.slice (some ⟨w.heap.size, 0, none⟩) 2 2) t2 t [(n, cs), (n', cs')] :=
  ⟨[u, u'], Blk.new w 2 t2 #[u, u'], Each.cons (y := (n, cs)) (h.alloc _) (Each.cons (y := (n', cs')) (h'.alloc _) Each.nil)⟩
theorem Box.sl {w : World} {g : Nat} {t : TypeId} {cs : Array Value} (h : Box w g t cs) (n s : Nat) (hn : cs.size = n * s) (hm : n ≤ 140737488355328) : Sl w w.heap.size s (some ⟨g, 0, none⟩) n n cs.toList := by
  refine ⟨by simpa using hn, Nat.le_refl _, by unfold maxLen; omega, hm, fun h => (by cases h), fun _ a hA => ?_, fun a j u hA hu => ?_⟩
  · injection hA with hA
    subst hA
    exact h.lt
  · injection hA with hA
    subst hA
    rw [head_add, h.cell]
    simpa using hu
theorem Blk.rd {α : Type} {f : α → List Value} {s : Nat} {w : World} {v : Value} {n : Nat} {t : TypeId} {cs : Array Value} (h : Blk w v n t cs) (l : List α) (hcs : cs = (l.flatMap f).toArray) (hf : ∀ x, (f x).length = s) (hn : n = l.length) (hl : n ≤ 100000) : RdF f s w w.heap.size v l := by
  obtain ⟨g, rfl, hb⟩ := h
  subst hn
  subst hcs
  refine ⟨_, _, rfl, ?_⟩
  have := hb.sl l.length s (by rw [List.size_toArray, flat_len hf]) (by omega)
  simpa using this
theorem BlkV.rd {α : Type} {f : α → List Value} {s : Nat} {w : World} {v : Value} {t2 t : TypeId} {css : List (Nat × Array Value)} (h : BlkV w v t2 t css) (l : List (List α)) (hl : css = l.map fun r => (r.length, (r.flatMap f).toArray)) (hf : ∀ x, (f x).length = s) (hn : l.length ≤ 100000) (hr : ∀ r ∈ l, r.length ≤ 100000) : RdE (RdF f s) w w.heap.size v l := by
  obtain ⟨us, ⟨g, rfl, hb⟩, he⟩ := h
  subst hl
  have hlen : us.length = l.length := by have := he.len; simpa using this
  have hs := hb.sl us.length 1 (by simp) (by omega)
  refine ⟨_, _, us, by rw [hlen], by rw [hlen] at hs; simpa using hs, ?_⟩
  refine ⟨hlen, fun i u r hu hr2 => ?_⟩
  have h1 := he.at_ i u (r.length, (r.flatMap f).toArray) hu (by rw [List.getElem?_map, hr2]; rfl)
  exact Blk.rd h1 r rfl hf rfl (hr r (List.mem_of_getElem? hr2))
end Go.Proofs.YtgiemhooeoakmaaDoor

namespace Go.Proofs.YtgiemhooeoakmaaDoor
open Go.RowKit Go.ChangeShapes Go.WideShapes
set_option linter.unusedVariables false
set_option linter.unusedSimpArgs false

def exA : List Col := [⟨⟨#[105, 100]⟩, 2, false⟩]
def exB : List Col := [⟨⟨#[105, 100]⟩, 2, false⟩, ⟨⟨#[120]⟩, 1, false⟩]
def exTA : VTab := [[⟨2, ⟨#[]⟩, 1, false⟩], [⟨2, ⟨#[]⟩, 2, false⟩]]
def exTB : VTab := [[⟨2, ⟨#[]⟩, 2, false⟩, ⟨1, ⟨#[113]⟩, 0, false⟩]]
def exOn : List OnP := [⟨⟨#[105, 100]⟩, ⟨#[105, 100]⟩⟩]
theorem num23_any (n : Int) (w : World) : Calls Tryd.prog 72 #[.int .i64 n] w fun e w' => e = .returned (.agg #[.int .i64 2, .string ⟨#[]⟩, .int .i64 n, .bool false]) ∧ w' = w.alloc (.cells #[.int .i64 2, .string ⟨#[]⟩, .int .i64 n, .bool false] 96) := by
  refine cps fun R HR => ?_
  have X := Box.new w 96 #[.int .i64 2, .string ⟨#[]⟩, .int .i64 n, .bool false]
  have c0 := X.cell 0
  have c1 := X.cell 1
  have c2 := X.cell 2
  have c3 := X.cell 3
  simp at c0 c1 c2 c3
  clear X
  go_enter Tryd.func72, Tryd.ntmps72
  go_wp2
  refine bodyPost_ret (v := .agg #[.int .i64 2, .string ⟨#[]⟩, .int .i64 n, .bool false]) (by simp [results, Tryd.results72, go_sem, c0, c1, c2, c3]) rfl (HR.out _ _ ⟨rfl, rfl⟩)
set_option maxHeartbeats 16000000 in
set_option maxRecDepth 100000 in
theorem awake23_any (w : World) (hT : Tab w) : Calls Tryd.prog 26 #[] w fun e w' => e = .returned (.bool true) ∧ Below w.heap.size w w' := by
  refine cps fun R HR => ?_
  have E1 := Lib.hid (show joinE exA exB exTA exTB exOn 1 = 0 ∧ rowsJ exA exB exTA exTB exOn 1 = [[⟨2, ⟨#[]⟩, 2, false⟩, ⟨1, ⟨#[113]⟩, 0, false⟩]] by decide +kernel)
  have E2 := Lib.hid (show joinE exA exB exTA exTB exOn 2 = 0 ∧ rowsJ exA exB exTA exTB exOn 2 = [[⟨2, ⟨#[]⟩, 1, false⟩, ⟨0, ⟨#[]⟩, 0, false⟩], [⟨2, ⟨#[]⟩, 2, false⟩, ⟨1, ⟨#[113]⟩, 0, false⟩]] ∧ colsJ exA exB exOn 2 = [⟨⟨#[105, 100]⟩, 2, false⟩, ⟨⟨#[120]⟩, 1, true⟩] by decide +kernel)
  obtain ⟨w0, hw0⟩ : ∃ w0, w0 = w.alloc (.cells #[.string ⟨#[105, 100]⟩, .int .i64 2, .bool false] 99) := ⟨_, rfl⟩
  have bw0 : Below w.heap.size w w0 := by rw [hw0]; exact (Below.refl _ _).alloc (Nat.le_refl _) _
  have X := Box.new w 99 #[.string ⟨#[105, 100]⟩, .int .i64 2, .bool false]
  rw [← hw0] at X
  obtain ⟨g, hg⟩ : ∃ g, g = w.heap.size := ⟨_, rfl⟩
  rw [← hg] at X
  have mk : ∀ w', Below w0.heap.size w0 w' → w'.cell? ⟨g, 0, none⟩ = some (.string ⟨#[105, 100]⟩) ∧ w'.cell? ⟨g, 1, none⟩ = some (.int .i64 2) ∧ w'.cell? ⟨g, 2, none⟩ = some (.bool false) ∧ Below w0.heap.size w0 w' := fun w' hb => by
    have X2 := X.below hb X.lt
    exact ⟨X2.cell 0, X2.cell 1, X2.cell 2, hb⟩
  have MK := Lib.hid mk; have HW0 := Lib.hid hw0; have HB0 := Lib.hid bw0; have HT := Lib.hid hT; have HG := Lib.hid hg
  clear X hw0 bw0 hT mk
  go_enter Tryd.func26, Tryd.ntmps26
  go_upto_region 3 with fail
  rw [← HW0.out, ← hg]
  clear hg
  refine wp_region_ord (fun L a wI => ∃ v3 v11 v12 v13 v14 v15 v16 v17 v18 v19 v20 : Value, a = ⟨List.toArray ((.bool false) :: (.pointer (some ⟨g, 0, none⟩)) :: (.func (.func 72) #[] #[]) :: v3 :: undef :: undef :: undef :: undef :: undef :: undef :: (.agg #[.string ⟨#[105, 100]⟩, .int .i64 2, .bool false]) :: v11 :: v12 :: v13 :: v14 :: v15 :: v16 :: v17 :: v18 :: v19 :: v20 :: undef :: undef :: undef :: undef :: undef :: undef :: undef :: undef :: undef :: undef :: undef :: undef :: undef :: undef :: undef :: undef :: undef :: undef :: undef :: undef :: undef :: undef :: undef :: undef :: undef :: undef :: undef :: undef :: undef :: undef :: undef :: undef :: undef :: undef :: undef :: undef :: undef :: undef :: undef :: undef :: undef :: undef :: undef :: undef :: undef :: undef :: undef :: undef :: undef :: undef :: undef :: undef :: undef :: undef :: undef :: undef :: undef :: undef :: undef :: undef :: undef :: undef :: undef :: undef :: undef :: undef :: undef :: undef :: undef :: undef :: []), []⟩ ∧ (Below w0.heap.size w0 wI) ∧ (L 0 = true → v11 = .agg #[.string ⟨#[105, 100]⟩, .int .i64 2, .bool false]) ∧ (L 1 = true → Blk wI v12 1 99 #[.string ⟨#[105, 100]⟩, .int .i64 2, .bool false]) ∧ (L 2 = true → v13 = .func (.func 72) #[] #[]) ∧ (L 3 = true → v14 = .agg #[.int .i64 2, .string ⟨#[]⟩, .int .i64 1, .bool false]) ∧ (L 4 = true → Blk wI v15 1 96 #[.int .i64 2, .string ⟨#[]⟩, .int .i64 1, .bool false]) ∧ (L 5 = true → v16 = .func (.func 72) #[] #[]) ∧ (L 6 = true → v17 = .agg #[.int .i64 2, .string ⟨#[]⟩, .int .i64 2, .bool false]) ∧ (L 7 = true → Blk wI v18 1 96 #[.int .i64 2, .string ⟨#[]⟩, .int .i64 2, .bool false]) ∧ (L 8 = true → BlkV wI v19 61 96 [(1, #[.int .i64 2, .string ⟨#[]⟩, .int .i64 1, .bool false]), (1, #[.int .i64 2, .string ⟨#[]⟩, .int .i64 2, .bool false])]) ∧ (L 9 = true → ∃ u1 u2, v20 = .agg #[u1, u2] ∧ Blk wI u1 1 99 #[.string ⟨#[105, 100]⟩, .int .i64 2, .bool false] ∧ BlkV wI u2 61 96 [(1, #[.int .i64 2, .string ⟨#[]⟩, .int .i64 1, .bool false]), (1, #[.int .i64 2, .string ⟨#[]⟩, .int .i64 2, .bool false])]) ∧ (L 10 = true → ∃ g1, v3 = .pointer (some ⟨g1, 0, none⟩) ∧ w0.heap.size ≤ g1 ∧ (L 11 = false → Box wI g1 25 #[.slice none 0 0, .slice none 0 0])) ∧ (L 11 = true → (∀ j, j < 11 → L j = true) ∧ ∃ g1 u1 u2, v3 = .pointer (some ⟨g1, 0, none⟩) ∧ w0.heap.size ≤ g1 ∧ Box wI g1 25 #[u1, u2] ∧ Blk wI u1 1 99 #[.string ⟨#[105, 100]⟩, .int .i64 2, .bool false] ∧ BlkV wI u2 61 96 [(1, #[.int .i64 2, .string ⟨#[]⟩, .int .i64 1, .bool false]), (1, #[.int .i64 2, .string ⟨#[]⟩, .int .i64 2, .bool false])])) (by kernel_rfl) (by kernel_rfl) ⟨_, _, _, _, _, _, _, _, _, _, _, rfl, (Below.refl _ _).drew, (fun h => absurd h Bool.false_ne_true), (fun h => absurd h Bool.false_ne_true), (fun h => absurd h Bool.false_ne_true), (fun h => absurd h Bool.false_ne_true), (fun h => absurd h Bool.false_ne_true), (fun h => absurd h Bool.false_ne_true), (fun h => absurd h Bool.false_ne_true), (fun h => absurd h Bool.false_ne_true), (fun h => absurd h Bool.false_ne_true), (fun h => absurd h Bool.false_ne_true), (fun h => absurd h Bool.false_ne_true), (fun h => absurd h Bool.false_ne_true)⟩ (fun L L' a w h hI => by have e : L = L' := funext h; subst e; exact hI) ?_ ?_
  · refine ordStep_cons (fun L a wI hI hi hp K hK => ?_) ?_
    · obtain ⟨v3, v11, v12, v13, v14, v15, v16, v17, v18, v19, v20, rfl, hB, d0, d1, d2, d3, d4, d5, d6, d7, d8, d9, d10, d11⟩ := hI
      have HK := Lib.hid hK
      clear hK
      have HP := Lib.hid hp
      clear hp
      obtain ⟨s0, s1, s2⟩ := MK.out wI hB
      go_simp
      refine HK.out _ _ ?_
      exact ⟨_, _, _, _, _, _, _, _, _, _, _, rfl, hB, (fun _ => rfl), (fun h => (d1 (mark_ne (by decide) h))), (fun h => (d2 (mark_ne (by decide) h))), (fun h => (d3 (mark_ne (by decide) h))), (fun h => (d4 (mark_ne (by decide) h))), (fun h => (d5 (mark_ne (by decide) h))), (fun h => (d6 (mark_ne (by decide) h))), (fun h => (d7 (mark_ne (by decide) h))), (fun h => (d8 (mark_ne (by decide) h))), (fun h => (d9 (mark_ne (by decide) h))), (fun h => (let ⟨q, q1, q2, q3⟩ := (d10 (mark_ne (by decide) h)); ⟨q, q1, q2, fun h => q3 (mark_off (by decide) h)⟩)), (fun h => absurd (((d11 (mark_ne (by decide) h))).1 0 (by decide)) (by rw [hi]; decide))⟩
    refine ordStep_cons (fun L a wI hI hi hp K hK => ?_) ?_
    · obtain ⟨v3, v11, v12, v13, v14, v15, v16, v17, v18, v19, v20, rfl, hB, d0, d1, d2, d3, d4, d5, d6, d7, d8, d9, d10, d11⟩ := hI
      have HK := Lib.hid hK
      clear hK
      have p0 := d0 (hp ⟨0, .data⟩ (by simp) rfl)
      have HP := Lib.hid hp
      clear hp
      subst p0
      go_simp
      refine HK.out _ _ ?_
      exact ⟨_, _, _, _, _, _, _, _, _, _, _, rfl, hB.alloc hB.size _, (fun h => (d0 (mark_ne (by decide) h))), (fun _ => Blk.new _ _ _ _), (fun h => (d2 (mark_ne (by decide) h))), (fun h => (d3 (mark_ne (by decide) h))), (fun h => (d4 (mark_ne (by decide) h)).alloc _), (fun h => (d5 (mark_ne (by decide) h))), (fun h => (d6 (mark_ne (by decide) h))), (fun h => (d7 (mark_ne (by decide) h)).alloc _), (fun h => (d8 (mark_ne (by decide) h)).alloc _), (fun h => (let ⟨q1, q2, q3, q4, q5⟩ := (d9 (mark_ne (by decide) h)); ⟨q1, q2, q3, q4.alloc _, q5.alloc _⟩)), (fun h => (let ⟨q, q1, q2, q3⟩ := (d10 (mark_ne (by decide) h)); ⟨q, q1, q2, fun h => (q3 (mark_off (by decide) h)).alloc _⟩)), (fun h => absurd (((d11 (mark_ne (by decide) h))).1 1 (by decide)) (by rw [hi]; decide))⟩
    refine ordStep_cons (fun L a wI hI hi hp K hK => ?_) ?_
    · obtain ⟨v3, v11, v12, v13, v14, v15, v16, v17, v18, v19, v20, rfl, hB, d0, d1, d2, d3, d4, d5, d6, d7, d8, d9, d10, d11⟩ := hI
      have HK := Lib.hid hK
      clear hK
      have HP := Lib.hid hp
      clear hp
      go_simp
      refine HK.out _ _ ?_
      exact ⟨_, _, _, _, _, _, _, _, _, _, _, rfl, hB, (fun h => (d0 (mark_ne (by decide) h))), (fun h => (d1 (mark_ne (by decide) h))), (fun _ => rfl), (fun h => (d3 (mark_ne (by decide) h))), (fun h => (d4 (mark_ne (by decide) h))), (fun h => (d5 (mark_ne (by decide) h))), (fun h => (d6 (mark_ne (by decide) h))), (fun h => (d7 (mark_ne (by decide) h))), (fun h => (d8 (mark_ne (by decide) h))), (fun h => (d9 (mark_ne (by decide) h))), (fun h => (let ⟨q, q1, q2, q3⟩ := (d10 (mark_ne (by decide) h)); ⟨q, q1, q2, fun h => q3 (mark_off (by decide) h)⟩)), (fun h => absurd (((d11 (mark_ne (by decide) h))).1 2 (by decide)) (by rw [hi]; decide))⟩
    refine ordStep_cons (fun L a wI hI hi hp K hK => ?_) ?_
    · obtain ⟨v3, v11, v12, v13, v14, v15, v16, v17, v18, v19, v20, rfl, hB, d0, d1, d2, d3, d4, d5, d6, d7, d8, d9, d10, d11⟩ := hI
      have HK := Lib.hid hK
      clear hK
      have p2 := d2 (hp ⟨2, .data⟩ (by simp) rfl)
      have HP := Lib.hid hp
      clear hp
      subst p2
      go_simp
      go_at_call 72
      refine (num23_any 1 _).mono ?_
      rintro e w8 ⟨rfl, rfl⟩
      refine HK.out _ _ ?_
      exact ⟨_, _, _, _, _, _, _, _, _, _, _, rfl, hB.alloc hB.size _, (fun h => (d0 (mark_ne (by decide) h))), (fun h => (d1 (mark_ne (by decide) h)).alloc _), (fun h => (d2 (mark_ne (by decide) h))), (fun _ => rfl), (fun h => (d4 (mark_ne (by decide) h)).alloc _), (fun h => (d5 (mark_ne (by decide) h))), (fun h => (d6 (mark_ne (by decide) h))), (fun h => (d7 (mark_ne (by decide) h)).alloc _), (fun h => (d8 (mark_ne (by decide) h)).alloc _), (fun h => (let ⟨q1, q2, q3, q4, q5⟩ := (d9 (mark_ne (by decide) h)); ⟨q1, q2, q3, q4.alloc _, q5.alloc _⟩)), (fun h => (let ⟨q, q1, q2, q3⟩ := (d10 (mark_ne (by decide) h)); ⟨q, q1, q2, fun h => (q3 (mark_off (by decide) h)).alloc _⟩)), (fun h => absurd (((d11 (mark_ne (by decide) h))).1 3 (by decide)) (by rw [hi]; decide))⟩
    refine ordStep_cons (fun L a wI hI hi hp K hK => ?_) ?_
    · obtain ⟨v3, v11, v12, v13, v14, v15, v16, v17, v18, v19, v20, rfl, hB, d0, d1, d2, d3, d4, d5, d6, d7, d8, d9, d10, d11⟩ := hI
      have HK := Lib.hid hK
      clear hK
      have p3 := d3 (hp ⟨3, .data⟩ (by simp) rfl)
      have HP := Lib.hid hp
      clear hp
      subst p3
      go_simp
      refine HK.out _ _ ?_
      exact ⟨_, _, _, _, _, _, _, _, _, _, _, rfl, hB.alloc hB.size _, (fun h => (d0 (mark_ne (by decide) h))), (fun h => (d1 (mark_ne (by decide) h)).alloc _), (fun h => (d2 (mark_ne (by decide) h))), (fun h => (d3 (mark_ne (by decide) h))), (fun _ => Blk.new _ _ _ _), (fun h => (d5 (mark_ne (by decide) h))), (fun h => (d6 (mark_ne (by decide) h))), (fun h => (d7 (mark_ne (by decide) h)).alloc _), (fun h => (d8 (mark_ne (by decide) h)).alloc _), (fun h => (let ⟨q1, q2, q3, q4, q5⟩ := (d9 (mark_ne (by decide) h)); ⟨q1, q2, q3, q4.alloc _, q5.alloc _⟩)), (fun h => (let ⟨q, q1, q2, q3⟩ := (d10 (mark_ne (by decide) h)); ⟨q, q1, q2, fun h => (q3 (mark_off (by decide) h)).alloc _⟩)), (fun h => absurd (((d11 (mark_ne (by decide) h))).1 4 (by decide)) (by rw [hi]; decide))⟩
    refine ordStep_cons (fun L a wI hI hi hp K hK => ?_) ?_
    · obtain ⟨v3, v11, v12, v13, v14, v15, v16, v17, v18, v19, v20, rfl, hB, d0, d1, d2, d3, d4, d5, d6, d7, d8, d9, d10, d11⟩ := hI
      have HK := Lib.hid hK
      clear hK
      have HP := Lib.hid hp
      clear hp
      go_simp
      refine HK.out _ _ ?_
      exact ⟨_, _, _, _, _, _, _, _, _, _, _, rfl, hB, (fun h => (d0 (mark_ne (by decide) h))), (fun h => (d1 (mark_ne (by decide) h))), (fun h => (d2 (mark_ne (by decide) h))), (fun h => (d3 (mark_ne (by decide) h))), (fun h => (d4 (mark_ne (by decide) h))), (fun _ => rfl), (fun h => (d6 (mark_ne (by decide) h))), (fun h => (d7 (mark_ne (by decide) h))), (fun h => (d8 (mark_ne (by decide) h))), (fun h => (d9 (mark_ne (by decide) h))), (fun h => (let ⟨q, q1, q2, q3⟩ := (d10 (mark_ne (by decide) h)); ⟨q, q1, q2, fun h => q3 (mark_off (by decide) h)⟩)), (fun h => absurd (((d11 (mark_ne (by decide) h))).1 5 (by decide)) (by rw [hi]; decide))⟩
    refine ordStep_cons (fun L a wI hI hi hp K hK => ?_) ?_
    · obtain ⟨v3, v11, v12, v13, v14, v15, v16, v17, v18, v19, v20, rfl, hB, d0, d1, d2, d3, d4, d5, d6, d7, d8, d9, d10, d11⟩ := hI
      have HK := Lib.hid hK
      clear hK
      have p5 := d5 (hp ⟨5, .data⟩ (by simp) rfl)
      have HP := Lib.hid hp
      clear hp
      subst p5
      go_simp
      go_at_call 72
      refine (num23_any 2 _).mono ?_
      rintro e w8 ⟨rfl, rfl⟩
      refine HK.out _ _ ?_
      exact ⟨_, _, _, _, _, _, _, _, _, _, _, rfl, hB.alloc hB.size _, (fun h => (d0 (mark_ne (by decide) h))), (fun h => (d1 (mark_ne (by decide) h)).alloc _), (fun h => (d2 (mark_ne (by decide) h))), (fun h => (d3 (mark_ne (by decide) h))), (fun h => (d4 (mark_ne (by decide) h)).alloc _), (fun h => (d5 (mark_ne (by decide) h))), (fun _ => rfl), (fun h => (d7 (mark_ne (by decide) h)).alloc _), (fun h => (d8 (mark_ne (by decide) h)).alloc _), (fun h => (let ⟨q1, q2, q3, q4, q5⟩ := (d9 (mark_ne (by decide) h)); ⟨q1, q2, q3, q4.alloc _, q5.alloc _⟩)), (fun h => (let ⟨q, q1, q2, q3⟩ := (d10 (mark_ne (by decide) h)); ⟨q, q1, q2, fun h => (q3 (mark_off (by decide) h)).alloc _⟩)), (fun h => absurd (((d11 (mark_ne (by decide) h))).1 6 (by decide)) (by rw [hi]; decide))⟩
    refine ordStep_cons (fun L a wI hI hi hp K hK => ?_) ?_
    · obtain ⟨v3, v11, v12, v13, v14, v15, v16, v17, v18, v19, v20, rfl, hB, d0, d1, d2, d3, d4, d5, d6, d7, d8, d9, d10, d11⟩ := hI
      have HK := Lib.hid hK
      clear hK
      have p6 := d6 (hp ⟨6, .data⟩ (by simp) rfl)
      have HP := Lib.hid hp
      clear hp
      subst p6
      go_simp
      refine HK.out _ _ ?_
      exact ⟨_, _, _, _, _, _, _, _, _, _, _, rfl, hB.alloc hB.size _, (fun h => (d0 (mark_ne (by decide) h))), (fun h => (d1 (mark_ne (by decide) h)).alloc _), (fun h => (d2 (mark_ne (by decide) h))), (fun h => (d3 (mark_ne (by decide) h))), (fun h => (d4 (mark_ne (by decide) h)).alloc _), (fun h => (d5 (mark_ne (by decide) h))), (fun h => (d6 (mark_ne (by decide) h))), (fun _ => Blk.new _ _ _ _), (fun h => (d8 (mark_ne (by decide) h)).alloc _), (fun h => (let ⟨q1, q2, q3, q4, q5⟩ := (d9 (mark_ne (by decide) h)); ⟨q1, q2, q3, q4.alloc _, q5.alloc _⟩)), (fun h => (let ⟨q, q1, q2, q3⟩ := (d10 (mark_ne (by decide) h)); ⟨q, q1, q2, fun h => (q3 (mark_off (by decide) h)).alloc _⟩)), (fun h => absurd (((d11 (mark_ne (by decide) h))).1 7 (by decide)) (by rw [hi]; decide))⟩
    refine ordStep_cons (fun L a wI hI hi hp K hK => ?_) ?_
    · obtain ⟨v3, v11, v12, v13, v14, v15, v16, v17, v18, v19, v20, rfl, hB, d0, d1, d2, d3, d4, d5, d6, d7, d8, d9, d10, d11⟩ := hI
      have HK := Lib.hid hK
      clear hK
      have p4 := d4 (hp ⟨4, .data⟩ (by simp) rfl)
      have p7 := d7 (hp ⟨7, .data⟩ (by simp) rfl)
      have HP := Lib.hid hp
      clear hp
      obtain ⟨b4, rfl, -⟩ := id p4
      obtain ⟨b7, rfl, -⟩ := id p7
      go_simp
      refine HK.out _ _ ?_
      exact ⟨_, _, _, _, _, _, _, _, _, _, _, rfl, hB.alloc hB.size _, (fun h => (d0 (mark_ne (by decide) h))), (fun h => (d1 (mark_ne (by decide) h)).alloc _), (fun h => (d2 (mark_ne (by decide) h))), (fun h => (d3 (mark_ne (by decide) h))), (fun h => (d4 (mark_ne (by decide) h)).alloc _), (fun h => (d5 (mark_ne (by decide) h))), (fun h => (d6 (mark_ne (by decide) h))), (fun h => (d7 (mark_ne (by decide) h)).alloc _), (fun _ => BlkV.new2 p4 p7), (fun h => (let ⟨q1, q2, q3, q4, q5⟩ := (d9 (mark_ne (by decide) h)); ⟨q1, q2, q3, q4.alloc _, q5.alloc _⟩)), (fun h => (let ⟨q, q1, q2, q3⟩ := (d10 (mark_ne (by decide) h)); ⟨q, q1, q2, fun h => (q3 (mark_off (by decide) h)).alloc _⟩)), (fun h => absurd (((d11 (mark_ne (by decide) h))).1 8 (by decide)) (by rw [hi]; decide))⟩
    refine ordStep_cons (fun L a wI hI hi hp K hK => ?_) ?_
    · obtain ⟨v3, v11, v12, v13, v14, v15, v16, v17, v18, v19, v20, rfl, hB, d0, d1, d2, d3, d4, d5, d6, d7, d8, d9, d10, d11⟩ := hI
      have HK := Lib.hid hK
      clear hK
      have p1 := d1 (hp ⟨1, .data⟩ (by simp) rfl)
      have p8 := d8 (hp ⟨8, .data⟩ (by simp) rfl)
      have HP := Lib.hid hp
      clear hp
      obtain ⟨b1, rfl, -⟩ := id p1
      have p8b := p8
      obtain ⟨us, ⟨b8, rfl, -⟩, -⟩ := id p8
      go_simp
      refine HK.out _ _ ?_
      exact ⟨_, _, _, _, _, _, _, _, _, _, _, rfl, hB, (fun h => (d0 (mark_ne (by decide) h))), (fun h => (d1 (mark_ne (by decide) h))), (fun h => (d2 (mark_ne (by decide) h))), (fun h => (d3 (mark_ne (by decide) h))), (fun h => (d4 (mark_ne (by decide) h))), (fun h => (d5 (mark_ne (by decide) h))), (fun h => (d6 (mark_ne (by decide) h))), (fun h => (d7 (mark_ne (by decide) h))), (fun h => (d8 (mark_ne (by decide) h))), (fun _ => ⟨_, _, rfl, p1, p8⟩), (fun h => (let ⟨q, q1, q2, q3⟩ := (d10 (mark_ne (by decide) h)); ⟨q, q1, q2, fun h => q3 (mark_off (by decide) h)⟩)), (fun h => absurd (((d11 (mark_ne (by decide) h))).1 9 (by decide)) (by rw [hi]; decide))⟩
    refine ordStep_cons (fun L a wI hI hi hp K hK => ?_) ?_
    · obtain ⟨v3, v11, v12, v13, v14, v15, v16, v17, v18, v19, v20, rfl, hB, d0, d1, d2, d3, d4, d5, d6, d7, d8, d9, d10, d11⟩ := hI
      have HK := Lib.hid hK
      clear hK
      have HP := Lib.hid hp
      clear hp
      go_simp
      refine HK.out _ _ ?_
      exact ⟨_, _, _, _, _, _, _, _, _, _, _, rfl, hB.alloc hB.size _, (fun h => (d0 (mark_ne (by decide) h))), (fun h => (d1 (mark_ne (by decide) h)).alloc _), (fun h => (d2 (mark_ne (by decide) h))), (fun h => (d3 (mark_ne (by decide) h))), (fun h => (d4 (mark_ne (by decide) h)).alloc _), (fun h => (d5 (mark_ne (by decide) h))), (fun h => (d6 (mark_ne (by decide) h))), (fun h => (d7 (mark_ne (by decide) h)).alloc _), (fun h => (d8 (mark_ne (by decide) h)).alloc _), (fun h => (let ⟨q1, q2, q3, q4, q5⟩ := (d9 (mark_ne (by decide) h)); ⟨q1, q2, q3, q4.alloc _, q5.alloc _⟩)), (fun _ => ⟨_, rfl, hB.size, fun _ => Box.new _ _ _⟩), (fun h => absurd (((d11 (mark_ne (by decide) h))).1 10 (by decide)) (by rw [hi]; decide))⟩
    refine ordStep_cons (fun L a wI hI hi hp K hK => ?_) ?_
    · obtain ⟨v3, v11, v12, v13, v14, v15, v16, v17, v18, v19, v20, rfl, hB, d0, d1, d2, d3, d4, d5, d6, d7, d8, d9, d10, d11⟩ := hI
      have HK := Lib.hid hK
      clear hK
      have p10 := d10 (hp ⟨10, .data⟩ (by simp) rfl)
      have p9 := d9 (hp ⟨9, .data⟩ (by simp) rfl)
      have hall : ∀ j, j < 11 → L j = true := fun j hj => match j, hj with
        | 0, _ => hp ⟨0, .phase⟩ (by simp) rfl
        | 1, _ => hp ⟨1, .phase⟩ (by simp) rfl
        | 2, _ => hp ⟨2, .phase⟩ (by simp) rfl
        | 3, _ => hp ⟨3, .phase⟩ (by simp) rfl
        | 4, _ => hp ⟨4, .phase⟩ (by simp) rfl
        | 5, _ => hp ⟨5, .phase⟩ (by simp) rfl
        | 6, _ => hp ⟨6, .phase⟩ (by simp) rfl
        | 7, _ => hp ⟨7, .phase⟩ (by simp) rfl
        | 8, _ => hp ⟨8, .phase⟩ (by simp) rfl
        | 9, _ => hp ⟨9, .phase⟩ (by simp) rfl
        | 10, _ => hp ⟨10, .phase⟩ (by simp) rfl
        | k + 11, h => absurd h (by omega)
      have HALL := Lib.hid hall
      clear hall
      have HP := Lib.hid hp
      clear hp
      obtain ⟨g1, rfl, hg1, hb1⟩ := p10
      have hb2 := hb1 hi
      obtain ⟨u1, u2, rfl, f1, f2⟩ := p9
      obtain ⟨q1, rfl, -⟩ := id f1
      obtain ⟨us, ⟨q2, rfl, -⟩, -⟩ := id f2
      have x0 := hb2.cell 0
      have x1 := hb2.cell 1
      have y0 := hb2.frozen 0
      have y1 := hb2.frozen 1
      simp at x0 x1 y0 y1
      go_simp
      refine HK.out _ _ ?_
      exact ⟨_, _, _, _, _, _, _, _, _, _, _, rfl, (hB.setCell hg1 _).setCell hg1 _, (fun h => (d0 (mark_ne (by decide) h))), (fun h => (((d1 (mark_ne (by decide) h)).away hb2 (by decide) 0 _).away (hb2.put 0 _) (by decide) 1 _)), (fun h => (d2 (mark_ne (by decide) h))), (fun h => (d3 (mark_ne (by decide) h))), (fun h => (((d4 (mark_ne (by decide) h)).away hb2 (by decide) 0 _).away (hb2.put 0 _) (by decide) 1 _)), (fun h => (d5 (mark_ne (by decide) h))), (fun h => (d6 (mark_ne (by decide) h))), (fun h => (((d7 (mark_ne (by decide) h)).away hb2 (by decide) 0 _).away (hb2.put 0 _) (by decide) 1 _)), (fun h => (((d8 (mark_ne (by decide) h)).away hb2 (by decide) (by decide) 0 _).away (hb2.put 0 _) (by decide) (by decide) 1 _)), (fun h => ⟨_, _, rfl, ((f1.away hb2 (by decide) 0 _).away (hb2.put 0 _) (by decide) 1 _), ((f2.away hb2 (by decide) (by decide) 0 _).away (hb2.put 0 _) (by decide) (by decide) 1 _)⟩), (fun h => ⟨_, rfl, hg1, fun h => mark_self h⟩), (fun _ => ⟨fun j hj => by unfold mark; split <;> first | rfl | exact HALL.out j hj, g1, _, _, rfl, hg1, (hb2.put 0 _).put 1 _, ((f1.away hb2 (by decide) 0 _).away (hb2.put 0 _) (by decide) 1 _), ((f2.away hb2 (by decide) (by decide) 0 _).away (hb2.put 0 _) (by decide) (by decide) 1 _)⟩)⟩
    exact ordStep_nil
  · intro L a wI hL hI
    obtain ⟨v3, v11, v12, v13, v14, v15, v16, v17, v18, v19, v20, rfl, hB, d0, d1, d2, d3, d4, d5, d6, d7, d8, d9, d10, d11⟩ := hI
    obtain ⟨-, ga, ua, ub, rfl, hga, hba, fa1, fa2⟩ := d11 (hL 11 (by decide))
    have HD := Lib.hid (And.intro hB (And.intro hga (And.intro hba (And.intro fa1 fa2))))
    clear hB hga hba fa1 fa2 d0 d1 d2 d3 d4 d5 d6 d7 d8 d9 d10 d11 hL L
    obtain ⟨w3, hw3⟩ : ∃ w3, w3 = wI := ⟨_, rfl⟩
    subst hw3
    go_upto_region 4 with fail
    refine wp_region_ord (fun L a wI => ∃ v4 v21 v22 v23 v24 v25 v26 v27 v28 v29 : Value, a = ⟨List.toArray ((.bool false) :: (.pointer (some ⟨g, 0, none⟩)) :: (.func (.func 72) #[] #[]) :: (.pointer (some ⟨ga, 0, none⟩)) :: v4 :: undef :: undef :: undef :: undef :: undef :: (.agg #[.string ⟨#[105, 100]⟩, .int .i64 2, .bool false]) :: v11 :: v12 :: v13 :: v14 :: v15 :: v16 :: v17 :: v18 :: v19 :: v20 :: v21 :: v22 :: v23 :: v24 :: v25 :: v26 :: v27 :: v28 :: v29 :: undef :: undef :: undef :: undef :: undef :: undef :: undef :: undef :: undef :: undef :: undef :: undef :: undef :: undef :: undef :: undef :: undef :: undef :: undef :: undef :: undef :: undef :: undef :: undef :: undef :: undef :: undef :: undef :: undef :: undef :: undef :: undef :: undef :: undef :: undef :: undef :: undef :: undef :: undef :: undef :: undef :: undef :: undef :: undef :: undef :: undef :: undef :: undef :: undef :: undef :: undef :: undef :: undef :: undef :: undef :: undef :: undef :: undef :: undef :: undef :: undef :: []), []⟩ ∧ (Below w3.heap.size w3 wI) ∧ (L 0 = true → v21 = .agg #[.string ⟨#[105, 100]⟩, .int .i64 2, .bool false]) ∧ (L 1 = true → v22 = .agg #[.string ⟨#[120]⟩, .int .i64 1, .bool false]) ∧ (L 2 = true → Blk wI v23 2 99 #[.string ⟨#[105, 100]⟩, .int .i64 2, .bool false, .string ⟨#[120]⟩, .int .i64 1, .bool false]) ∧ (L 3 = true → v24 = .func (.func 72) #[] #[]) ∧ (L 4 = true → v25 = .agg #[.int .i64 2, .string ⟨#[]⟩, .int .i64 2, .bool false]) ∧ (L 5 = true → v26 = .agg #[.int .i64 1, .string ⟨#[113]⟩, .int .i64 0, .bool false]) ∧ (L 6 = true → Blk wI v27 2 96 #[.int .i64 2, .string ⟨#[]⟩, .int .i64 2, .bool false, .int .i64 1, .string ⟨#[113]⟩, .int .i64 0, .bool false]) ∧ (L 7 = true → BlkV wI v28 61 96 [(2, #[.int .i64 2, .string ⟨#[]⟩, .int .i64 2, .bool false, .int .i64 1, .string ⟨#[113]⟩, .int .i64 0, .bool false])]) ∧ (L 8 = true → ∃ u1 u2, v29 = .agg #[u1, u2] ∧ Blk wI u1 2 99 #[.string ⟨#[105, 100]⟩, .int .i64 2, .bool false, .string ⟨#[120]⟩, .int .i64 1, .bool false] ∧ BlkV wI u2 61 96 [(2, #[.int .i64 2, .string ⟨#[]⟩, .int .i64 2, .bool false, .int .i64 1, .string ⟨#[113]⟩, .int .i64 0, .bool false])]) ∧ (L 9 = true → ∃ g1, v4 = .pointer (some ⟨g1, 0, none⟩) ∧ w3.heap.size ≤ g1 ∧ (L 10 = false → Box wI g1 25 #[.slice none 0 0, .slice none 0 0])) ∧ (L 10 = true → (∀ j, j < 10 → L j = true) ∧ ∃ g1 u1 u2, v4 = .pointer (some ⟨g1, 0, none⟩) ∧ w3.heap.size ≤ g1 ∧ Box wI g1 25 #[u1, u2] ∧ Blk wI u1 2 99 #[.string ⟨#[105, 100]⟩, .int .i64 2, .bool false, .string ⟨#[120]⟩, .int .i64 1, .bool false] ∧ BlkV wI u2 61 96 [(2, #[.int .i64 2, .string ⟨#[]⟩, .int .i64 2, .bool false, .int .i64 1, .string ⟨#[113]⟩, .int .i64 0, .bool false])])) (by kernel_rfl) (by kernel_rfl) ⟨_, _, _, _, _, _, _, _, _, _, rfl, (Below.refl _ _).drew, (fun h => absurd h Bool.false_ne_true), (fun h => absurd h Bool.false_ne_true), (fun h => absurd h Bool.false_ne_true), (fun h => absurd h Bool.false_ne_true), (fun h => absurd h Bool.false_ne_true), (fun h => absurd h Bool.false_ne_true), (fun h => absurd h Bool.false_ne_true), (fun h => absurd h Bool.false_ne_true), (fun h => absurd h Bool.false_ne_true), (fun h => absurd h Bool.false_ne_true), (fun h => absurd h Bool.false_ne_true)⟩ (fun L L' a w h hI => by have e : L = L' := funext h; subst e; exact hI) ?_ ?_
    · refine ordStep_cons (fun L a wI hI hi hp K hK => ?_) ?_
      · obtain ⟨v4, v21, v22, v23, v24, v25, v26, v27, v28, v29, rfl, hB, d0, d1, d2, d3, d4, d5, d6, d7, d8, d9, d10⟩ := hI
        have HK := Lib.hid hK
        clear hK
        have HP := Lib.hid hp
        clear hp
        obtain ⟨s0, s1, s2⟩ := MK.out wI (HD.out.1.trans (hB.mono HD.out.1.size))
        go_simp
        refine HK.out _ _ ?_
        exact ⟨_, _, _, _, _, _, _, _, _, _, rfl, hB, (fun _ => rfl), (fun h => (d1 (mark_ne (by decide) h))), (fun h => (d2 (mark_ne (by decide) h))), (fun h => (d3 (mark_ne (by decide) h))), (fun h => (d4 (mark_ne (by decide) h))), (fun h => (d5 (mark_ne (by decide) h))), (fun h => (d6 (mark_ne (by decide) h))), (fun h => (d7 (mark_ne (by decide) h))), (fun h => (d8 (mark_ne (by decide) h))), (fun h => (let ⟨q, q1, q2, q3⟩ := (d9 (mark_ne (by decide) h)); ⟨q, q1, q2, fun h => q3 (mark_off (by decide) h)⟩)), (fun h => absurd (((d10 (mark_ne (by decide) h))).1 0 (by decide)) (by rw [hi]; decide))⟩
      refine ordStep_cons (fun L a wI hI hi hp K hK => ?_) ?_
      · obtain ⟨v4, v21, v22, v23, v24, v25, v26, v27, v28, v29, rfl, hB, d0, d1, d2, d3, d4, d5, d6, d7, d8, d9, d10⟩ := hI
        have HK := Lib.hid hK
        clear hK
        have HP := Lib.hid hp
        clear hp
        go_simp
        refine HK.out _ _ ?_
        exact ⟨_, _, _, _, _, _, _, _, _, _, rfl, hB, (fun h => (d0 (mark_ne (by decide) h))), (fun _ => rfl), (fun h => (d2 (mark_ne (by decide) h))), (fun h => (d3 (mark_ne (by decide) h))), (fun h => (d4 (mark_ne (by decide) h))), (fun h => (d5 (mark_ne (by decide) h))), (fun h => (d6 (mark_ne (by decide) h))), (fun h => (d7 (mark_ne (by decide) h))), (fun h => (d8 (mark_ne (by decide) h))), (fun h => (let ⟨q, q1, q2, q3⟩ := (d9 (mark_ne (by decide) h)); ⟨q, q1, q2, fun h => q3 (mark_off (by decide) h)⟩)), (fun h => absurd (((d10 (mark_ne (by decide) h))).1 1 (by decide)) (by rw [hi]; decide))⟩
      refine ordStep_cons (fun L a wI hI hi hp K hK => ?_) ?_
      · obtain ⟨v4, v21, v22, v23, v24, v25, v26, v27, v28, v29, rfl, hB, d0, d1, d2, d3, d4, d5, d6, d7, d8, d9, d10⟩ := hI
        have HK := Lib.hid hK
        clear hK
        have p0 := d0 (hp ⟨0, .data⟩ (by simp) rfl)
        have p1 := d1 (hp ⟨1, .data⟩ (by simp) rfl)
        have HP := Lib.hid hp
        clear hp
        subst p0
        subst p1
        go_simp
        refine HK.out _ _ ?_
        exact ⟨_, _, _, _, _, _, _, _, _, _, rfl, hB.alloc hB.size _, (fun h => (d0 (mark_ne (by decide) h))), (fun h => (d1 (mark_ne (by decide) h))), (fun _ => Blk.new _ _ _ _), (fun h => (d3 (mark_ne (by decide) h))), (fun h => (d4 (mark_ne (by decide) h))), (fun h => (d5 (mark_ne (by decide) h))), (fun h => (d6 (mark_ne (by decide) h)).alloc _), (fun h => (d7 (mark_ne (by decide) h)).alloc _), (fun h => (let ⟨q1, q2, q3, q4, q5⟩ := (d8 (mark_ne (by decide) h)); ⟨q1, q2, q3, q4.alloc _, q5.alloc _⟩)), (fun h => (let ⟨q, q1, q2, q3⟩ := (d9 (mark_ne (by decide) h)); ⟨q, q1, q2, fun h => (q3 (mark_off (by decide) h)).alloc _⟩)), (fun h => absurd (((d10 (mark_ne (by decide) h))).1 2 (by decide)) (by rw [hi]; decide))⟩
      refine ordStep_cons (fun L a wI hI hi hp K hK => ?_) ?_
      · obtain ⟨v4, v21, v22, v23, v24, v25, v26, v27, v28, v29, rfl, hB, d0, d1, d2, d3, d4, d5, d6, d7, d8, d9, d10⟩ := hI
        have HK := Lib.hid hK
        clear hK
        have HP := Lib.hid hp
        clear hp
        go_simp
        refine HK.out _ _ ?_
        exact ⟨_, _, _, _, _, _, _, _, _, _, rfl, hB, (fun h => (d0 (mark_ne (by decide) h))), (fun h => (d1 (mark_ne (by decide) h))), (fun h => (d2 (mark_ne (by decide) h))), (fun _ => rfl), (fun h => (d4 (mark_ne (by decide) h))), (fun h => (d5 (mark_ne (by decide) h))), (fun h => (d6 (mark_ne (by decide) h))), (fun h => (d7 (mark_ne (by decide) h))), (fun h => (d8 (mark_ne (by decide) h))), (fun h => (let ⟨q, q1, q2, q3⟩ := (d9 (mark_ne (by decide) h)); ⟨q, q1, q2, fun h => q3 (mark_off (by decide) h)⟩)), (fun h => absurd (((d10 (mark_ne (by decide) h))).1 3 (by decide)) (by rw [hi]; decide))⟩
      refine ordStep_cons (fun L a wI hI hi hp K hK => ?_) ?_
      · obtain ⟨v4, v21, v22, v23, v24, v25, v26, v27, v28, v29, rfl, hB, d0, d1, d2, d3, d4, d5, d6, d7, d8, d9, d10⟩ := hI
        have HK := Lib.hid hK
        clear hK
        have p3 := d3 (hp ⟨3, .data⟩ (by simp) rfl)
        have HP := Lib.hid hp
        clear hp
        subst p3
        go_simp
        go_at_call 72
        refine (num23_any 2 _).mono ?_
        rintro e w8 ⟨rfl, rfl⟩
        refine HK.out _ _ ?_
        exact ⟨_, _, _, _, _, _, _, _, _, _, rfl, hB.alloc hB.size _, (fun h => (d0 (mark_ne (by decide) h))), (fun h => (d1 (mark_ne (by decide) h))), (fun h => (d2 (mark_ne (by decide) h)).alloc _), (fun h => (d3 (mark_ne (by decide) h))), (fun _ => rfl), (fun h => (d5 (mark_ne (by decide) h))), (fun h => (d6 (mark_ne (by decide) h)).alloc _), (fun h => (d7 (mark_ne (by decide) h)).alloc _), (fun h => (let ⟨q1, q2, q3, q4, q5⟩ := (d8 (mark_ne (by decide) h)); ⟨q1, q2, q3, q4.alloc _, q5.alloc _⟩)), (fun h => (let ⟨q, q1, q2, q3⟩ := (d9 (mark_ne (by decide) h)); ⟨q, q1, q2, fun h => (q3 (mark_off (by decide) h)).alloc _⟩)), (fun h => absurd (((d10 (mark_ne (by decide) h))).1 4 (by decide)) (by rw [hi]; decide))⟩
      refine ordStep_cons (fun L a wI hI hi hp K hK => ?_) ?_
      · obtain ⟨v4, v21, v22, v23, v24, v25, v26, v27, v28, v29, rfl, hB, d0, d1, d2, d3, d4, d5, d6, d7, d8, d9, d10⟩ := hI
        have HK := Lib.hid hK
        clear hK
        have HP := Lib.hid hp
        clear hp
        go_simp
        refine HK.out _ _ ?_
        exact ⟨_, _, _, _, _, _, _, _, _, _, rfl, hB, (fun h => (d0 (mark_ne (by decide) h))), (fun h => (d1 (mark_ne (by decide) h))), (fun h => (d2 (mark_ne (by decide) h))), (fun h => (d3 (mark_ne (by decide) h))), (fun h => (d4 (mark_ne (by decide) h))), (fun _ => rfl), (fun h => (d6 (mark_ne (by decide) h))), (fun h => (d7 (mark_ne (by decide) h))), (fun h => (d8 (mark_ne (by decide) h))), (fun h => (let ⟨q, q1, q2, q3⟩ := (d9 (mark_ne (by decide) h)); ⟨q, q1, q2, fun h => q3 (mark_off (by decide) h)⟩)), (fun h => absurd (((d10 (mark_ne (by decide) h))).1 5 (by decide)) (by rw [hi]; decide))⟩
      refine ordStep_cons (fun L a wI hI hi hp K hK => ?_) ?_
      · obtain ⟨v4, v21, v22, v23, v24, v25, v26, v27, v28, v29, rfl, hB, d0, d1, d2, d3, d4, d5, d6, d7, d8, d9, d10⟩ := hI
        have HK := Lib.hid hK
        clear hK
        have p4 := d4 (hp ⟨4, .data⟩ (by simp) rfl)
        have p5 := d5 (hp ⟨5, .data⟩ (by simp) rfl)
        have HP := Lib.hid hp
        clear hp
        subst p4
        subst p5
        go_simp
        refine HK.out _ _ ?_
        exact ⟨_, _, _, _, _, _, _, _, _, _, rfl, hB.alloc hB.size _, (fun h => (d0 (mark_ne (by decide) h))), (fun h => (d1 (mark_ne (by decide) h))), (fun h => (d2 (mark_ne (by decide) h)).alloc _), (fun h => (d3 (mark_ne (by decide) h))), (fun h => (d4 (mark_ne (by decide) h))), (fun h => (d5 (mark_ne (by decide) h))), (fun _ => Blk.new _ _ _ _), (fun h => (d7 (mark_ne (by decide) h)).alloc _), (fun h => (let ⟨q1, q2, q3, q4, q5⟩ := (d8 (mark_ne (by decide) h)); ⟨q1, q2, q3, q4.alloc _, q5.alloc _⟩)), (fun h => (let ⟨q, q1, q2, q3⟩ := (d9 (mark_ne (by decide) h)); ⟨q, q1, q2, fun h => (q3 (mark_off (by decide) h)).alloc _⟩)), (fun h => absurd (((d10 (mark_ne (by decide) h))).1 6 (by decide)) (by rw [hi]; decide))⟩
      refine ordStep_cons (fun L a wI hI hi hp K hK => ?_) ?_
      · obtain ⟨v4, v21, v22, v23, v24, v25, v26, v27, v28, v29, rfl, hB, d0, d1, d2, d3, d4, d5, d6, d7, d8, d9, d10⟩ := hI
        have HK := Lib.hid hK
        clear hK
        have p6 := d6 (hp ⟨6, .data⟩ (by simp) rfl)
        have HP := Lib.hid hp
        clear hp
        obtain ⟨b6, rfl, -⟩ := id p6
        go_simp
        refine HK.out _ _ ?_
        exact ⟨_, _, _, _, _, _, _, _, _, _, rfl, hB.alloc hB.size _, (fun h => (d0 (mark_ne (by decide) h))), (fun h => (d1 (mark_ne (by decide) h))), (fun h => (d2 (mark_ne (by decide) h)).alloc _), (fun h => (d3 (mark_ne (by decide) h))), (fun h => (d4 (mark_ne (by decide) h))), (fun h => (d5 (mark_ne (by decide) h))), (fun h => (d6 (mark_ne (by decide) h)).alloc _), (fun _ => BlkV.new1 p6), (fun h => (let ⟨q1, q2, q3, q4, q5⟩ := (d8 (mark_ne (by decide) h)); ⟨q1, q2, q3, q4.alloc _, q5.alloc _⟩)), (fun h => (let ⟨q, q1, q2, q3⟩ := (d9 (mark_ne (by decide) h)); ⟨q, q1, q2, fun h => (q3 (mark_off (by decide) h)).alloc _⟩)), (fun h => absurd (((d10 (mark_ne (by decide) h))).1 7 (by decide)) (by rw [hi]; decide))⟩
      refine ordStep_cons (fun L a wI hI hi hp K hK => ?_) ?_
      · obtain ⟨v4, v21, v22, v23, v24, v25, v26, v27, v28, v29, rfl, hB, d0, d1, d2, d3, d4, d5, d6, d7, d8, d9, d10⟩ := hI
        have HK := Lib.hid hK
        clear hK
        have p2 := d2 (hp ⟨2, .data⟩ (by simp) rfl)
        have p7 := d7 (hp ⟨7, .data⟩ (by simp) rfl)
        have HP := Lib.hid hp
        clear hp
        obtain ⟨b2, rfl, -⟩ := id p2
        obtain ⟨us, ⟨b7, rfl, -⟩, -⟩ := id p7
        go_simp
        refine HK.out _ _ ?_
        exact ⟨_, _, _, _, _, _, _, _, _, _, rfl, hB, (fun h => (d0 (mark_ne (by decide) h))), (fun h => (d1 (mark_ne (by decide) h))), (fun h => (d2 (mark_ne (by decide) h))), (fun h => (d3 (mark_ne (by decide) h))), (fun h => (d4 (mark_ne (by decide) h))), (fun h => (d5 (mark_ne (by decide) h))), (fun h => (d6 (mark_ne (by decide) h))), (fun h => (d7 (mark_ne (by decide) h))), (fun _ => ⟨_, _, rfl, p2, p7⟩), (fun h => (let ⟨q, q1, q2, q3⟩ := (d9 (mark_ne (by decide) h)); ⟨q, q1, q2, fun h => q3 (mark_off (by decide) h)⟩)), (fun h => absurd (((d10 (mark_ne (by decide) h))).1 8 (by decide)) (by rw [hi]; decide))⟩
      refine ordStep_cons (fun L a wI hI hi hp K hK => ?_) ?_
      · obtain ⟨v4, v21, v22, v23, v24, v25, v26, v27, v28, v29, rfl, hB, d0, d1, d2, d3, d4, d5, d6, d7, d8, d9, d10⟩ := hI
        have HK := Lib.hid hK
        clear hK
        have HP := Lib.hid hp
        clear hp
        go_simp
        refine HK.out _ _ ?_
        exact ⟨_, _, _, _, _, _, _, _, _, _, rfl, hB.alloc hB.size _, (fun h => (d0 (mark_ne (by decide) h))), (fun h => (d1 (mark_ne (by decide) h))), (fun h => (d2 (mark_ne (by decide) h)).alloc _), (fun h => (d3 (mark_ne (by decide) h))), (fun h => (d4 (mark_ne (by decide) h))), (fun h => (d5 (mark_ne (by decide) h))), (fun h => (d6 (mark_ne (by decide) h)).alloc _), (fun h => (d7 (mark_ne (by decide) h)).alloc _), (fun h => (let ⟨q1, q2, q3, q4, q5⟩ := (d8 (mark_ne (by decide) h)); ⟨q1, q2, q3, q4.alloc _, q5.alloc _⟩)), (fun _ => ⟨_, rfl, hB.size, fun _ => Box.new _ _ _⟩), (fun h => absurd (((d10 (mark_ne (by decide) h))).1 9 (by decide)) (by rw [hi]; decide))⟩
      refine ordStep_cons (fun L a wI hI hi hp K hK => ?_) ?_
      · obtain ⟨v4, v21, v22, v23, v24, v25, v26, v27, v28, v29, rfl, hB, d0, d1, d2, d3, d4, d5, d6, d7, d8, d9, d10⟩ := hI
        have HK := Lib.hid hK
        clear hK
        have p9 := d9 (hp ⟨9, .data⟩ (by simp) rfl)
        have p8 := d8 (hp ⟨8, .data⟩ (by simp) rfl)
        have hall : ∀ j, j < 10 → L j = true := fun j hj => match j, hj with
          | 0, _ => hp ⟨0, .phase⟩ (by simp) rfl
          | 1, _ => hp ⟨1, .phase⟩ (by simp) rfl
          | 2, _ => hp ⟨2, .phase⟩ (by simp) rfl
          | 3, _ => hp ⟨3, .phase⟩ (by simp) rfl
          | 4, _ => hp ⟨4, .phase⟩ (by simp) rfl
          | 5, _ => hp ⟨5, .phase⟩ (by simp) rfl
          | 6, _ => hp ⟨6, .phase⟩ (by simp) rfl
          | 7, _ => hp ⟨7, .phase⟩ (by simp) rfl
          | 8, _ => hp ⟨8, .phase⟩ (by simp) rfl
          | 9, _ => hp ⟨9, .phase⟩ (by simp) rfl
          | k + 10, h => absurd h (by omega)
        have HALL := Lib.hid hall
        clear hall
        have HP := Lib.hid hp
        clear hp
        obtain ⟨g1, rfl, hg1, hb1⟩ := p9
        have hb2 := hb1 hi
        obtain ⟨u1, u2, rfl, f1, f2⟩ := p8
        obtain ⟨q1, rfl, -⟩ := id f1
        obtain ⟨us, ⟨q2, rfl, -⟩, -⟩ := id f2
        have x0 := hb2.cell 0
        have x1 := hb2.cell 1
        have y0 := hb2.frozen 0
        have y1 := hb2.frozen 1
        simp at x0 x1 y0 y1
        go_simp
        refine HK.out _ _ ?_
        exact ⟨_, _, _, _, _, _, _, _, _, _, rfl, (hB.setCell hg1 _).setCell hg1 _, (fun h => (d0 (mark_ne (by decide) h))), (fun h => (d1 (mark_ne (by decide) h))), (fun h => (((d2 (mark_ne (by decide) h)).away hb2 (by decide) 0 _).away (hb2.put 0 _) (by decide) 1 _)), (fun h => (d3 (mark_ne (by decide) h))), (fun h => (d4 (mark_ne (by decide) h))), (fun h => (d5 (mark_ne (by decide) h))), (fun h => (((d6 (mark_ne (by decide) h)).away hb2 (by decide) 0 _).away (hb2.put 0 _) (by decide) 1 _)), (fun h => (((d7 (mark_ne (by decide) h)).away hb2 (by decide) (by decide) 0 _).away (hb2.put 0 _) (by decide) (by decide) 1 _)), (fun h => ⟨_, _, rfl, ((f1.away hb2 (by decide) 0 _).away (hb2.put 0 _) (by decide) 1 _), ((f2.away hb2 (by decide) (by decide) 0 _).away (hb2.put 0 _) (by decide) (by decide) 1 _)⟩), (fun h => ⟨_, rfl, hg1, fun h => mark_self h⟩), (fun _ => ⟨fun j hj => by unfold mark; split <;> first | rfl | exact HALL.out j hj, g1, _, _, rfl, hg1, (hb2.put 0 _).put 1 _, ((f1.away hb2 (by decide) 0 _).away (hb2.put 0 _) (by decide) 1 _), ((f2.away hb2 (by decide) (by decide) 0 _).away (hb2.put 0 _) (by decide) (by decide) 1 _)⟩)⟩
      exact ordStep_nil
    · intro L a wI hL hI
      obtain ⟨v4, v21, v22, v23, v24, v25, v26, v27, v28, v29, rfl, hB, d0, d1, d2, d3, d4, d5, d6, d7, d8, d9, d10⟩ := hI
      obtain ⟨-, gb, uc, ud, rfl, hgb, hbb, fc1, fc2⟩ := d10 (hL 10 (by decide))
      have q0 := HD.out.1.trans (hB.mono HD.out.1.size)
      have hba := HD.out.2.2.1.below hB HD.out.2.2.1.lt
      have fa1 := HD.out.2.2.2.1.below hB
      have fa2 := HD.out.2.2.2.2.below hB
      have ra1 := fa1.rd (f := colV) (s := 3) exA rfl colV_len rfl (by decide)
      have ra2 := fa2.rd (f := valV) (s := 4) exTA rfl valV_len (by decide) (by decide)
      have rb1 := fc1.rd (f := colV) (s := 3) exB rfl colV_len rfl (by decide)
      have rb2 := fc2.rd (f := valV) (s := 4) exTB rfl valV_len (by decide) (by decide)
      obtain ⟨ia, rfl, -⟩ := id fa1
      obtain ⟨va, ⟨ja, rfl, -⟩, -⟩ := id fa2
      obtain ⟨ic, rfl, -⟩ := id fc1
      obtain ⟨vc, ⟨jc, rfl, -⟩, -⟩ := id fc2
      have bw4 := HB0.out.trans (q0.mono HB0.out.size)
      clear hgb fc1 fc2 fa1 fa2 hB d0 d1 d2 d3 d4 d5 d6 d7 d8 d9 d10 hL L q0 HD MK
      obtain ⟨w4, hw4⟩ : ∃ w4, w4 = wI := ⟨_, rfl⟩
      subst hw4
      obtain ⟨w5, hw5⟩ : ∃ w5, w5 = w4.alloc (.cells #[.string ⟨#[105, 100]⟩, .string ⟨#[105, 100]⟩] 125) := ⟨_, rfl⟩
      have b5 : Below w4.heap.size w4 w5 := by rw [hw5]; exact (Below.refl _ _).alloc (Nat.le_refl _) _
      have ro : RdOn w5 w5.heap.size (.slice (some ⟨w4.heap.size, 0, none⟩) 1 1) exOn := by
        rw [hw5]
        exact RdF.new (f := onV) (s := 2) w4 exOn 125 1 _ rfl onV_len rfl (by omega)
      have bw5 := bw4.trans (b5.mono bw4.size)
      have A5 := hba.below b5 hba.lt
      have B5 := hbb.below b5 hbb.lt
      have x0 := A5.cell 0
      have x1 := A5.cell 1
      have y0 := B5.cell 0
      have y1 := B5.cell 1
      simp at x0 x1 y0 y1
      rw [hw5] at x0 x1 y0 y1
      have HW5 := Lib.hid hw5; have A := Lib.hid A5; have B := Lib.hid B5
      have RA1 := Lib.hid (RdF.next ra1 b5); have RA2 := Lib.hid (RdE.next (RdF.stays valV 4) ra2 b5); have RB1 := Lib.hid (RdF.next rb1 b5); have RB2 := Lib.hid (RdE.next (RdF.stays valV 4) rb2 b5); have RO := Lib.hid ro
      clear hw5 A5 B5 hba hbb ra1 ra2 rb1 rb2 ro
      go_wp2_with fail
      rw [← HW5.out]
      refine (join_any _ _ _ _ _ exA exB exTA exTB exOn 1 _ RA1.out RA2.out RB1.out RB2.out RO.out (by decide) (by decide) (by decide) (by decide) (by decide) (by decide) (by decide) (HT.out.below bw5)).mono ?_
      rintro e w6 ⟨⟨p, r, rfl, hp, hr⟩, b6⟩
      rw [E1.out.1] at hp hr
      rw [E1.out.1]
      rw [if_pos rfl] at hp hr
      rw [E1.out.2] at hr
      have bw6 := bw5.trans (b6.mono bw5.size)
      have hp0 := hp
      have hr0 := hr
      obtain ⟨pA, pc, rfl, -⟩ := hp.is
      obtain ⟨rA, rc, rvs, rfl, -, -⟩ := hr.is
      clear hp hr x0 x1 y0 y1
      obtain ⟨w7, hw7⟩ : ∃ w7, w7 = w6.alloc (.cells #[.slice pA (colsJ exA exB exOn 1).length pc, .slice rA 1 rc] 25) := ⟨_, rfl⟩
      have b7 : Below w6.heap.size w6 w7 := by rw [hw7]; exact (Below.refl _ _).alloc (Nat.le_refl _) _
      have X7 := Box.new w6 25 #[.slice pA (colsJ exA exB exOn 1).length pc, .slice rA 1 rc]
      rw [← hw7] at X7
      have bw7 := bw6.trans (b7.mono bw6.size)
      have b57 := b6.trans (b7.mono b6.size)
      have A7 := A.out.below b57 A.out.lt
      have B7 := B.out.below b57 B.out.lt
      have x0 := A7.cell 0
      have x1 := A7.cell 1
      have y0 := B7.cell 0
      have y1 := B7.cell 1
      simp at x0 x1 y0 y1
      rw [hw7] at x0 x1 y0 y1
      have HW7 := Lib.hid hw7; have HX := Lib.hid X7; have HR0 := Lib.hid hr0
      clear hw7 X7 A7 B7 hr0 hp0
      go_wp2_with fail
      try simp only [List.length_cons, List.length_nil]
      rw [← HW7.out]
      refine (join_any _ _ _ _ _ exA exB exTA exTB exOn 2 _ (RdF.next RA1.out b57) (RdE.next (RdF.stays valV 4) RA2.out b57) (RdF.next RB1.out b57) (RdE.next (RdF.stays valV 4) RB2.out b57) (RdF.next RO.out b57) (by decide) (by decide) (by decide) (by decide) (by decide) (by decide) (by decide) (HT.out.below bw7)).mono ?_
      rintro e w8 ⟨⟨p2, r2, rfl, hp, hr⟩, b8⟩
      rw [E2.out.1] at hp hr
      rw [E2.out.1]
      rw [if_pos rfl] at hp hr
      rw [E2.out.2.1] at hr
      rw [E2.out.2.2] at hp
      have bw8 := bw7.trans (b8.mono bw7.size)
      have hp0 := hp
      have hr0 := hr
      obtain ⟨p2A, p2c, rfl, -⟩ := hp.is
      obtain ⟨r2A, r2c, rvs2, rfl, -, -⟩ := hr.is
      clear hp hr x0 x1 y0 y1
      obtain ⟨w9, hw9⟩ : ∃ w9, w9 = w8.alloc (.cells #[.slice p2A 2 p2c, .slice r2A 2 r2c] 25) := ⟨_, rfl⟩
      have b9 : Below w8.heap.size w8 w9 := by rw [hw9]; exact (Below.refl _ _).alloc (Nat.le_refl _) _
      have X9 := Box.new w8 25 #[.slice p2A 2 p2c, .slice r2A 2 r2c]
      rw [← hw9] at X9
      have bw9 := bw8.trans (b9.mono bw8.size)
      have b79 := b8.trans (b9.mono b8.size)
      have Y9 := HX.out.below b79 HX.out.lt
      have r1 := RdE.next (RdF.stays valV 4) HR0.out (b7.trans (b79.mono b7.size))
      have r2 := RdE.next (RdF.stays valV 4) hr0 b9
      have p2 := RdF.next hp0 b9
      obtain ⟨a1, d1, u1, hv, k1, s1⟩ := r1.at (k := 0) (by decide)
      injection hv with hA _ hcc
      subst hA
      subst hcc
      obtain ⟨a2, d2, rfl, -, m1, -, -⟩ := RdV.at s1 (k := 1) (by decide)
      obtain ⟨a3, d3, u3, hv, k3, s3⟩ := r2.at (k := 0) (by decide)
      injection hv with hA _ hcc
      subst hA
      subst hcc
      obtain ⟨a4, d4, rfl, m4, -, -, -⟩ := RdV.at s3 (k := 1) (by decide)
      obtain ⟨a5, d5, hv, -, -, n5⟩ := RdC.at p2 (k := 1) (by decide)
      injection hv with hA _ hcc
      subst hA
      subst hcc
      have X1 := Y9.cell 1
      have Z0 := X9.cell 0
      have Z1 := X9.cell 1
      simp [Addr.add] at k1 m1 k3 m4 n5 X1 Z0 Z1
      rw [hw9] at k1 m1 k3 m4 n5 X1 Z0 Z1 bw9
      clear hw9 X9 Y9 r1 r2 p2 hp0 hr0 s1 s3
      go_wp2
      exact HR.out _ _ ⟨rfl, bw9⟩
end Go.Proofs.YtgiemhooeoakmaaDoor


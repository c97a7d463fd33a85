/- Steps of a drawn region that is walked by hand. A region that draws its order, by what each operation makes true: the order does not matter. Slices that are whole blocks; what an allocation or a store elsewhere leaves. -/
import Derived.RegionTactic
import Derived.BigCall
import Derived.Lib.Hide
import Derived.Test.YtgiemhooeoakmaaDoorKA
import Derived.Test.YtgiemhooeoakmaaDoorKE
namespace Go.Proofs.YtgiemhooeoakmaaDoor
open Go.RowKit
set_option linter.unusedVariables false
set_option linter.unusedSimpArgs false

/-- A call of a Go function, by its contract. -/
theorem wp_call_ex {P : Program} {o : Oper} {a : Act} {w : World} {K : Act → World → Prop} {Q : Exit → Act → World → Prop} {f : FuncId} {args : Array Value} {R : Value → World → Prop}
    (ho : (execOp a.eval o).run P w = .ok (.enter f args) w) (hc : Calls P f args w fun e w' => ∃ v, e = .returned v ∧ R v w') (h : ∀ v w', R v w' → K (a.put o.dst v) w') : Oper.wp P o a w K Q := by
  unfold Oper.wp
  rw [ho]
  exact hc.mono fun e w' ⟨v, he, hr⟩ => by subst he; exact h v w' hr
theorem run_callFunc_go {P : Program} {f : FuncId} {fn : Func} (h : P.funcs[f]? = some fn) (hn : (fn.name == "runtime.NumGoroutine") = false) (hb : fn.body.isNone = false) (args : Array Value) (w : World) : (callFunc f args).run P w = .ok (.enter f args) w := by
  have hn2 : fn.name ≠ "runtime.NumGoroutine" := by simpa using hn
  have hb2 : fn.body ≠ none := by intro e; rw [e] at hb; cases hb
  unfold callFunc
  simp [h, hn2, hb2]
theorem wp_call_go {P : Program} {a : Act} {w : World} {K : Act → World → Prop} {Q : Exit → Act → World → Prop} {f : FuncId} {fn : Func} {args : Array Value} {R : Value → World → Prop} {dst : Option Tmp} {xs : Array Operand} {ats : Array TypeId} {ty : TypeId} {pos : String} {after : Array Edge} {guard : Option (Nat × Bool)}
    (hf : P.funcs[f]? = some fn) (hn : (fn.name == "runtime.NumGoroutine") = false) (hb : fn.body.isNone = false) (hx : xs.map a.eval = args) (hc : Calls P f args w fun e w' => ∃ v, e = .returned v ∧ R v w') (h : ∀ v w', R v w' → K (a.put dst v) w') :
    Oper.wp P { dst, op := .call { callee := .value (.func f), args := xs, argTypes := ats }, type := ty, pos, after, guard } a w K Q :=
  wp_call_ex (by rw [execOp_call_go, run_callFunc_go hf hn hb]; simp [hx]) hc h
theorem wp_append_lit {P : Program} {a : Act} {w : World} {K : Act → World → Prop} {Q : Exit → Act → World → Prop} {s x : Operand} {t ty : TypeId} {dst : Option Tmp} {pos : String} {after : Array Edge} {guard : Option (Nat × Bool)}
    (base : Nat) (e : TypeId) (i : TypeInfo) (z : Value) (size bytes : Nat) (ht : P.underlying t = some (.slice e)) (hi : P.info? e = some i) (hz : i.zero = some z)
    (hsize : i.size = size) (hby : i.bytes = bytes) (hzs : z.cells.size = size) (hsz : 0 < size) (hbp : 0 < bytes)
    (v : Value) (n : Nat) (xs : List Value) (hown : Own w base e size v n xs)
    (B : Nat) (A : Option Addr) (m c : Nat) (news : List Value) (hr : Sl w B size A m c news) (h1 : ∀ u ∈ news, u.oneCell' = true)
    (h63 : n + m ≤ maxLen) (hbytes : (n + m) * bytes ≤ 140737488355328) (hbase : base ≤ w.heap.size) (hs : a.eval s = v) (hx : a.eval x = .slice A m c)
    (h : ∀ v' w', Own w' base e size v' (n + m) (xs ++ news) → w.grownBy w' v.ownBlock → (v'.ownBlock = v.ownBlock ∨ ∃ g, v'.ownBlock = some g ∧ w.heap.size ≤ g) → K (a.put dst v') w') :
    Oper.wp P { dst, op := .call { callee := .builtin .append, args := #[s, x], argTypes := #[t, t] }, type := ty, pos, after, guard } a w K Q :=
  wp_append_Own w s x t rfl base e i z size bytes ht hi hz hsize hby hzs hsz hbp v n xs hs hown B A m c news hx hr h1 h63 hbytes hbase (fun v' w' q1 q2 q3 => h v' w' q1 q2 (by
    rcases q3 with q3 | q3
    · exact .inl q3
    · exact .inr ⟨_, q3, Nat.le_refl _⟩))
end Go.Proofs.YtgiemhooeoakmaaDoor

namespace Go.Proofs.YtgiemhooeoakmaaDoor
open Go.RowKit
set_option linter.unusedVariables false
set_option linter.unusedSimpArgs false

section
variable {P : Program} {ops : Array Oper} {Q : Exit → Act → World → Prop}

def mark (L : Nat → Bool) (i : Nat) : Nat → Bool := fun j => if j = i then true else L j
/-- What one operation makes of the state, whatever stands done already. -/
def OrdStep (P : Program) (ops : Array Oper) (Q : Exit → Act → World → Prop) (I : (Nat → Bool) → Act → World → Prop) (i : Nat) (o : Oper) : Prop :=
  ∀ (L : Nat → Bool) (a : Act) (w : World), I L a w → L i = false → (∀ e ∈ o.after, Region.binds .any e = true → L e.on = true) →
    ∀ K : Act → World → Prop, (∀ a' w', I (mark L i) a' w' → K a' w') → if Region.wanted o (yielded ops a.tmps) = true then Oper.wp P o a w K Q else K (a.put o.dst undef) w
def OrdSteps (P : Program) (ops : Array Oper) (Q : Exit → Act → World → Prop) (I : (Nat → Bool) → Act → World → Prop) : Nat → List Oper → Prop
  | _, [] => True
  | k, o :: r => OrdStep P ops Q I k o ∧ OrdSteps P ops Q I (k + 1) r
theorem OrdSteps.at {I : (Nat → Bool) → Act → World → Prop} : ∀ (l : List Oper) (k j : Nat) (o : Oper), OrdSteps P ops Q I k l → l[j]? = some o → OrdStep P ops Q I (k + j) o
  | [], k, j, o, h, ho => by simp at ho
  | x :: r, k, 0, o, h, ho => by simp at ho; subst ho; exact h.1
  | x :: r, k, j + 1, o, h, ho => by
    have := OrdSteps.at r (k + 1) j o h.2 (by simpa using ho)
    rw [show k + (j + 1) = k + 1 + j by omega]
    exact this
/-- Every operation waits for elder ones alone. -/
def ordFwd (ops : Array Oper) : Bool := (List.range ops.size).all fun i => match ops[i]? with
  | some o => o.after.all fun e => !Region.binds .any e || decide (e.on < i)
  | none => true
theorem ordFwd_at (h : ordFwd ops = true) {i : Nat} {o : Oper} (ho : ops[i]? = some o) : ∀ e ∈ o.after, Region.binds .any e = true → e.on < i := fun e he hb => by
  unfold ordFwd at h
  rw [List.all_eq_true] at h
  have h1 := h i (List.mem_range.2 (Array.getElem?_eq_some_iff.1 ho).1)
  rw [ho] at h1
  simp only [Array.all_eq_true_iff_forall_mem] at h1
  have h2 := h1 e he
  rw [hb] at h2
  simpa using h2
theorem ord_all {listed : Array Bool} (hz : listed.size = ops.size) (hf : ordFwd ops = true) (hr : Region.ready .any ops listed = []) : ∀ j, j < ops.size → listed.getD j false = true := by
  intro j
  induction j using Nat.strongRecOn with
  | ind j ih =>
    intro hj
    cases hl : listed.getD j true with
    | true => simpa [hz, hj] using hl
    | false =>
      have hm : j ∈ Region.ready .any ops listed := mem_ready.2 ⟨hl, ops[j], Array.getElem?_eq_getElem hj, fun e he hb => by
        have := ordFwd_at hf (Array.getElem?_eq_getElem hj) e he hb
        exact ih _ this (by omega)⟩
      rw [hr] at hm
      cases hm
theorem ord_any {I : (Nat → Bool) → Act → World → Prop} (hf : ordFwd ops = true) (hs : OrdSteps P ops Q I 0 ops.toList) (hc : ∀ L L' a w, (∀ j, L j = L' j) → I L a w → I L' a w)
    (hend : ∀ L a w, (∀ j, j < ops.size → L j = true) → I L a w → Q .normal a w) :
    ∀ (fuel : Nat) (listed : Array Bool) (a : Act) (w : World), listed.size = ops.size → (∃ U : List Nat, U.length ≤ fuel ∧ ∀ j, j < ops.size → listed.getD j true = false → j ∈ U) →
      I (fun j => listed.getD j false) a w → wpAny P .any ops Q fuel listed a w := by
  intro fuel
  induction fuel with
  | zero =>
    intro listed a w hz ⟨U, hU, hin⟩ hI
    have hU0 : U = [] := List.length_eq_zero_iff.1 (by omega)
    subst hU0
    have hr : Region.ready .any ops listed = [] := by
      cases h : Region.ready .any ops listed with
      | nil => rfl
      | cons i r =>
        have hm : i ∈ Region.ready .any ops listed := by rw [h]; exact List.mem_cons_self
        obtain ⟨h1, o, h2, -⟩ := mem_ready.1 hm
        exact absurd (hin i (Array.getElem?_eq_some_iff.1 h2).1 h1) (by simp)
    exact ⟨hr, hend _ _ _ (ord_all hz hf hr) hI⟩
  | succ fuel ih =>
    intro listed a w hz ⟨U, hU, hin⟩ hI
    refine ⟨fun hr => hend _ _ _ (ord_all hz hf hr) hI, fun i hi => ?_⟩
    obtain ⟨h1, o, h2, h3⟩ := mem_ready.1 hi
    have hlt := (Array.getElem?_eq_some_iff.1 h2).1
    have hst := OrdSteps.at ops.toList 0 i o hs (by simpa using h2)
    rw [Nat.zero_add] at hst
    have hl : listed.getD i false = false := by simpa [hz, hlt] using h1
    refine wpOp_step h2 fun K hK => hst (fun j => listed.getD j false) a w hI hl h3 K fun a' w' hI' => hK a' w' ?_
    refine ih (listed.setIfInBounds i true) a' w' (by simpa using hz) ⟨U.erase i, ?_, ?_⟩ ?_
    · have := List.length_erase_of_mem (hin i hlt h1)
      omega
    · intro j hj hlj
      have hne : j ≠ i := fun he => by
        subst he
        simp [hz, hj] at hlj
      rw [getD_set_ne true (Ne.symm hne)] at hlj
      exact (List.mem_erase_of_ne hne).2 (hin j hj hlj)
    · refine hc _ _ _ _ (fun j => ?_) hI'
      unfold mark
      by_cases hji : j = i
      · subst hji
        simp [hz, hlt]
      · rw [if_neg hji, getD_set_ne false (Ne.symm hji)]
/-- A region that draws its order, by an invariant. -/
theorem wp_region_ord {id : Nat} {a : Act} {w : World} (I : (Nat → Bool) → Act → World → Prop) (hm : P.follows .mixedOrders = true) (hf : ordFwd ops = true) (h0 : I (fun _ => false) a w.drew)
    (hc : ∀ L L' a w, (∀ j, L j = L' j) → I L a w → I L' a w) (hs : OrdSteps P ops Q I 0 ops.toList) (hend : ∀ L a w, (∀ j, j < ops.size → L j = true) → I L a w → Q .normal a w) : (Code.region id ops true).wp P Q a w :=
  wp_region_any hm (ord_any hf hs hc hend ops.size _ a _ (by simp) ⟨List.range ops.size, by simp, fun j hj _ => List.mem_range.2 hj⟩ (hc _ _ _ _ (fun j => by simp [Array.getElem?_replicate]; try (split <;> rfl)) h0))
end
end Go.Proofs.YtgiemhooeoakmaaDoor

namespace Go.Proofs.YtgiemhooeoakmaaDoor
open Go.RowKit Go.ChangeShapes Go.WideShapes
set_option linter.unusedVariables false
set_option linter.unusedSimpArgs false

theorem mark_ne {L : Nat → Bool} {i j : Nat} (h : j ≠ i) (hm : mark L i j = true) : L j = true := by unfold mark at hm; rwa [if_neg h] at hm
theorem mark_off {L : Nat → Bool} {i j : Nat} (h : j ≠ i) (hm : mark L i j = false) : L j = false := by unfold mark at hm; rwa [if_neg h] at hm
theorem mark_self {L : Nat → Bool} {i : Nat} (hm : mark L i i = false) {p : Prop} : p := by unfold mark at hm; rw [if_pos rfl] at hm; cases hm
theorem ordStep_cons {P : Program} {ops : Array Oper} {Q : Exit → Act → World → Prop} {I : (Nat → Bool) → Act → World → Prop} {k : Nat} {o : Oper} {r : List Oper} (h : OrdStep P ops Q I k o) (t : OrdSteps P ops Q I (k + 1) r) : OrdSteps P ops Q I k (o :: r) := ⟨h, t⟩
theorem ordStep_nil {P : Program} {ops : Array Oper} {Q : Exit → Act → World → Prop} {I : (Nat → Bool) → Act → World → Prop} {k : Nat} : OrdSteps P ops Q I k [] := trivial

theorem Box.ne {w : World} {g g' : Nat} {t t' : TypeId} {cs cs' : Array Value} (h : Box w g t cs) (h' : Box w g' t' cs') (ht : t ≠ t') : g ≠ g' := fun e => by
  subst e
  have h1 := h.is.symm.trans h'.is
  injection h1 with h1
  injection h1 with _ h1
  exact ht h1
theorem Box.away {w : World} {g g' : Nat} {t t' : TypeId} {cs cs' : Array Value} (h : Box w g t cs) (h' : Box w g' t' cs') (ht : t ≠ t') (i : Nat) (u : Value) : Box (w.setCell ⟨g', i, none⟩ u) g t cs :=
  ⟨(setCell_block w g' i u g (h.ne h' ht)).trans h.is⟩
/-- A slice that is a whole block. -/
def Blk (w : World) (v : Value) (n : Nat) (t : TypeId) (cs : Array Value) : Prop := ∃ g, v = .slice (some ⟨g, 0, none⟩) n n ∧ Box w g t cs
theorem Blk.new (w : World) (n : Nat) (t : TypeId) (cs : Array Value) : Blk (w.alloc (.cells cs t)) (.slice (some ⟨w.heap.size, 0, none⟩) n n) n t cs := ⟨_, rfl, Box.new _ _ _⟩
theorem Blk.alloc {w : World} {v : Value} {n : Nat} {t : TypeId} {cs : Array Value} (h : Blk w v n t cs) (o : Obj) : Blk (w.alloc o) v n t cs := by
  obtain ⟨g, h1, h2⟩ := h
  exact ⟨g, h1, h2.alloc o⟩
theorem Blk.below {w w' : World} {v : Value} {n : Nat} {t : TypeId} {cs : Array Value} (h : Blk w v n t cs) (b : Below w.heap.size w w') : Blk w' v n t cs := by
  obtain ⟨g, h1, h2⟩ := h
  exact ⟨g, h1, h2.below b h2.lt⟩
theorem Blk.away {w : World} {v : Value} {n : Nat} {t : TypeId} {cs : Array Value} (h : Blk w v n t cs) {g' : Nat} {t' : TypeId} {cs' : Array Value} (h' : Box w g' t' cs') (ht : t ≠ t') (i : Nat) (u : Value) : Blk (w.setCell ⟨g', i, none⟩ u) v n t cs := by
  obtain ⟨g, h1, h2⟩ := h
  exact ⟨g, h1, h2.away h' ht i u⟩
/-- A slice of such slices. -/
def BlkV (w : World) (v : Value) (t2 t : TypeId) (css : List (Nat × Array Value)) : Prop := ∃ us : List Value, Blk w v us.length t2 us.toArray ∧ Each (fun u c => Blk w u c.1 t c.2) us css
theorem BlkV.alloc {w : World} {v : Value} {t2 t : TypeId} {css : List (Nat × Array Value)} (h : BlkV w v t2 t css) (o : Obj) : BlkV (w.alloc o) v t2 t css := by
  obtain ⟨us, h1, h2⟩ := h
  exact ⟨us, h1.alloc o, h2.imp fun _ _ h => h.alloc o⟩
theorem BlkV.below {w w' : World} {v : Value} {t2 t : TypeId} {css : List (Nat × Array Value)} (h : BlkV w v t2 t css) (b : Below w.heap.size w w') : BlkV w' v t2 t css := by
  obtain ⟨us, h1, h2⟩ := h
  exact ⟨us, h1.below b, h2.imp fun _ _ h => h.below b⟩
theorem BlkV.away {w : World} {v : Value} {t2 t : TypeId} {css : List (Nat × Array Value)} (h : BlkV w v t2 t css) {g' : Nat} {t' : TypeId} {cs' : Array Value} (h' : Box w g' t' cs') (ht : t ≠ t') (ht2 : t2 ≠ t') (i : Nat) (u : Value) : BlkV (w.setCell ⟨g', i, none⟩ u) v t2 t css := by
  obtain ⟨us, h1, h2⟩ := h
  exact ⟨us, h1.away h' ht2 i u, h2.imp fun _ _ h => h.away h' ht i u⟩
theorem BlkV.new1 {w : World} {t2 t : TypeId} {u : Value} {n : Nat} {cs : Array Value} (h : Blk w u n t cs) : BlkV (w.alloc (.cells #[u] t2)) (.slice (some ⟨w.heap.size, 0, none⟩) 1 1) t2 t [(n, cs)] :=
  ⟨[u], Blk.new w 1 t2 #[u], Each.cons (y := (n, cs)) (h.alloc _) Each.nil⟩
theorem BlkV.new2 {w : World} {t2 t : TypeId} {u u' : Value} {n n' : Nat} {cs cs' : Array Value} (h : Blk w u n t cs) (h' : Blk w u' n' t cs') : BlkV (w.alloc (.cells #[u, u'] t2)) (.slice (some ⟨w.heap.size, 0, none⟩) 2 2) t2 t [(n, cs), (n', cs')] :=
  ⟨[u, u'], Blk.new w 2 t2 #[u, u'], Each.cons (y := (n, cs)) (h.alloc _) (Each.cons (y := (n', cs')) (h'.alloc _) Each.nil)⟩
theorem Box.sl {w : World} {g : Nat} {t : TypeId} {cs : Array Value} (h : Box w g t cs) (n s : Nat) (hn : cs.size = n * s) (hm : n ≤ 140737488355328) : Sl w w.heap.size s (some ⟨g, 0, none⟩) n n cs.toList := by
  refine ⟨by simpa using hn, Nat.le_refl _, by unfold maxLen; omega, hm, fun h => (by cases h), fun _ a hA => ?_, fun a j u hA hu => ?_⟩
  · injection hA with hA
    subst hA
    exact h.lt
  · injection hA with hA
    subst hA
    rw [head_add, h.cell]
    simpa using hu
theorem Blk.rd {α : Type} {f : α → List Value} {s : Nat} {w : World} {v : Value} {n : Nat} {t : TypeId} {cs : Array Value} (h : Blk w v n t cs) (l : List α) (hcs : cs = (l.flatMap f).toArray) (hf : ∀ x, (f x).length = s) (hn : n = l.length) (hl : n ≤ 100000) : RdF f s w w.heap.size v l := by
  obtain ⟨g, rfl, hb⟩ := h
  subst hn
  subst hcs
  refine ⟨_, _, rfl, ?_⟩
  have := hb.sl l.length s (by rw [List.size_toArray, flat_len hf]) (by omega)
  simpa using this
theorem BlkV.rd {α : Type} {f : α → List Value} {s : Nat} {w : World} {v : Value} {t2 t : TypeId} {css : List (Nat × Array Value)} (h : BlkV w v t2 t css) (l : List (List α)) (hl : css = l.map fun r => (r.length, (r.flatMap f).toArray)) (hf : ∀ x, (f x).length = s) (hn : l.length ≤ 100000) (hr : ∀ r ∈ l, r.length ≤ 100000) : RdE (RdF f s) w w.heap.size v l := by
  obtain ⟨us, ⟨g, rfl, hb⟩, he⟩ := h
  subst hl
  have hlen : us.length = l.length := by have := he.len; simpa using this
  have hs := hb.sl us.length 1 (by simp) (by omega)
  refine ⟨_, _, us, by rw [hlen], by rw [hlen] at hs; simpa using hs, ?_⟩
  refine ⟨hlen, fun i u r hu hr2 => ?_⟩
  have h1 := he.at_ i u (r.length, (r.flatMap f).toArray) hu (by rw [List.getElem?_map, hr2]; rfl)
  exact Blk.rd h1 r rfl hf rfl (hr r (List.mem_of_getElem? hr2))
end Go.Proofs.YtgiemhooeoakmaaDoor


/- Lists of changes, as they lie in memory. -/
import Derived.Test.YtgiemhooeoakmaaDoorVal
namespace Go.Proofs.YtgiemhooeoakmaaDoor
open Go.RowKit Go.ChangeShapes Go.WideShapes
set_option linter.unusedVariables false
set_option linter.unusedSimpArgs false

structure Chg where
  kind : Int
  old : VRow
  new : VRow
theorem Chg.ext_iff' {a b : Chg} : a = b ↔ a.kind = b.kind ∧ a.old = b.old ∧ a.new = b.new := by
  cases a; cases b; simp
instance decChg : DecidableEq Chg := fun a b => decidable_of_iff _ Chg.ext_iff'.symm
/-- A change, as its cells are. -/
structure ChV where
  kind : Int
  o : Value
  n : Value
def chV (u : ChV) : List Value := [.int .i64 u.kind, u.o, u.n]
theorem chV_len (u : ChV) : (chV u).length = 3 := rfl
section
variable {g : Val → List Value} {w w' : World} {B B' : Nat} {v v' : Value} {t : List Chg}
/-- How a change is read. -/
structure ChR (g : Val → List Value) (w : World) (B : Nat) (u : ChV) (c : Chg) : Prop where
  kind : u.kind = c.kind
  old : RdF g 4 w B u.o c.old
  new : RdF g 4 w B u.n c.new
structure RdCh (g : Val → List Value) (w : World) (B : Nat) (v : Value) (t : List Chg) : Prop where
  is : ∃ us, RdF chV 3 w B v us ∧ Each (ChR g w B) us t
theorem ChR.below {u : ChV} {c : Chg} (h : ChR g w B u c) (hb : Below B w w') : ChR g w' B u c := ⟨h.kind, h.old.below hb, h.new.below hb⟩
theorem ChR.more {u : ChV} {c : Chg} (h : ChR g w B u c) (hb : B ≤ B') : ChR g w B' u c := ⟨h.kind, h.old.more hb, h.new.more hb⟩
theorem RdCh.below (h : RdCh g w B v t) (hb : Below B w w') : RdCh g w' B v t := by
  obtain ⟨us, h1, h2⟩ := h.is
  exact ⟨us, h1.below hb, h2.imp fun _ _ h => h.below hb⟩
theorem RdCh.more (h : RdCh g w B v t) (hb : B ≤ B') : RdCh g w B' v t := by
  obtain ⟨us, h1, h2⟩ := h.is
  exact ⟨us, h1.more hb, h2.imp fun _ _ h => h.more hb⟩
theorem RdCh.next (h : RdCh g w w.heap.size v t) (hb : Below w.heap.size w w') : RdCh g w' w'.heap.size v t := (h.below hb).more hb.size
theorem RdCh.form (h : RdCh g w B v t) : ∃ A c, v = .slice A t.length c := by
  obtain ⟨us, h1, h2⟩ := h.is
  obtain ⟨A, c, h3, h4⟩ := h1.is
  exact ⟨A, c, by rw [h3, h2.len]⟩
theorem RdCh.few (h : RdCh g w B v t) : t.length ≤ 140737488355328 := by
  obtain ⟨us, h1, h2⟩ := h.is
  have := h1.few
  rw [h2.len] at this
  exact this
/-- What a walk reads of change k. -/
theorem RdCh.at (h : RdCh g w B v t) {k : Nat} (hk : k < t.length) : ∃ a c uo un, v = .slice (some a) t.length c ∧ w.cell? (a.add (k * 3)) = some (.int .i64 t[k].kind) ∧
    w.cell? ⟨(a.add (k * 3)).block, (a.add (k * 3)).off + 1, none⟩ = some uo ∧ w.cell? ⟨(a.add (k * 3)).block, (a.add (k * 3)).off + 2, none⟩ = some un ∧ RdF g 4 w B uo t[k].old ∧ RdF g 4 w B un t[k].new := by
  obtain ⟨us, h1, h2⟩ := h.is
  have hku : k < us.length := by rw [h2.len]; exact hk
  obtain ⟨a, c, rfl, q0⟩ := RdF.at0 h1 chV_len (by omega) hku
  have q1 := RdF.atj h1 chV_len hku 0 rfl
  have q2 := RdF.atj h1 chV_len hku 1 rfl
  have hr := h2.at_ k _ _ (List.getElem?_eq_getElem hku) (List.getElem?_eq_getElem hk)
  exact ⟨a, c, us[k].o, us[k].n, by rw [h2.len], by rw [q0 _ rfl, hr.kind], q1, q2, hr.old, hr.new⟩
theorem RdCh.nil (w : World) (B : Nat) : RdCh g w B (.slice none 0 0) [] := ⟨[], RdF.nil _ _, Each.nil⟩
/-- A list of changes of the call's own: its rows lie elsewhere than itself. -/
structure ChRX (g : Val → List Value) (w : World) (row : Option Nat) (u : ChV) (c : Chg) : Prop where
  kind : u.kind = c.kind
  old : RdX g 4 w row u.o c.old
  new : RdX g 4 w row u.n c.new
structure ChX (g : Val → List Value) (e : TypeId) (w : World) (base : Nat) (v : Value) (t : List Chg) : Prop where
  is : ∃ us : List ChV, Own w base e 3 v t.length (us.flatMap chV) ∧ Each (ChRX g w v.ownBlock) us t
variable {e : TypeId} {base : Nat}
theorem ChX.nil (w : World) (base : Nat) : ChX g e w base (.slice none 0 0) [] := ⟨[], Own.nil_ _ _ _ _, Each.nil⟩
theorem ChX.keep (h : ChX g e w base v t) (hb : Below w.heap.size w w') : ChX g e w' base v t := by
  obtain ⟨us, h1, h2⟩ := h.is
  exact ⟨us, h1.below hb (Nat.le_refl _), h2.imp fun _ _ h => ⟨h.kind, h.old.keep hb, h.new.keep hb⟩⟩
theorem ChX.mono {base' : Nat} (h : ChX g e w base v t) (hb : base' ≤ base) : ChX g e w base' v t := by
  obtain ⟨us, h1, h2⟩ := h.is
  exact ⟨us, h1.mono hb, h2⟩
theorem ChX.lt (h : ChX g e w base v t) : ∀ k, v.ownBlock = some k → base ≤ k ∧ k < w.heap.size := by
  obtain ⟨us, h1, h2⟩ := h.is
  exact h1.lt
theorem ChX.push {us : List ChV} {u : ChV} {c : Chg} (h1 : Own w' base e 3 v' (t.length + 1) (us.flatMap chV ++ chV u)) (h2 : Each (ChRX g w v.ownBlock) us t) (hu : ChRX g w v.ownBlock u c)
    (hg : w.grownBy w' v.ownBlock) (hr : v'.ownBlock = v.ownBlock ∨ ∃ g, v'.ownBlock = some g ∧ w.heap.size ≤ g) : ChX g e w' base v' (t ++ [c]) :=
  ⟨us ++ [u], by rw [List.length_append, List.flatMap_append]; simpa using h1, (h2.snoc hu).imp fun _ _ h => ⟨h.kind, h.old.turn hg hr, h.new.turn hg hr⟩⟩
theorem ChX.rd (h : ChX g e w base v t) : RdCh g w w.heap.size v t := by
  obtain ⟨us, h1, h2⟩ := h.is
  exact ⟨us, RdF.of_own chV_len (by omega) h1, h2.imp fun _ _ h => ⟨h.kind, h.old.rd, h.new.rd⟩⟩
end
theorem chg_info : (Tryd.prog.info? 101).map (fun i => (i.zero, i.size, i.bytes)) = some (some (.agg #[.int .i64 0, .slice none 0 0, .slice none 0 0]), 3, 56) := by kernel_rfl
theorem rchg_info : (Tryd.prog.info? 123).map (fun i => (i.zero, i.size, i.bytes)) = some (some (.agg #[.int .i64 0, .slice none 0 0, .slice none 0 0]), 3, 56) := by kernel_rfl
/-- Append of one made element in a drawn region. -/
theorem step_pushF {P : Program} {w : World} {ops : Array Oper} {o : Oper} {a : Act} {K : Act → World → Prop} {Q : Exit → Act → World → Prop} {E : Prop} (hgd : o.guard = none) (s x : Operand) (t : TypeId)
    (ho : o.op = .call { callee := .builtin .append, args := #[s, x], argTypes := #[t, t] })
    (base : Nat) (e : TypeId) (i : TypeInfo) (z : Value) (size bytes : Nat) (ht : P.underlying t = some (.slice e)) (hi : P.info? e = some i) (hz : i.zero = some z)
    (hsize : i.size = size) (hby : i.bytes = bytes) (hzs : z.cells.size = size) (hsp : 0 < size) (hbp : 0 < bytes)
    (v : Value) (n : Nat) (xs : List Value) (cs : Array Value) (hcs : cs.size = size) (hs : a.eval s = v) (hown : Own w base e size v n xs) (hx : a.eval x = .slice (some ⟨w.heap.size, 0, none⟩) 1 1)
    (h1 : ∀ u ∈ cs.toList, u.oneCell' = true) (hbytes : (n + 1) * bytes ≤ 140737488355328) (hbase : base ≤ w.heap.size)
    (h : ∀ v' w', Own w' base e size v' (n + 1) (xs ++ cs.toList) → w.grownBy w' v.ownBlock → (v'.ownBlock = v.ownBlock ∨ ∃ g, v'.ownBlock = some g ∧ w.heap.size ≤ g) → K (a.put o.dst v') w') :
    if Region.wanted o (yielded ops a.tmps) = true then Oper.wp P o a (w.alloc (.cells cs e)) K Q else E := by
  have hnb : n + 1 ≤ maxLen := by
    have := Nat.le_trans (Nat.le_mul_of_pos_right (n + 1) hbp) hbytes
    unfold maxLen
    omega
  refine step_append_Own (w := w.alloc (.cells cs e)) hgd s x t ho base e i z size bytes ht hi hz hsize hby hzs hsp hbp v n xs hs (hown.below ((Below.refl w.heap.size w).alloc (Nat.le_refl _) _) (Nat.le_refl _)) _ _ _ _ cs.toList hx
    (Sl.newrowF w cs e 1 size (by omega) (by omega)) h1 hnb hbytes (by simp; omega) ?_
  intro v' w' h2 h3 h4
  refine h v' w' h2 ⟨h3.os, h3.tape, h3.output, Nat.le_trans (by simp) h3.size, fun k hk hne => ?_⟩ ?_
  · rw [h3.block k (by simp; omega) hne]
    exact Below.heap_alloc w _ k hk
  · rcases h4 with h4 | h4
    · exact .inl h4
    · exact .inr ⟨_, h4, by simp⟩
end Go.Proofs.YtgiemhooeoakmaaDoor

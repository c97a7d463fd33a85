/- Layer 23: a table as the reference has it. -/
import Derived.Test.YtgiemhooeoakmaaDoorRowD
import Derived.Deep.RegionHeld3
namespace Go.Proofs.YtgiemhooeoakmaaDoor
open Go.RowKit Go.ChangeShapes Go.WideShapes
set_option linter.unusedVariables false
set_option linter.unusedSimpArgs false

theorem setCell_block (w : World) (g j : Nat) (u : Value) (k : Nat) (h : k ≠ g) : (w.setCell ⟨g, j, none⟩ u).heap[k]? = w.heap[k]? := by
  simp [World.setCell, Array.getElem?_modify]
  intro e
  exact absurd e.symm h
/-- What a cell holds, whatever it is. -/
def peek (w : World) (p : Addr) : Value := (w.cell? p).getD undef
theorem peek_of {w : World} {p : Addr} {v : Value} (h : w.cell? p = some v) : w.cell? p = some (peek w p) := by unfold peek; rw [h]; rfl
theorem keep5 {W ws w' : World} {B : Nat} {p q r s : Addr} {a b : Value} (hb : Below ws.heap.size ws w') (h1 : ws.cell? p = some a) (h2 : ws.cell? q = some b) (h3 : ws.cell? r = some (peek ws r)) (h4 : ws.cell? s = some (peek ws s)) (h5 : ws.frozen? r = false) (h6 : ws.frozen? s = false) (h7 : Below B W ws) (hB : B ≤ ws.heap.size) :
    w'.cell? p = some a ∧ w'.cell? q = some b ∧ w'.cell? r = some (peek w' r) ∧ w'.cell? s = some (peek w' s) ∧ w'.frozen? r = false ∧ w'.frozen? s = false ∧ Below B W w' ∧ B ≤ w'.heap.size :=
  ⟨(hb.cell (World.block_lt_of_cell? ws _ h1)).trans h1, (hb.cell (World.block_lt_of_cell? ws _ h2)).trans h2, peek_of ((hb.cell (World.block_lt_of_cell? ws _ h3)).trans h3), peek_of ((hb.cell (World.block_lt_of_cell? ws _ h4)).trans h4), (hb.frozen (World.block_lt_of_cell? ws _ h3)).trans h5, (hb.frozen (World.block_lt_of_cell? ws _ h4)).trans h6, h7.trans (hb.mono hB), Nat.le_trans hB hb.size⟩
set_option maxHeartbeats 2000000 in
set_option maxRecDepth 100000 in
theorem refTab_any (v u : Value) (l : List Col) (t : VTab) (w : World) (h1 : RdC w w.heap.size v l) (h : RdVT w w.heap.size u t) (hl : l.length ≤ 100000) (ht : t.length ≤ 100000) (hr : ∀ r ∈ t, r.length ≤ 100000) :
    Calls Tryd.prog 18 #[.agg #[v, u]] w fun e w' => (∃ o p, e = .returned (.agg #[o, p]) ∧ RdRC w' w'.heap.size o l ∧ RdRVT w' w'.heap.size p t) ∧ Below w.heap.size w w' := by
  refine cps fun R HR => ?_
  have g0 := h1
  have h0 := h
  obtain ⟨A1, c1, rfl, -⟩ := h1.is
  obtain ⟨A, c, vs, rfl, -, -⟩ := h.is
  clear h h1
  obtain ⟨w0, hw0⟩ : ∃ w0, w0 = (w.alloc (.cells #[.slice A1 l.length c1, .slice A t.length c] 25)).alloc (.cells #[.slice none 0 0, .slice none 0 0] 39) := ⟨_, rfl⟩
  have bw0 : Below w.heap.size w w0 := by rw [hw0]; exact ((Below.refl _ _).alloc (Nat.le_refl _) _).alloc (by simp) _
  have X := (Box.new w 25 #[.slice A1 l.length c1, .slice A t.length c]).alloc (.cells #[.slice none 0 0, .slice none 0 0] 39)
  have Z := Box.new (w.alloc (.cells #[.slice A1 l.length c1, .slice A t.length c] 25)) 39 #[.slice none 0 0, .slice none 0 0]
  rw [← hw0] at X Z
  rw [show (w.alloc (.cells #[.slice A1 l.length c1, .slice A t.length c] 25)).heap.size = w.heap.size + 1 by simp] at Z
  have x0 := X.cell 0
  have x1 := X.cell 1
  have z0 := Z.cell 0
  have z1 := Z.cell 1
  have f0 := Z.frozen 0
  have f1 := Z.frozen 1
  simp at x0 x1 z0 z1 f0 f1
  have HS := Lib.hid (And.intro x0 (And.intro x1 (And.intro (peek_of z0) (And.intro (peek_of z1) (And.intro f0 (And.intro f1 (And.intro bw0 bw0.size)))))))
  have HG := Lib.hid g0; have HH := Lib.hid h0
  have HZ := Lib.hid Z; have HW0 := Lib.hid hw0; have HB0 := Lib.hid bw0; have HRR := Lib.hid hr
  clear x0 x1 z0 z1 f0 f1 X Z hw0 bw0 g0 h0 hr
  obtain ⟨g, hg⟩ : ∃ g, g = w.heap.size := ⟨_, rfl⟩
  go_enter Tryd.func18, Tryd.ntmps18
  go_wp2
  rw [← HW0.out]
  have hs := HS.out
  rw [← hg] at hs ⊢
  have HGG := Lib.hid hg
  clear hg
  go_region_held3 (fun w' => w'.cell? ⟨g, 0, none⟩ = some (.slice A1 l.length c1) ∧ w'.cell? ⟨g, 1, none⟩ = some (.slice A t.length c) ∧ w'.cell? ⟨g + 1, 0, none⟩ = some (peek w' ⟨g + 1, 0, none⟩) ∧ w'.cell? ⟨g + 1, 1, none⟩ = some (peek w' ⟨g + 1, 1, none⟩) ∧ w'.frozen? ⟨g + 1, 0, none⟩ = false ∧ w'.frozen? ⟨g + 1, 1, none⟩ = false ∧ Below g w w' ∧ g ≤ w'.heap.size) (first | (exact ⟨hs.1, hs.2.1, hs.2.2.1, hs.2.2.2.1, hs.2.2.2.2.1, hs.2.2.2.2.2.1, hs.2.2.2.2.2.2.1.drew, hs.2.2.2.2.2.2.2⟩) | (go_split_ands; exact keep5 (by assumption) (by assumption) (by assumption) (by assumption) (by assumption) (by assumption) (by assumption) (by assumption) (by assumption)) | (go_split_ands; refine ⟨by go_simp, by go_simp, peek_of (v := .slice oA l.length oc) (by go_simp), peek_of (v := .slice pA t.length pc) (by go_simp), by go_simp, by go_simp, Below.setCell (Below.setCell (by assumption) (by simp) _) (by simp) _, by simp; assumption⟩)) (first | (go_at_call 21; go_split_ands; refine (refCols_any _ l _ (RdF.more (HG.out.below (by rw [← HGG.out]; assumption)) (by rw [← HGG.out]; assumption)) hl).mono ?_; rintro e w' ⟨o, rfl, ho, bh⟩; have ho2 := ho; obtain ⟨oA, oc, rfl, -⟩ := ho.form) | (go_at_call 30; go_split_ands; refine (refRows_any _ t _ (RdE.more (RdF.stays valV 4) (HH.out.below (RdF.stays valV 4) (by rw [← HGG.out]; assumption)) (by rw [← HGG.out]; assumption)) ht HRR.out).mono ?_; rintro e w' ⟨p, rfl, hp, bh2⟩; have hp2 := hp; obtain ⟨pA, pc, rfl⟩ := hp.form))
  have hz0 : w0.drew.heap.size = g + 2 := by show w0.heap.size = _; rw [HW0.out, HGG.out]; simp
  obtain ⟨o1, ho1⟩ : ∃ o1, o1 = Value.slice oA l.length oc := ⟨_, rfl⟩
  obtain ⟨p1, hp1⟩ : ∃ p1, p1 = Value.slice pA t.length pc := ⟨_, rfl⟩
  have key : ∀ (wz : World) (B1 B2 : Nat), g + 2 ≤ B1 → g + 2 ≤ B2 → Own wz B1 120 3 (.slice oA l.length oc) l.length (l.flatMap rcolV) → TabRV wz B2 (.slice pA t.length pc) t →
      ∀ a b : Value, RdRC ((wz.setCell ⟨g + 1, 0, none⟩ a).setCell ⟨g + 1, 1, none⟩ b) ((wz.setCell ⟨g + 1, 0, none⟩ a).setCell ⟨g + 1, 1, none⟩ b).heap.size (.slice oA l.length oc) l ∧ RdRVT ((wz.setCell ⟨g + 1, 0, none⟩ a).setCell ⟨g + 1, 1, none⟩ b) ((wz.setCell ⟨g + 1, 0, none⟩ a).setCell ⟨g + 1, 1, none⟩ b).heap.size (.slice pA t.length pc) t := fun wz B1 B2 h1 h2 q1 q2 a b => by
    have hk : ∀ k, g + 2 ≤ k → ((wz.setCell ⟨g + 1, 0, none⟩ a).setCell ⟨g + 1, 1, none⟩ b).heap[k]? = wz.heap[k]? := fun k hk => by
      rw [setCell_block _ _ _ _ _ (by omega), setCell_block _ _ _ _ _ (by omega)]
    exact ⟨RdF.of_own rcolV_len (by omega) (q1.agree_ fun k hk1 => hk k (by have := (q1.lt k hk1).1; omega)), TabY.rd rvalV_len (by omega) (q2.agree fun k hk1 _ => hk k (by omega))⟩
  have KEY := Lib.hid key
  clear key
  go_wp2
  have ho3 := ho2.below bh2 (Nat.le_refl _)
  have hk := KEY.out _ _ _ (Nat.le_of_eq hz0.symm) (by have := bh.size; rw [hz0] at this; exact this) ho3 hp2 (.slice oA l.length oc) (.slice pA t.length pc)
  have Z1 := HZ.out.drew.below bh HZ.out.drew.lt
  have Z2 := Z1.below bh2 Z1.lt
  have Z3 := (Z2.put 0 (.slice oA l.length oc)).put 1 (.slice pA t.length pc)
  rw [← HGG.out] at Z3
  have c0 := Z3.cell 0
  have c1 := Z3.cell 1
  simp at c0 c1
  have b0 := HB0.out.drew
  have b1 := b0.trans (bh.mono b0.size)
  have b2 := b1.trans (bh2.mono b1.size)
  have hBf : Below w.heap.size w ((w'.setCell ⟨g + 1, 0, none⟩ (.slice oA l.length oc)).setCell ⟨g + 1, 1, none⟩ (.slice pA t.length pc)) := (b2.setCell (by rw [HGG.out]; simp) _).setCell (by rw [HGG.out]; simp) _
  refine bodyPost_ret (v := .agg #[.slice oA l.length oc, .slice pA t.length pc]) (by simp [results, Tryd.results18, go_sem, c0, c1]) rfl (HR.out _ _ ⟨⟨_, _, rfl, hk.1, hk.2⟩, hBf⟩)
end Go.Proofs.YtgiemhooeoakmaaDoor

/- Layer 18: Find. -/
import Derived.Test.YtgiemhooeoakmaaDoorFnC
import Derived.Test.YtgiemhooeoakmaaDoorHeadP
namespace Go.Proofs.YtgiemhooeoakmaaDoor
open Go.RowKit Go.ChangeShapes Go.WideShapes
set_option linter.unusedVariables false
set_option linter.unusedSimpArgs false

def col0 : Col := ⟨⟨#[]⟩, 0, false⟩
/-- The column of a name; a zero one, where there is none. -/
def findC (l : List Col) (s : ByteArray) : Col := if s ∈ namesC l then l.getD (atC (namesC l) s) col0 else col0
theorem idxP_pos (s : ByteArray) : ∀ (l : List Col) (j : Nat), idxP (fun c => decide (c.name = s)) j l = posF j (namesC l) s
  | [], j => rfl
  | c :: r, j => by
    have hn : namesC (c :: r) = c.name :: namesC r := rfl
    rw [hn, idxP, posF, idxP_pos s r (j + 1)]
    by_cases h : c.name = s
    · rw [if_pos h, if_pos (decide_eq_true h)]
    · rw [if_neg h, if_neg (by simp [h])]
theorem find1_any (c : Col) (s : ByteArray) (g : Nat) (w : World) (hc : w.cell? ⟨g, 0, none⟩ = some (.string s)) :
    Calls Tryd.prog 117 #[.agg #[.string c.name, .int .i64 c.kind, .bool c.null], .pointer (some ⟨g, 0, none⟩)] w fun e w' => e = .returned (.bool (decide (c.name = s))) ∧ Below w.heap.size w w' := by
  refine cps fun R HR => ?_
  have hg := World.block_lt_of_cell? w _ hc
  obtain ⟨t, ht⟩ : ∃ t, t = decide (c.name = s) := ⟨_, rfl⟩
  have d : (c.name.toList == s.toList) = t := by rw [str_eq, ht]
  rw [← ht] at HR
  clear ht
  go_enter Tryd.func117, Tryd.ntmps117
  go_wp2
  exact HR.out _ _ ⟨rfl, (Below.refl _ _).alloc (Nat.le_refl _) _⟩
set_option maxHeartbeats 2000000 in
theorem find_any (v : Value) (l : List Col) (s : ByteArray) (w : World) (h : RdC w w.heap.size v l) :
    Calls Tryd.prog 81 #[v, .string s] w fun e w' => e = .returned (.tuple #[.agg #[.string (findC l s).name, .int .i64 (findC l s).kind, .bool (findC l s).null], .int .i64 (atC (namesC l) s), .bool (decide (s ∈ namesC l))]) ∧ Below w.heap.size w w' := by
  refine cps fun R HR => ?_
  have h0 := h
  obtain ⟨A, c, rfl, -⟩ := h.is
  have hfew := RdF.few h0
  clear h
  obtain ⟨w0, hw0⟩ : ∃ w0, w0 = (w.alloc (.cells #[.string s] 9)).alloc (.cells #[.string ⟨#[]⟩, .int .i64 0, .bool false] 99) := ⟨_, rfl⟩
  have bw0 : Below w.heap.size w w0 := by rw [hw0]; exact ((Below.refl _ _).alloc (Nat.le_refl _) _).alloc (by simp) _
  have X := (Box.new w 9 #[.string s]).alloc (.cells #[.string ⟨#[]⟩, .int .i64 0, .bool false] 99)
  have Z := Box.new (w.alloc (.cells #[.string s] 9)) 99 #[.string ⟨#[]⟩, .int .i64 0, .bool false]
  rw [← hw0] at X Z
  rw [show (w.alloc (.cells #[.string s] 9)).heap.size = w.heap.size + 1 by simp] at Z
  have hi := idxP_pos s l 0
  have HI := Lib.hid hi; have HX := Lib.hid X; have HZ := Lib.hid Z; have HW0 := Lib.hid hw0
  have hp : ∀ x ∈ l, ∀ wk, Below w0.heap.size w0 wk → Calls Tryd.prog 117 #[.agg #[.string x.name, .int .i64 x.kind, .bool x.null], .pointer (some ⟨w.heap.size, 0, none⟩)] wk fun e w' => e = .returned (.bool (decide (x.name = s))) ∧ Below wk.heap.size wk w' := fun x _ wk hb => find1_any x s _ wk ((HX.out.below hb HX.out.lt).cell 0)
  have HP := Lib.hid hp; have HB0 := Lib.hid bw0
  clear hi X Z hp hw0 bw0
  obtain ⟨p, hp⟩ : ∃ p, p = posF 0 (namesC l) s := ⟨_, rfl⟩
  obtain ⟨tw, htw⟩ : ∃ tw, tw = decide (s ∈ namesC l) := ⟨_, rfl⟩
  obtain ⟨ct, hct⟩ : ∃ ct, ct = atC (namesC l) s := ⟨_, rfl⟩
  obtain ⟨fc, hfc⟩ : ∃ fc, fc = findC l s := ⟨_, rfl⟩
  have hcase : (tw = true ∧ p = (ct : Int) ∧ ∃ hk : ct < l.length, fc = l[ct]) ∨ (tw = false ∧ p = -1 ∧ ct = 0 ∧ fc = col0) := by
    by_cases hin : s ∈ namesC l
    · left
      have hlt := atC_lt hin
      rw [namesC_len] at hlt
      have hk : ct < l.length := by rw [hct]; exact hlt
      refine ⟨by rw [htw, decide_eq_true hin], by rw [hp, hct, posF_in hin], hk, ?_⟩
      rw [hfc]
      unfold findC
      rw [if_pos hin, ← hct, List.getD_eq_getElem?_getD, List.getElem?_eq_getElem hk]
      rfl
    · right
      refine ⟨by rw [htw, decide_eq_false hin], by rw [hp, posF_none hin], by rw [hct]; unfold atC; rw [posF_none hin]; rfl, ?_⟩
      rw [hfc]
      unfold findC
      rw [if_neg hin]
  rw [← htw, ← hct, ← hfc] at HR
  have HPP := Lib.hid hp
  clear hp htw hct hfc
  go_enter Tryd.func81, Tryd.ntmps81
  go_wp2_with fail
  rw [← HW0.out]
  refine (idxFind_any _ _ l (fun c => decide (c.name = s)) _ (RdF.next h0 HB0.out) HP.out).mono ?_
  rintro e w1 ⟨rfl, b1⟩
  rw [HI.out, ← HPP.out]
  have bw1 := HB0.out.trans (b1.mono HB0.out.size)
  have Z1 := HZ.out.below b1 HZ.out.lt
  have z0 := Z1.cell 0
  have z1 := Z1.cell 1
  have z2 := Z1.cell 2
  have f0 := Z1.frozen 0
  have f1 := Z1.frozen 1
  have f2 := Z1.frozen 2
  simp at z0 z1 z2
  rcases hcase with ⟨rfl, rfl, hk, hfc⟩ | ⟨rfl, rfl, rfl, rfl⟩
  · obtain ⟨a, c3, hv, q0, q1, q2⟩ := RdC.at ((RdF.next h0 bw1)) hk
    injection hv with hA _ hcc
    subst hA
    subst hcc
    rw [← hfc] at q0 q1 q2
    obtain ⟨fn, fk, fu⟩ := fc
    have Z2 := ((Z1.put 0 (.string fn)).put 1 (.int .i64 fk)).put 2 (.bool fu)
    have hBf : Below w.heap.size w (((w1.setCell ⟨w.heap.size + 1, 0, none⟩ (.string fn)).setCell ⟨w.heap.size + 1, 1, none⟩ (.int .i64 fk)).setCell ⟨w.heap.size + 1, 2, none⟩ (.bool fu)) := ((bw1.setCell (by simp) _).setCell (by simp) _).setCell (by simp) _
    have HZ2 := Lib.hid Z2; have HBF := Lib.hid hBf
    have hctI : (ct : Int) < l.length := by omega
    have dct : decide ((ct : Int) < 0) = false := decide_eq_false (by omega)
    clear hfc Z2 hBf Z1
    go_wp2
    have c0 := HZ2.out.cell 0
    have c1 := HZ2.out.cell 1
    have c2 := HZ2.out.cell 2
    simp at c0 c1 c2
    refine bodyPost_ret (v := .tuple #[.agg #[.string fn, .int .i64 fk, .bool fu], .int .i64 ct, .bool true]) (by simp [results, Tryd.results81, go_sem, c0, c1, c2]) rfl (HR.out _ _ ⟨rfl, HBF.out⟩)
  · have Z2 := ((Z1.put 0 (.string ⟨#[]⟩)).put 1 (.int .i64 0)).put 2 (.bool false)
    have hBf : Below w.heap.size w (((w1.setCell ⟨w.heap.size + 1, 0, none⟩ (.string ⟨#[]⟩)).setCell ⟨w.heap.size + 1, 1, none⟩ (.int .i64 0)).setCell ⟨w.heap.size + 1, 2, none⟩ (.bool false)) := ((bw1.setCell (by simp) _).setCell (by simp) _).setCell (by simp) _
    have HZ2 := Lib.hid Z2; have HBF := Lib.hid hBf
    clear Z2 hBf Z1
    go_wp2
    have c0 := HZ2.out.cell 0
    have c1 := HZ2.out.cell 1
    have c2 := HZ2.out.cell 2
    simp at c0 c1 c2
    refine bodyPost_ret (v := .tuple #[.agg #[.string ⟨#[]⟩, .int .i64 0, .bool false], .int .i64 0, .bool false]) (by simp [results, Tryd.results81, go_sem, c0, c1, c2]) rfl (HR.out _ _ ⟨rfl, HBF.out⟩)
end Go.Proofs.YtgiemhooeoakmaaDoor

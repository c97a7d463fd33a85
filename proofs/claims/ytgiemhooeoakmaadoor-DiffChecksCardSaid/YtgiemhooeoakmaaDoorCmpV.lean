/- Layer 17: Compare. -/
import Derived.Test.YtgiemhooeoakmaaDoorCmp
import Derived.StillTailTactics
namespace Go.Proofs.YtgiemhooeoakmaaDoor
open Go.RowKit Go.ChangeShapes Go.WideShapes
set_option linter.unusedVariables false
set_option linter.unusedSimpArgs false

set_option maxHeartbeats 2000000 in
set_option maxRecDepth 100000 in
theorem compare_at (ak bk an bn t : Int) (a1 b1 : ByteArray) (ab bb : Bool) (w : World) (ht : cmpB ab bb = t) :
    Calls Tryd.prog 105 #[.agg #[.int .i64 ak, .string a1, .int .i64 an, .bool ab], .agg #[.int .i64 bk, .string b1, .int .i64 bn, .bool bb]] w fun e w' => e = .returned (.int .i64 (orI [cmpI ak bk, cmpS a1 b1, cmpI an bn, t])) ∧ Below w.heap.size w w' := by
  refine cps fun R HR => ?_
  obtain ⟨w2, hw2⟩ : ∃ w2, w2 = (w.alloc (.cells #[.int .i64 ak, .string a1, .int .i64 an, .bool ab] 96)).alloc (.cells #[.int .i64 bk, .string b1, .int .i64 bn, .bool bb] 96) := ⟨_, rfl⟩
  have hb2 : Below w.heap.size w w2 := by rw [hw2]; exact ((Below.refl _ _).alloc (Nat.le_refl _) _).alloc (by simp) _
  have X1 := (Box.new w 96 #[.int .i64 ak, .string a1, .int .i64 an, .bool ab]).alloc (.cells #[.int .i64 bk, .string b1, .int .i64 bn, .bool bb] 96)
  have X2 := Box.new (w.alloc (.cells #[.int .i64 ak, .string a1, .int .i64 an, .bool ab] 96)) 96 #[.int .i64 bk, .string b1, .int .i64 bn, .bool bb]
  rw [← hw2] at X1 X2
  have p0 := X1.cell 0
  have p1 := X1.cell 1
  have p2 := X1.cell 2
  have q0 := X2.cell 0
  have q1 := X2.cell 1
  have q2 := X2.cell 2
  simp at p0 p1 p2 q0 q1 q2
  have hsz : w2.heap.size = w.heap.size + 1 + 1 := by rw [hw2]; simp
  have P := Lib.hid (And.intro p0 (And.intro p1 (And.intro p2 (And.intro q0 (And.intro q1 q2)))))
  have HW2 := Lib.hid hw2; have HB2 := Lib.hid hb2; have HSZ := Lib.hid hsz
  clear p0 p1 p2 q0 q1 q2 X1 X2 hw2 hb2 hsz
  go_enter Tryd.func105, Tryd.ntmps105
  obtain ⟨x1, hx1⟩ : ∃ x, x = cmpI ak bk := ⟨_, rfl⟩
  obtain ⟨x2, hx2⟩ : ∃ x, x = cmpS a1 b1 := ⟨_, rfl⟩
  obtain ⟨x3, hx3⟩ : ∃ x, x = cmpI an bn := ⟨_, rfl⟩
  have g1 : ∀ w, Calls Tryd.prog 127 #[.int .i64 ak, .int .i64 bk] w fun e w' => e = .returned (.int .i64 x1) ∧ w' = w := fun w => by rw [hx1]; exact cmpI_any ak bk w
  have g2 : ∀ w, Calls Tryd.prog 128 #[.string a1, .string b1] w fun e w' => e = .returned (.int .i64 x2) ∧ w' = w := fun w => by rw [hx2]; exact strCompare_any a1 b1 w
  have g3 : ∀ w, Calls Tryd.prog 129 #[.int .i64 an, .int .i64 bn] w fun e w' => e = .returned (.int .i64 x3) ∧ w' = w := fun w => by rw [hx3]; exact cmpL_any an bn w
  rw [← hx1, ← hx2, ← hx3] at HR
  have G1 := Lib.hid g1; have G2 := Lib.hid g2; have G3 := Lib.hid g3
  clear hx1 hx2 hx3 g1 g2 g3
  cases ab <;> cases bb
  all_goals
    first
    | (have ht2 : t = 0 := ht.symm; subst ht2)
    | (have ht2 : t = 1 := ht.symm; subst ht2)
    | (have ht2 : t = -1 := ht.symm; subst ht2)
    clear ht
    go_wp2
    rw [← HW2.out]
    obtain ⟨p0, p1, p2, q0, q1, q2⟩ := P.out
    refine wp_region_still_tail 16 (by kernel_rfl) (by kernel_rfl) ?_
    simp only [List.take_succ_cons, List.take_zero, List.drop_succ_cons, List.drop_zero]
    change wpStill _ _ w2.drew _ _ _
    repeat (first | still_step | still_call (G1.out _) | still_call (G2.out _) | still_call (G3.out _))
    refine wpStill_nil ?_
    change wpList _ _ _ _ _ w2.drew
    have hI := fun t : Int => RdI.new w2.drew [x1, x2, x3, t] 3 4 rfl (by omega)
    have hB := fun o : Obj => HB2.out.drew.alloc (by show _ ≤ w2.heap.size; rw [HSZ.out]; omega) o
    clear p0 p1 p2 q0 q1 q2
    go_wp2_with fail
    refine (orInt_any _ _ _ (hI _)).mono ?_
    rintro e w4 ⟨rfl, rfl⟩
    go_wp2
    exact HR.out _ _ ⟨rfl, hB _⟩
theorem compare_any (a b : Val) (w : World) : Calls Tryd.prog 105 #[valA a, valA b] w fun e w' => e = .returned (.int .i64 (cmpV a b)) ∧ Below w.heap.size w w' :=
  compare_at a.kind b.kind a.n b.n _ a.s b.s a.b b.b w rfl
end Go.Proofs.YtgiemhooeoakmaaDoor

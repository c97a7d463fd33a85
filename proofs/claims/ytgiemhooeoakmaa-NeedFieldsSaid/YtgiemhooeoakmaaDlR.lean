/- Layer 1: the reference's Right; Ref. -/
import Derived.Test.YtgiemhooeoakmaaDlP
namespace Go.Proofs.Ytgiemhooeoakmaa
open Go.RowKit
set_option linter.unusedVariables false
set_option linter.unusedSimpArgs false

set_option maxHeartbeats 1000000 in
theorem right_any (d q : Nat) (e : Int) (w : World) (hd : d < 256) (hq : q < 256) :
    Calls Try.prog 5 #[.agg #[.int .i64 d, .int .i64 q, .int .i64 e]] w fun r w' => r = .returned (.bool (rightD d q e)) ∧ Below w.heap.size w w' := by
  refine cps fun R HR => ?_
  have x0 : ∀ (x y : Int) (w : World), (Instr.index 39 (.agg #[.int .i64 x, .int .i64 y]) (.int .i64 0)).run Try.prog w = .ok (.int .i64 x) w := fun _ _ _ => by kernel_rfl
  have x1 : ∀ (x y : Int) (w : World), (Instr.index 39 (.agg #[.int .i64 x, .int .i64 y]) (.int .i64 1)).run Try.prog w = .ok (.int .i64 y) w := fun _ _ _ => by kernel_rfl
  go_enter Try.func5, Try.ntmps5
  go_wp2
  go_loopw [10] (fun i wr => ∃ k : Nat, k ≤ 2 ∧ i = .int .i64 k ∧ (1 ≤ k → plainD d = true) ∧ (2 ≤ k → plainD q = true) ∧ wr = w.alloc (Obj.cells #[.int .i64 d, .int .i64 q, .int .i64 e] 26)) (fun i _ => 3 - (intOf i).toNat)
  case atStart => exact ⟨0, by omega, rfl, fun h => by omega, fun h => by omega, rfl⟩
  case round =>
    obtain ⟨k, hk, rfl, hp1, hp2, rfl⟩ := hrel
    have bel : Below w.heap.size w (w.alloc (Obj.cells #[.int .i64 d, .int .i64 q, .int .i64 e] 26)) := (Below.refl w.heap.size w).alloc (Nat.le_refl _) _
    have hd0 : decide ((d : Int) < 0) = false := decide_eq_false (by omega)
    have hq0 : decide ((q : Int) < 0) = false := decide_eq_false (by omega)
    obtain rfl | rfl | rfl : k = 0 ∨ k = 1 ∨ k = 2 := by omega
    · clear hp1 hp2
      cases hv : plainD d
      · have HC := Lib.hid (show rightD d q e = false by simp [rightD, hv])
        have d1 := plain_no hv
        clear hv
        rcases d1 with d1 | ⟨d1, d2⟩ | ⟨d1, d2, d3⟩
        all_goals go_wp2
        all_goals exact HR.out _ _ ⟨by rw [HC.out]; rfl, bel⟩
      · obtain ⟨d1, d2, d3⟩ := plain_yes hv
        have HV := Lib.hid hv; clear hv
        go_wp2
        refine ⟨⟨1, by omega, by go_num, ?_⟩, by simp [intOf]⟩
        simp [HV.out]
    · have hv0 := hp1 (by omega)
      clear hp1 hp2
      have HV0 := Lib.hid hv0; clear hv0
      cases hv : plainD q
      · have HC := Lib.hid (show rightD d q e = false by simp [rightD, hv])
        have d1 := plain_no hv
        clear hv
        rcases d1 with d1 | ⟨d1, d2⟩ | ⟨d1, d2, d3⟩
        all_goals go_wp2
        all_goals exact HR.out _ _ ⟨by rw [HC.out]; rfl, bel⟩
      · obtain ⟨d1, d2, d3⟩ := plain_yes hv
        have HV := Lib.hid hv; clear hv
        go_wp2
        refine ⟨⟨2, by omega, by go_num, ?_⟩, by simp [intOf]⟩
        simp [HV.out, HV0.out]
    · have hv0 := hp1 (by omega)
      have hv1 := hp2 (by omega)
      clear hp1 hp2
      by_cases h1 : d = q
      · have HC := Lib.hid (show rightD d q e = false by simp [rightD, h1])
        have d1 : ((d : Int) != (q : Int)) = false := by simp [h1]
        clear hv0 hv1 h1
        go_wp2
        exact HR.out _ _ ⟨by rw [HC.out]; rfl, bel⟩
      · have d1 : ((d : Int) != (q : Int)) = true := by rw [bne_iff_ne]; omega
        have hr : rightD d q e = (e == 1 || e == 2 || e == 3) := by
          unfold rightD
          rw [hv0, hv1, decide_eq_true h1, Bool.eq_iff_iff]
          simp
          omega
        have HC := Lib.hid hr
        clear hr hv0 hv1 h1
        cases h1 : (e == 1)
        · cases h2 : (e == 2)
          · cases h3 : (e == 3)
            · go_wp2
              exact HR.out _ _ ⟨by rw [HC.out, h1, h2, h3]; rfl, bel⟩
            · go_wp2
              exact HR.out _ _ ⟨by rw [HC.out, h1, h2, h3]; rfl, bel⟩
          · go_wp2
            exact HR.out _ _ ⟨by rw [HC.out, h1, h2]; rfl, bel⟩
        · go_wp2
          exact HR.out _ _ ⟨by rw [HC.out, h1]; rfl, bel⟩
theorem ref_any (d q : Nat) (e : Int) (w : World) (hd : d < 256) (hq : q < 256) :
    Calls Try.prog 6 #[.agg #[.int .u8 d, .int .u8 q, .int .i64 e]] w fun r w' => r = .returned (.agg #[.int .i64 d, .int .i64 q, .int .i64 e]) ∧ Below w.heap.size w w' := by
  refine cps fun R HR => ?_
  go_enter Try.func6, Try.ntmps6
  go_wp2
  have bel : Below w.heap.size w ((w.alloc (Obj.cells #[Value.int IntKind.u8 ↑d, Value.int IntKind.u8 ↑q, Value.int IntKind.i64 e] 23)).alloc (Obj.cells #[Value.int IntKind.i64 ↑d, Value.int IntKind.i64 ↑q, Value.int IntKind.i64 e] 26)) := ((Below.refl w.heap.size w).alloc (Nat.le_refl _) _).alloc (by simp) _
  refine bodyPost_ret (v := .agg #[.int .i64 d, .int .i64 q, .int .i64 e]) ?_ rfl (HR.out _ _ ⟨rfl, bel⟩)
  have hb := Box.new (w.alloc (Obj.cells #[Value.int IntKind.u8 ↑d, Value.int IntKind.u8 ↑q, Value.int IntKind.i64 e] 23)) 26 #[.int .i64 d, .int .i64 q, .int .i64 e]
  have c0 := hb.cell 0
  have c1 := hb.cell 1
  have c2 := hb.cell 2
  simp at c0 c1 c2
  simp [results, Try.results6, go_sem, c0, c1, c2]
end Go.Proofs.Ytgiemhooeoakmaa

/- Layer 1: the reference's Right, End, digit, Text; Ref. -/
import Derived.Test.YtlcglijkpbojgaaDoorDlA
namespace Go.Proofs.YtlcglijkpbojgaaDoor
open Go.RowKit
set_option linter.unusedVariables false
set_option linter.unusedSimpArgs false

theorem plain_is (b : Nat) : plainD b = (!decide ((127 : Int) < b) && !((b : Int) == 10) && !((b : Int) == 13)) := by
  unfold plainD
  rw [Bool.eq_iff_iff]
  simp
  omega
theorem plain_yes {b : Nat} (h : plainD b = true) : decide ((127 : Int) < b) = false ∧ ((b : Int) == 10) = false ∧ ((b : Int) == 13) = false := by
  rw [plain_is] at h
  simpa [and_assoc] using h
theorem plain_no {b : Nat} (h : plainD b = false) : decide ((127 : Int) < b) = true ∨ (decide ((127 : Int) < b) = false ∧ ((b : Int) == 10) = true) ∨ (decide ((127 : Int) < b) = false ∧ ((b : Int) == 10) = false ∧ ((b : Int) == 13) = true) := by
  rw [plain_is] at h
  cases h1 : decide ((127 : Int) < b)
  · cases h2 : ((b : Int) == 10)
    · rw [h1, h2] at h
      exact .inr (.inr ⟨rfl, rfl, by simpa using h⟩)
    · exact .inr (.inl ⟨rfl, rfl⟩)
  · exact .inl rfl
set_option maxHeartbeats 1000000 in
theorem right_any (d q : Nat) (e : Int) (w : World) (hd : d < 256) (hq : q < 256) :
    Calls Tryd.prog 10 #[.agg #[.int .i64 d, .int .i64 q, .int .i64 e]] w fun r w' => r = .returned (.bool (rightD d q e)) ∧ Below w.heap.size w w' := by
  refine cps fun R HR => ?_
  have x0 : ∀ (x y : Int) (w : World), (Instr.index 61 (.agg #[.int .i64 x, .int .i64 y]) (.int .i64 0)).run Tryd.prog w = .ok (.int .i64 x) w := fun _ _ _ => by kernel_rfl
  have x1 : ∀ (x y : Int) (w : World), (Instr.index 61 (.agg #[.int .i64 x, .int .i64 y]) (.int .i64 1)).run Tryd.prog w = .ok (.int .i64 y) w := fun _ _ _ => by kernel_rfl
  go_enter Tryd.func10, Tryd.ntmps10
  go_wp2
  go_loopw [10] (fun i wr => ∃ k : Nat, k ≤ 2 ∧ i = .int .i64 k ∧ (1 ≤ k → plainD d = true) ∧ (2 ≤ k → plainD q = true) ∧ wr = w.alloc (Obj.cells #[.int .i64 d, .int .i64 q, .int .i64 e] 29)) (fun i _ => 3 - (intOf i).toNat)
  case atStart => exact ⟨0, by omega, rfl, fun h => by omega, fun h => by omega, rfl⟩
  case round =>
    obtain ⟨k, hk, rfl, hp1, hp2, rfl⟩ := hrel
    have bel : Below w.heap.size w (w.alloc (Obj.cells #[.int .i64 d, .int .i64 q, .int .i64 e] 29)) := (Below.refl w.heap.size w).alloc (Nat.le_refl _) _
    have hd0 : decide ((d : Int) < 0) = false := decide_eq_false (by omega)
    have hq0 : decide ((q : Int) < 0) = false := decide_eq_false (by omega)
    obtain rfl | rfl | rfl : k = 0 ∨ k = 1 ∨ k = 2 := by omega
    · clear hp1 hp2
      cases hv : plainD d
      · have HC := Lib.hid (show rightD d q e = false by simp [rightD, hv])
        have d1 := plain_no hv
        clear hv
        rcases d1 with d1 | ⟨d1, d2⟩ | ⟨d1, d2, d3⟩
        all_goals go_wp2
        all_goals exact HR.out _ _ ⟨by rw [HC.out]; rfl, bel⟩
      · obtain ⟨d1, d2, d3⟩ := plain_yes hv
        have HV := Lib.hid hv; clear hv
        go_wp2
        refine ⟨⟨1, by omega, by go_num, ?_⟩, by simp [intOf]⟩
        simp [HV.out]
    · have hv0 := hp1 (by omega)
      clear hp1 hp2
      have HV0 := Lib.hid hv0; clear hv0
      cases hv : plainD q
      · have HC := Lib.hid (show rightD d q e = false by simp [rightD, hv])
        have d1 := plain_no hv
        clear hv
        rcases d1 with d1 | ⟨d1, d2⟩ | ⟨d1, d2, d3⟩
        all_goals go_wp2
        all_goals exact HR.out _ _ ⟨by rw [HC.out]; rfl, bel⟩
      · obtain ⟨d1, d2, d3⟩ := plain_yes hv
        have HV := Lib.hid hv; clear hv
        go_wp2
        refine ⟨⟨2, by omega, by go_num, ?_⟩, by simp [intOf]⟩
        simp [HV.out, HV0.out]
    · have hv0 := hp1 (by omega)
      have hv1 := hp2 (by omega)
      clear hp1 hp2
      by_cases h1 : d = q
      · have HC := Lib.hid (show rightD d q e = false by simp [rightD, h1])
        have d1 : ((d : Int) != (q : Int)) = false := by simp [h1]
        clear hv0 hv1 h1
        go_wp2
        exact HR.out _ _ ⟨by rw [HC.out]; rfl, bel⟩
      · have d1 : ((d : Int) != (q : Int)) = true := by rw [bne_iff_ne]; omega
        have hr : rightD d q e = (e == 1 || e == 2 || e == 3) := by
          unfold rightD
          rw [hv0, hv1, decide_eq_true h1, Bool.eq_iff_iff]
          simp
          omega
        have HC := Lib.hid hr
        clear hr hv0 hv1 h1
        cases h1 : (e == 1)
        · cases h2 : (e == 2)
          · cases h3 : (e == 3)
            · go_wp2
              exact HR.out _ _ ⟨by rw [HC.out, h1, h2, h3]; rfl, bel⟩
            · go_wp2
              exact HR.out _ _ ⟨by rw [HC.out, h1, h2, h3]; rfl, bel⟩
          · go_wp2
            exact HR.out _ _ ⟨by rw [HC.out, h1, h2]; rfl, bel⟩
        · go_wp2
          exact HR.out _ _ ⟨by rw [HC.out, h1]; rfl, bel⟩
theorem refEnd_any (d q e : Int) (w : World) :
    Calls Tryd.prog 15 #[.agg #[.int .i64 d, .int .i64 q, .int .i64 e]] w fun r w' => r = .returned (.string (if e = 2 then crlfB else lfB)) ∧ Below w.heap.size w w' := by
  refine cps fun R HR => ?_
  go_enter Tryd.func15, Tryd.ntmps15
  by_cases h : e = 2
  · subst h
    go_wp2
    exact HR.out _ _ ⟨rfl, (Below.refl w.heap.size w).alloc (Nat.le_refl _) _⟩
  · have H := Lib.hid h
    have h2 : (e == 2) = false := by rw [beq_eq_false_iff_ne]; exact h
    clear h
    go_wp2
    exact HR.out _ _ ⟨by rw [if_neg H.out]; rfl, (Below.refl w.heap.size w).alloc (Nat.le_refl _) _⟩
theorem ref_any (d q : Nat) (e : Int) (w : World) (hd : d < 256) (hq : q < 256) :
    Calls Tryd.prog 11 #[.agg #[.int .u8 d, .int .u8 q, .int .i64 e]] w fun r w' => r = .returned (.agg #[.int .i64 d, .int .i64 q, .int .i64 e]) ∧ Below w.heap.size w w' := by
  refine cps fun R HR => ?_
  go_enter Tryd.func11, Tryd.ntmps11
  go_wp2
  have bel : Below w.heap.size w ((w.alloc (Obj.cells #[Value.int IntKind.u8 ↑d, Value.int IntKind.u8 ↑q, Value.int IntKind.i64 e] 23)).alloc (Obj.cells #[Value.int IntKind.i64 ↑d, Value.int IntKind.i64 ↑q, Value.int IntKind.i64 e] 29)) := ((Below.refl w.heap.size w).alloc (Nat.le_refl _) _).alloc (by simp) _
  refine bodyPost_ret (v := .agg #[.int .i64 d, .int .i64 q, .int .i64 e]) ?_ rfl (HR.out _ _ ⟨rfl, bel⟩)
  have hb := Box.new (w.alloc (Obj.cells #[Value.int IntKind.u8 ↑d, Value.int IntKind.u8 ↑q, Value.int IntKind.i64 e] 23)) 29 #[.int .i64 d, .int .i64 q, .int .i64 e]
  have c0 := hb.cell 0
  have c1 := hb.cell 1
  have c2 := hb.cell 2
  simp at c0 c1 c2
  simp [results, Tryd.results11, go_sem, c0, c1, c2]
theorem digit_any (n : Nat) (w : World) (hn : n < 16) :
    Calls Tryd.prog 34 #[.int .i64 n] w fun r w' => r = .returned (.string ⟨#[hexD n]⟩) ∧ Below w.heap.size w w' := by
  refine cps fun R HR => ?_
  go_enter Tryd.func34, Tryd.ntmps34
  by_cases h : n < 10
  · have hcv := conv_ints (P := Tryd.prog) w 49 9 5 Tryd.underlying49 Tryd.underlying5 Tryd.underlying9 [48 + (n : Int)] (by intro z hz; simp at hz; omega) (by simp)
    simp only [List.map, List.length] at hcv
    have hv : hexD n = UInt8.ofNat (48 + n) := by rw [hexD, if_pos h]
    have HV := Lib.hid hv; clear hv
    go_wp2
    exact HR.out _ _ ⟨by rw [HV.out]; rfl, (Below.refl w.heap.size w).alloc (Nat.le_refl _) _⟩
  · have hcv := conv_ints (P := Tryd.prog) w 49 9 5 Tryd.underlying49 Tryd.underlying5 Tryd.underlying9 [97 + (n : Int) - 10] (by intro z hz; simp at hz; omega) (by simp)
    simp only [List.map, List.length] at hcv
    have hv : hexD n = UInt8.ofNat (97 + n - 10) := by rw [hexD, if_neg h]; congr 1; omega
    have HV := Lib.hid hv; clear hv
    go_wp2
    exact HR.out _ _ ⟨by rw [HV.out]; rfl, (Below.refl w.heap.size w).alloc (Nat.le_refl _) _⟩
set_option maxHeartbeats 4000000 in
set_option maxRecDepth 100000 in
theorem refText_any (d q n : Nat) (w : World) (hd : d < 256) (hq : q < 256) (hn : 1 ≤ n ∧ n ≤ 3) :
    Calls Tryd.prog 16 #[.agg #[.int .i64 d, .int .i64 q, .int .i64 n]] w fun r w' => r = .returned (.string (pairB d ++ spB ++ pairB q ++ spB ++ wordB n)) ∧ Below w.heap.size w w' := by
  refine cps fun R HR => ?_
  have hix : ∀ w : World, (Instr.index 60 (.agg #[.string ⟨#[]⟩, .string ⟨#[108, 102]⟩, .string ⟨#[99, 114, 108, 102]⟩, .string ⟨#[101, 105, 116, 104, 101, 114]⟩]) (.int .i64 n)).run Tryd.prog w = .ok (.string (wordB n)) w := fun w => by
    obtain rfl | rfl | rfl : n = 1 ∨ n = 2 ∨ n = 3 := by omega
    all_goals kernel_rfl
  have z3 : (wordB n).size ≤ 6 := by
    obtain rfl | rfl | rfl : n = 1 ∨ n = 2 ∨ n = 3 := by omega
    all_goals decide
  obtain ⟨V, hV⟩ : ∃ P, P = wordB n := ⟨_, rfl⟩
  rw [← hV] at z3 hix
  have HV := Lib.hid hV
  clear hV
  obtain ⟨D1, h1⟩ : ∃ P : ByteArray, P = ⟨#[hexD (d / 16)]⟩ := ⟨_, rfl⟩
  obtain ⟨D2, h2⟩ : ∃ P : ByteArray, P = ⟨#[hexD (d % 16)]⟩ := ⟨_, rfl⟩
  obtain ⟨Q1, h3⟩ : ∃ P : ByteArray, P = ⟨#[hexD (q / 16)]⟩ := ⟨_, rfl⟩
  obtain ⟨Q2, h4⟩ : ∃ P : ByteArray, P = ⟨#[hexD (q % 16)]⟩ := ⟨_, rfl⟩
  have z4 : D1.size = 1 := by rw [h1]; rfl
  have z5 : D2.size = 1 := by rw [h2]; rfl
  have z6 : Q1.size = 1 := by rw [h3]; rfl
  have z7 : Q2.size = 1 := by rw [h4]; rfl
  have n1 : ¬ 9223372036854775807 < D1.size + D2.size := by omega
  have n2 : ¬ 9223372036854775807 < D1.size + D2.size + 1 := by omega
  have n3 : ¬ 9223372036854775807 < D1.size + D2.size + 1 + Q1.size := by omega
  have n4 : ¬ 9223372036854775807 < D1.size + D2.size + 1 + Q1.size + Q2.size := by omega
  have n5 : ¬ 9223372036854775807 < D1.size + D2.size + 1 + Q1.size + Q2.size + 1 := by omega
  have n6 : ¬ 9223372036854775807 < D1.size + D2.size + 1 + Q1.size + Q2.size + 1 + V.size := by omega
  have hv : pairB d ++ spB ++ pairB q ++ spB ++ V = D1 ++ D2 ++ spB ++ Q1 ++ Q2 ++ spB ++ V := by
    rw [show pairB d = D1 ++ D2 by rw [h1, h2]; rfl, show pairB q = Q1 ++ Q2 by rw [h3, h4]; rfl]
    simp only [ByteArray.append_assoc]
  rw [← HV.out, hv] at HR
  have w1 := fun w => digit_any (d / 16) w (by omega)
  have w2 := fun w => digit_any (d % 16) w (by omega)
  have w3 := fun w => digit_any (q / 16) w (by omega)
  have w4 := fun w => digit_any (q % 16) w (by omega)
  rw [← h1] at w1
  rw [← h2] at w2
  rw [← h3] at w3
  rw [← h4] at w4
  have e1 : ((d / 16 : Nat) : Int) = (d : Int) / 16 := by omega
  have e2 : ((d % 16 : Nat) : Int) = (d : Int) % 16 := by omega
  have e3 : ((q / 16 : Nat) : Int) = (q : Int) / 16 := by omega
  have e4 : ((q % 16 : Nat) : Int) = (q : Int) % 16 := by omega
  rw [e1] at w1
  rw [e2] at w2
  rw [e3] at w3
  rw [e4] at w4
  clear z3 z4 z5 z6 z7 h1 h2 h3 h4 hv e1 e2 e3 e4
  go_enter Tryd.func16, Tryd.ntmps16
  go_wp2
  have hx := Box.new w 29 #[.int .i64 d, .int .i64 q, .int .i64 n]
  have bel : Below w.heap.size w (w.alloc (Obj.cells #[.int .i64 d, .int .i64 q, .int .i64 n] 29)) := (Below.refl w.heap.size w).alloc (Nat.le_refl _) _
  obtain ⟨v, hv⟩ : ∃ v, v = w.alloc (Obj.cells #[.int .i64 d, .int .i64 q, .int .i64 n] 29) := ⟨_, rfl⟩
  rw [← hv] at hx bel ⊢
  clear hv
  have k0 := cell_regrown (hx.cell 0)
  have k1 := cell_regrown (hx.cell 1)
  simp at k0 k1
  have g1 : ∀ dn os, Calls Tryd.prog 34 #[.int .i64 ((d : Int) / 16)] (Go.Sort.grow (redrawn v dn) os) fun e w'' => e = .returned (.string D1) ∧ ∃ p : Regrown, w'' = Go.Sort.grow (redrawn v p.d) p.os := fun dn os => Calls.regrown_of (w1 _)
  have g2 : ∀ dn os, Calls Tryd.prog 34 #[.int .i64 ((d : Int) % 16)] (Go.Sort.grow (redrawn v dn) os) fun e w'' => e = .returned (.string D2) ∧ ∃ p : Regrown, w'' = Go.Sort.grow (redrawn v p.d) p.os := fun dn os => Calls.regrown_of (w2 _)
  have g3 : ∀ dn os, Calls Tryd.prog 34 #[.int .i64 ((q : Int) / 16)] (Go.Sort.grow (redrawn v dn) os) fun e w'' => e = .returned (.string Q1) ∧ ∃ p : Regrown, w'' = Go.Sort.grow (redrawn v p.d) p.os := fun dn os => Calls.regrown_of (w3 _)
  have g4 : ∀ dn os, Calls Tryd.prog 34 #[.int .i64 ((q : Int) % 16)] (Go.Sort.grow (redrawn v dn) os) fun e w'' => e = .returned (.string Q2) ∧ ∃ p : Regrown, w'' = Go.Sort.grow (redrawn v p.d) p.os := fun dn os => Calls.regrown_of (w4 _)
  clear w1 w2 w3 w4
  refine wp_region_quiet_below (by kernel_rfl) (by kernel_rfl) ?_
  repeat (go_big_quiet_step ((go_at_call 34; first | with_reducible exact g1 _ _ | with_reducible exact g2 _ _ | with_reducible exact g3 _ _ | with_reducible exact g4 _ _)))
  refine wpQuiet_nil ?_
  intro w9 hw9
  obtain ⟨p, rfl⟩ := hw9
  have bel2 : Below w.heap.size w (Go.Sort.grow (redrawn v p.d) p.os) := bel.trans ((below_regrown v p.d p.os).mono bel.size)
  obtain ⟨w2, hw2⟩ : ∃ w2, w2 = Go.Sort.grow (redrawn v p.d) p.os := ⟨_, rfl⟩
  rw [← hw2] at bel2 ⊢
  clear hw2
  go_wp2
  exact HR.out _ _ ⟨rfl, bel2⟩
end Go.Proofs.YtlcglijkpbojgaaDoor

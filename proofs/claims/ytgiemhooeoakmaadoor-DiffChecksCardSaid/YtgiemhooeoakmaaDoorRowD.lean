/- Layers 17, 23: may a value be; is a table few? A table as the reference has it. -/
import Derived.Test.YtgiemhooeoakmaaDoorRowC
namespace Go.Proofs.YtgiemhooeoakmaaDoor
open Go.RowKit Go.ChangeShapes Go.WideShapes
set_option linter.unusedVariables false
set_option linter.unusedSimpArgs false

set_option maxHeartbeats 4000000 in
set_option maxRecDepth 100000 in
theorem right_any (k n b : Int) (s : ByteArray) (w : World) (hs : s.size ≤ 100000) :
    Calls Tryd.prog 87 #[.agg #[.int .i64 k, .string s, .int .i64 n, .int .i64 b]] w fun e w' => (∃ g : Bool, e = .returned (.bool g)) ∧ Below w.heap.size w w' := by
  refine cps fun R HR => ?_
  obtain ⟨wl, hwl⟩ : ∃ wl, wl = wholeR s.data.toList := ⟨_, rfl⟩
  have HWL := Lib.hid hwl
  clear hwl
  go_enter Tryd.func87, Tryd.ntmps87
  go_wp2
  all_goals
    first
    | exact HR.out _ _ ⟨⟨false, rfl⟩, (Below.refl _ _).alloc (Nat.le_refl _) _⟩
    | (generalize hw2 : w.alloc (Obj.cells _ _) = w2
       have hB2 : Below w.heap.size w w2 := by rw [← hw2]; exact (Below.refl _ _).alloc (Nat.le_refl _) _
       have b0 : w2.cell? ⟨w.heap.size, 1, none⟩ = some (.string s) := by rw [← hw2]; exact (Box.new w 112 _).cell 1
       have k1 := cell_regrown b0
       have gW : ∀ dn os, Calls Tryd.prog 103 #[.string s] (Go.Sort.grow (redrawn w2 dn) os) fun e w'' => e = .returned (.int .i64 wl) ∧ ∃ p : Regrown, w'' = Go.Sort.grow (redrawn w2 p.d) p.os := fun dn os => Calls.regrown_of (by
         rw [HWL.out]
         exact whole_any s _ (by unfold maxLen; omega))
       clear hw2
       refine wp_region_quiet_below (by kernel_rfl) (by kernel_rfl) ?_
       repeat (go_big_quiet_step ((go_at_call 103; with_reducible exact gW _ _)))
       refine wpQuiet_nil ?_
       intro w9 hw9
       have bel2 : Below w2.heap.size w2 w9 := by obtain ⟨p, rfl⟩ := hw9; exact below_regrown _ p.d p.os
       have hB9 := hB2.trans (bel2.mono hB2.size)
       clear hw9 gW k1
       go_wp2
       exact HR.out _ _ ⟨⟨_, rfl⟩, hB9⟩)
def fewTab (l : List Col) (t : VTab) : Prop := (l.length ≤ 12 ∧ ∀ c ∈ l, c.name.size ≤ 40) ∧ smallT t
set_option maxHeartbeats 2000000 in
theorem few23_any (v u : Value) (l : List Col) (t : VTab) (w : World) (h1 : RdC w w.heap.size v l) (h : RdVT w w.heap.size u t) :
    Calls Tryd.prog 57 #[.agg #[v, u]] w fun e w' => (∃ g : Bool, e = .returned (.bool g) ∧ (g = true → fewTab l t)) ∧ Below w.heap.size w w' := by
  refine cps fun R HR => ?_
  have g0 := h1
  have h0 := h
  obtain ⟨A1, c1, rfl, -⟩ := h1.is
  obtain ⟨A, c, vs, rfl, -, -⟩ := h.is
  have hfew := h0.few
  clear h h1
  have bw0 := (Below.refl w.heap.size w).alloc (Nat.le_refl _) (.cells #[.slice A1 l.length c1, .slice A t.length c] 25)
  have X := Box.new w 25 #[.slice A1 l.length c1, .slice A t.length c]
  obtain ⟨w0, hw0⟩ : ∃ w0, w0 = w.alloc (.cells #[.slice A1 l.length c1, .slice A t.length c] 25) := ⟨_, rfl⟩
  have HX := Lib.hid X
  clear hw0 w0
  go_enter Tryd.func57, Tryd.ntmps57
  go_wp2_with fail
  refine (fewCols_any _ l _ (RdF.next g0 bw0)).mono ?_
  rintro e w1 ⟨⟨g, rfl, hg⟩, b1⟩
  have bw1 := bw0.trans (b1.mono bw0.size)
  have X1 := HX.out.below b1 HX.out.lt
  have y1 := X1.cell 1
  cases g
  · clear hg
    go_wp2
    exact HR.out _ _ ⟨⟨false, rfl, fun h => by cases h⟩, bw1⟩
  · have hc := hg rfl
    have HC := Lib.hid hc
    clear hc hg
    go_wp2_with fail
    refine (small_any _ t _ (RdE.next (RdF.stays valV 4) h0 bw1)).mono ?_
    rintro e w2 ⟨⟨g, rfl, hg⟩, b2⟩
    have bw2 := bw1.trans (b2.mono bw1.size)
    have X2 := X1.below b2 X1.lt
    have y2 := X2.cell 1
    clear y1
    cases g
    · clear hg
      go_wp2
      exact HR.out _ _ ⟨⟨false, rfl, fun h => by cases h⟩, bw2⟩
    · have hsm := hg rfl
      have HSM := Lib.hid hsm
      clear hsm hg
      obtain ⟨w5, rfl⟩ : ∃ w5 : World, w5 = w2 := ⟨_, rfl⟩
      clear X2 X1 b1 b2 bw1 bw0
      go_wp2
      go_loopw [20] (fun i wr => ∃ k : Nat, k ≤ t.length ∧ i = .int .i64 k ∧ Below w.heap.size w wr) (fun i _ => t.length - (intOf i).toNat)
      case atStart => exact ⟨0, Nat.zero_le _, rfl, bw2⟩
      case round =>
        obtain ⟨k, hk, rfl, hB⟩ := hrel
        obtain ⟨w3, rfl⟩ : ∃ w3 : World, w3 = wr := ⟨_, rfl⟩
        by_cases hlt : k < t.length
        · obtain ⟨a, c3, u, hv, hc, hu⟩ := (RdE.next (RdF.stays valV 4) h0 hB).at hlt
          injection hv with hA _ hcc
          subst hA
          subst hcc
          have hsx := fun y hy => (HSM.out.2 _ (List.getElem_mem hlt)).2 y hy
          obtain ⟨x, hx⟩ : ∃ x, x = t[k] := ⟨_, rfl⟩
          rw [← hx] at hu hsx
          have HSX := Lib.hid hsx
          clear hx hsx
          have hu0 := hu
          obtain ⟨A2, c2, rfl, -⟩ := hu.is
          have hxf := RdF.few hu0
          clear hu
          have dk : decide ((k : Int) < t.length) = true := decide_eq_true (by omega)
          go_wp2
          go_loopw [26] (fun i wr => ∃ m : Nat, m ≤ x.length ∧ i = .int .i64 m ∧ Below w3.heap.size w3 wr) (fun i _ => x.length - (intOf i).toNat)
          case atStart => exact ⟨0, Nat.zero_le _, rfl, Below.refl _ _⟩
          case round =>
            obtain ⟨m, hm, rfl, hB3⟩ := hrel
            by_cases hlt2 : m < x.length
            · obtain ⟨a2, c5, hv2, q0, q1, q2, q3⟩ := RdV.at (hu0.below hB3) hlt2
              injection hv2 with hA _ hcc
              subst hA
              subst hcc
              have hys := HSX.out _ (List.getElem_mem hlt2)
              obtain ⟨y, hy⟩ : ∃ y, y = x[m] := ⟨_, rfl⟩
              rw [← hy] at q0 q1 q2 q3 hys
              obtain ⟨yk, ys, yn, yb⟩ := y
              clear hy
              have dm : decide ((m : Int) < x.length) = true := decide_eq_true (by omega)
              have hb3 := hB3.alloc hB3.size (.cells #[.int .i64 yk, .string ys, .int .i64 yn, .bool yb] 96)
              have hys2 : ys.size ≤ 100000 := Nat.le_trans hys (by omega)
              go_wp2_with fail
              refine (refVal_at yk yn _ ys yb _ rfl).mono ?_
              rintro e w4 ⟨rfl, b4⟩
              have hb4 := hb3.trans (b4.mono hb3.size)
              go_wp2_with fail
              refine (right_any yk yn _ ys _ hys2).mono ?_
              rintro e w6 ⟨⟨g, rfl⟩, b6⟩
              have hb6 := hb4.trans (b6.mono hb4.size)
              cases g
              · go_wp2
                exact HR.out _ _ ⟨⟨false, rfl, fun h => by cases h⟩, hB.trans (hb6.mono hB.size)⟩
              · go_wp2
                exact ⟨⟨m + 1, by omega, by go_num, hb6⟩, by simp [intOf]; omega⟩
            · obtain rfl : m = x.length := by omega
              go_wp2
              exact ⟨⟨k + 1, by omega, by go_num, hB.trans (hB3.mono hB.size)⟩, by simp [intOf]; omega⟩
        · go_wp2
          exact HR.out _ _ ⟨⟨true, rfl, fun _ => ⟨HC.out, HSM.out⟩⟩, hB⟩
end Go.Proofs.YtgiemhooeoakmaaDoor

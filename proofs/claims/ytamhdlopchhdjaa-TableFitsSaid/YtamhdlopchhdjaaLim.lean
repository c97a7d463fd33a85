/- Layer 1's limits, where a law of another layer reaches them. -/
import Derived.Test.YtamhdlopchhdjaaOpen
import Derived.Lib.SmallJoins
namespace Go.Proofs.Ytamhdlopchhdjaa
open Go.RowKit Go.ChangeShapes Go.WideShapes Go.Joins
set_option linter.unusedVariables false
set_option linter.unusedSimpArgs false

def fitsL (a b c : Int) : Bool := decide (1 ≤ a) && decide (1 ≤ b) && decide (1 ≤ c) && decide (a ≤ 2147483648) && decide (b ≤ 2147483648) && decide (c ≤ 2147483648)
def limL (a b c : Int) : Nat := if fitsL a b c then 0 else 2
theorem lim_no {a b c : Int} (h : ¬ (1 ≤ a ∧ 1 ≤ b ∧ 1 ≤ c ∧ a ≤ 2147483648 ∧ b ≤ 2147483648 ∧ c ≤ 2147483648)) : limL a b c = 2 := by
  unfold limL
  rw [if_neg]
  intro hf
  unfold fitsL at hf
  simp only [Bool.and_eq_true, decide_eq_true_eq] at hf
  omega
theorem lim_yes {a b c : Int} (h : 1 ≤ a ∧ 1 ≤ b ∧ 1 ≤ c ∧ a ≤ 2147483648 ∧ b ≤ 2147483648 ∧ c ≤ 2147483648) : limL a b c = 0 := by
  unfold limL
  rw [if_pos]
  unfold fitsL
  simp only [Bool.and_eq_true, decide_eq_true_eq]
  omega
set_option maxRecDepth 100000 in
theorem limits_any (a b c : Int) (u : Bool) (w : World) :
    Calls Try.prog 32 #[.agg #[.int .i64 a, .int .i64 b, .int .i64 c, .bool u]] w fun r w' => r = .returned (.int .i64 (limL a b c)) ∧ Below w.heap.size w w' := by
  refine cps fun R HR => ?_
  go_enter Try.func32, Try.ntmps32
  go_wp2
  all_goals
    refine HR.out _ _ ⟨?_, (Below.refl w.heap.size w).alloc (Nat.le_refl _) _⟩
    first
    | rw [lim_no (by omega)]; rfl
    | rw [lim_yes (by omega)]; rfl
def boolI (u : Bool) : Int := if u then 1 else 0
theorem refLimits_any (a b c : Int) (u : Bool) (w : World) :
    Calls Try.prog 25 #[.agg #[.int .i64 a, .int .i64 b, .int .i64 c, .bool u]] w fun r w' => r = .returned (.agg #[.int .i64 a, .int .i64 b, .int .i64 c, .int .i64 (boolI u)]) ∧ Below w.heap.size w w' := by
  refine cps fun R HR => ?_
  go_enter Try.func25, Try.ntmps25
  cases u
  · go_wp2
    have X : Box (((w.alloc (Obj.cells #[.int .i64 a, .int .i64 b, .int .i64 c, .bool false] 45)).alloc (Obj.cells #[.int .i64 a, .int .i64 b, .int .i64 c, .int .i64 0] 50)).alloc (Obj.cells #[.int .i64 a, .int .i64 b, .int .i64 c, .int .i64 0] 50)) (w.heap.size + 1) 50 #[.int .i64 a, .int .i64 b, .int .i64 c, .int .i64 0] := by
      have := (Box.new (w.alloc (Obj.cells #[.int .i64 a, .int .i64 b, .int .i64 c, .bool false] 45)) 50 #[.int .i64 a, .int .i64 b, .int .i64 c, .int .i64 0]).alloc (Obj.cells #[.int .i64 a, .int .i64 b, .int .i64 c, .int .i64 0] 50)
      simpa using this
    have bel : Below w.heap.size w (((w.alloc (Obj.cells #[.int .i64 a, .int .i64 b, .int .i64 c, .bool false] 45)).alloc (Obj.cells #[.int .i64 a, .int .i64 b, .int .i64 c, .int .i64 0] 50)).alloc (Obj.cells #[.int .i64 a, .int .i64 b, .int .i64 c, .int .i64 0] 50)) := (((Below.refl w.heap.size w).alloc (Nat.le_refl _) _).alloc (by simp) _).alloc (by simp; omega) _
    have c0 := X.cell 0
    have c1 := X.cell 1
    have c2 := X.cell 2
    have c3 := X.cell 3
    simp at c0 c1 c2 c3
    refine bodyPost_ret (v := .agg #[.int .i64 a, .int .i64 b, .int .i64 c, .int .i64 0]) (by simp [results, Try.results25, go_sem, c0, c1, c2, c3]) rfl (HR.out _ _ ⟨rfl, bel⟩)
  · go_wp2
    have X : Box (((w.alloc (Obj.cells #[.int .i64 a, .int .i64 b, .int .i64 c, .bool true] 45)).alloc (Obj.cells #[.int .i64 a, .int .i64 b, .int .i64 c, .int .i64 1] 50)).alloc (Obj.cells #[.int .i64 a, .int .i64 b, .int .i64 c, .int .i64 1] 50)) (w.heap.size + 1) 50 #[.int .i64 a, .int .i64 b, .int .i64 c, .int .i64 1] := by
      have := (Box.new (w.alloc (Obj.cells #[.int .i64 a, .int .i64 b, .int .i64 c, .bool true] 45)) 50 #[.int .i64 a, .int .i64 b, .int .i64 c, .int .i64 1]).alloc (Obj.cells #[.int .i64 a, .int .i64 b, .int .i64 c, .int .i64 1] 50)
      simpa using this
    have bel : Below w.heap.size w (((w.alloc (Obj.cells #[.int .i64 a, .int .i64 b, .int .i64 c, .bool true] 45)).alloc (Obj.cells #[.int .i64 a, .int .i64 b, .int .i64 c, .int .i64 1] 50)).alloc (Obj.cells #[.int .i64 a, .int .i64 b, .int .i64 c, .int .i64 1] 50)) := (((Below.refl w.heap.size w).alloc (Nat.le_refl _) _).alloc (by simp) _).alloc (by simp; omega) _
    have c0 := X.cell 0
    have c1 := X.cell 1
    have c2 := X.cell 2
    have c3 := X.cell 3
    simp at c0 c1 c2 c3
    refine bodyPost_ret (v := .agg #[.int .i64 a, .int .i64 b, .int .i64 c, .int .i64 1]) (by simp [results, Try.results25, go_sem, c0, c1, c2, c3]) rfl (HR.out _ _ ⟨rfl, bel⟩)
set_option maxHeartbeats 1000000 in
theorem fits_any (a b c u : Int) (w : World) :
    Calls Try.prog 24 #[.agg #[.int .i64 a, .int .i64 b, .int .i64 c, .int .i64 u]] w fun r w' => r = .returned (.bool (fitsL a b c)) ∧ Below w.heap.size w w' := by
  refine cps fun R HR => ?_
  have x0 : ∀ (x y z : Int) (w : World), (Instr.index 61 (.agg #[.int .i64 x, .int .i64 y, .int .i64 z]) (.int .i64 0)).run Try.prog w = .ok (.int .i64 x) w := fun _ _ _ _ => by kernel_rfl
  have x1 : ∀ (x y z : Int) (w : World), (Instr.index 61 (.agg #[.int .i64 x, .int .i64 y, .int .i64 z]) (.int .i64 1)).run Try.prog w = .ok (.int .i64 y) w := fun _ _ _ _ => by kernel_rfl
  have x2 : ∀ (x y z : Int) (w : World), (Instr.index 61 (.agg #[.int .i64 x, .int .i64 y, .int .i64 z]) (.int .i64 2)).run Try.prog w = .ok (.int .i64 z) w := fun _ _ _ _ => by kernel_rfl
  obtain ⟨M, hM⟩ : ∃ M : Int, M = 2147483648 := ⟨_, rfl⟩
  have fa : fitsL a b c = true ↔ (1 ≤ a ∧ a ≤ M) ∧ (1 ≤ b ∧ b ≤ M) ∧ (1 ≤ c ∧ c ≤ M) := by
    unfold fitsL
    simp only [Bool.and_eq_true, decide_eq_true_eq]
    omega
  have FA := Lib.hid fa; clear fa
  have HM := Lib.hid hM; clear hM
  go_enter Try.func24, Try.ntmps24
  go_wp2
  go_loopw [12] (fun i wr => ∃ k : Nat, k ≤ 3 ∧ i = .int .i64 k ∧ (1 ≤ k → 1 ≤ a ∧ a ≤ M) ∧ (2 ≤ k → 1 ≤ b ∧ b ≤ M) ∧ (3 ≤ k → 1 ≤ c ∧ c ≤ M) ∧ wr = w.alloc (Obj.cells #[.int .i64 a, .int .i64 b, .int .i64 c, .int .i64 u] 50)) (fun i _ => 4 - (intOf i).toNat)
  case atStart => exact ⟨0, by omega, rfl, fun h => by omega, fun h => by omega, fun h => by omega, rfl⟩
  case round =>
    obtain ⟨k, hk, rfl, hp1, hp2, hp3, rfl⟩ := hrel
    have bel : Below w.heap.size w (w.alloc (Obj.cells #[.int .i64 a, .int .i64 b, .int .i64 c, .int .i64 u] 50)) := (Below.refl w.heap.size w).alloc (Nat.le_refl _) _
    obtain rfl | rfl | rfl | rfl : k = 0 ∨ k = 1 ∨ k = 2 ∨ k = 3 := by omega
    · clear hp1 hp2 hp3
      by_cases h : 1 ≤ a ∧ a ≤ M
      · have H := Lib.hid h
        have d1 : decide (a < 1) = false := decide_eq_false (by omega)
        have d2 : decide (2147483648 < a) = false := decide_eq_false (by have := HM.out; omega)
        clear h
        go_wp2
        refine ⟨⟨1, by omega, by go_num, ?_⟩, by simp [intOf]⟩
        simp [H.out]
      · have HF := Lib.hid (show fitsL a b c = false by rw [Bool.eq_false_iff]; intro hf; exact h (FA.out.1 hf).1)
        by_cases h1 : a < 1
        · have d1 : decide (a < 1) = true := decide_eq_true h1
          clear h h1
          go_wp2
          exact HR.out _ _ ⟨by rw [HF.out]; rfl, bel⟩
        · have d1 : decide (a < 1) = false := decide_eq_false h1
          have d2 : decide (2147483648 < a) = true := decide_eq_true (by have := HM.out; omega)
          clear h h1
          go_wp2
          exact HR.out _ _ ⟨by rw [HF.out]; rfl, bel⟩
    · have ha := Lib.hid (hp1 (by omega))
      clear hp1 hp2 hp3
      by_cases h : 1 ≤ b ∧ b ≤ M
      · have H := Lib.hid h
        have d1 : decide (b < 1) = false := decide_eq_false (by omega)
        have d2 : decide (2147483648 < b) = false := decide_eq_false (by have := HM.out; omega)
        clear h
        go_wp2
        refine ⟨⟨2, by omega, by go_num, ?_⟩, by simp [intOf]⟩
        simp [H.out, ha.out]
      · have HF := Lib.hid (show fitsL a b c = false by rw [Bool.eq_false_iff]; intro hf; exact h (FA.out.1 hf).2.1)
        by_cases h1 : b < 1
        · have d1 : decide (b < 1) = true := decide_eq_true h1
          clear h h1
          go_wp2
          exact HR.out _ _ ⟨by rw [HF.out]; rfl, bel⟩
        · have d1 : decide (b < 1) = false := decide_eq_false h1
          have d2 : decide (2147483648 < b) = true := decide_eq_true (by have := HM.out; omega)
          clear h h1
          go_wp2
          exact HR.out _ _ ⟨by rw [HF.out]; rfl, bel⟩
    · have ha := Lib.hid (hp1 (by omega))
      have hb := Lib.hid (hp2 (by omega))
      clear hp1 hp2 hp3
      by_cases h : 1 ≤ c ∧ c ≤ M
      · have H := Lib.hid h
        have d1 : decide (c < 1) = false := decide_eq_false (by omega)
        have d2 : decide (2147483648 < c) = false := decide_eq_false (by have := HM.out; omega)
        clear h
        go_wp2
        refine ⟨⟨3, by omega, by go_num, ?_⟩, by simp [intOf]⟩
        simp [H.out, ha.out, hb.out]
      · have HF := Lib.hid (show fitsL a b c = false by rw [Bool.eq_false_iff]; intro hf; exact h (FA.out.1 hf).2.2)
        by_cases h1 : c < 1
        · have d1 : decide (c < 1) = true := decide_eq_true h1
          clear h h1
          go_wp2
          exact HR.out _ _ ⟨by rw [HF.out]; rfl, bel⟩
        · have d1 : decide (c < 1) = false := decide_eq_false h1
          have d2 : decide (2147483648 < c) = true := decide_eq_true (by have := HM.out; omega)
          clear h h1
          go_wp2
          exact HR.out _ _ ⟨by rw [HF.out]; rfl, bel⟩
    · have HF := Lib.hid (show fitsL a b c = true from FA.out.2 ⟨hp1 (by omega), hp2 (by omega), hp3 (by omega)⟩)
      clear hp1 hp2 hp3
      go_wp2
      exact HR.out _ _ ⟨by rw [HF.out]; rfl, bel⟩
section
variable {H : Type} {enc : TypeId × Value → H} {w : World}
theorem open_limits {v : Value} {d : DataW H} {p : List MemPlace} {r : Reach} {b0 base : Nat} {spare : Nat → Bool} {held : Bool} (hv : Value.okWide Try.prog w r b0 45 v)
    (h : DataW.Trod enc Try.prog w base spare held 45 v d p) (hsz : Sized Try.prog 45 d) :
    ∃ (a b c : Int) (u : Bool), v = .agg #[.int .i64 a, .int .i64 b, .int .i64 c, .bool u] := by
  obtain ⟨v0, v1, v2, v3, y0, y1, y2, y3, n, rfl, -, -, h0, h1, h2, h3⟩ := open_agg4 Try.underlying45 (by kernel_rfl) (by kernel_rfl) hv h
  obtain ⟨z0, g0, _, f0⟩ := DataW.trod_int Try.underlying3 h0
  obtain ⟨z1, g1, _, f1⟩ := DataW.trod_int Try.underlying3 h1
  obtain ⟨z2, g2, _, f2⟩ := DataW.trod_int Try.underlying3 h2
  obtain ⟨z3, g3, _⟩ := DataW.trod_bool Try.underlying4 h3
  simp at g0 g1 g2 g3
  subst g0 g1 g2 g3
  exact ⟨_, _, _, _, rfl⟩
end
end Go.Proofs.Ytamhdlopchhdjaa

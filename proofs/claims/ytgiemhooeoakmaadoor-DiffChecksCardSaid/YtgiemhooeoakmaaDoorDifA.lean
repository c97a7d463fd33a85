/- Layer 25: same, find and its closures. -/
import Derived.Test.YtgiemhooeoakmaaDoorFnD
import Derived.Test.YtgiemhooeoakmaaDoorCmpV
import Derived.Lib.QuietBelow
namespace Go.Proofs.YtgiemhooeoakmaaDoor
open Go.RowKit Go.ChangeShapes Go.WideShapes
set_option linter.unusedVariables false
set_option linter.unusedSimpArgs false

def val0 : Val := ⟨0, ⟨#[]⟩, 0, false⟩
theorem dsame_at (ak bk an bn : Int) (a1 b1 : ByteArray) (ab bb : Bool) (w : World) :
    Calls Tryd.prog 70 #[.agg #[.int .i64 ak, .string a1, .int .i64 an, .bool ab], .agg #[.int .i64 bk, .string b1, .int .i64 bn, .bool bb]] w fun e w' => e = .returned (.bool (decide ((⟨ak, a1, an, ab⟩ : Val) = ⟨bk, b1, bn, bb⟩))) ∧ Below w.heap.size w w' := by
  refine cps fun R HR => ?_
  have hz := cmpV_zero (a := ⟨ak, a1, an, ab⟩) (b := ⟨bk, b1, bn, bb⟩)
  obtain ⟨n, hn⟩ : ∃ n, n = cmpV ⟨ak, a1, an, ab⟩ ⟨bk, b1, bn, bb⟩ := ⟨_, rfl⟩
  rw [← hn] at hz
  have HN := Lib.hid hn
  have d : (n == 0) = decide ((⟨ak, a1, an, ab⟩ : Val) = ⟨bk, b1, bn, bb⟩) := by rw [Bool.eq_iff_iff, beq_iff_eq, decide_eq_true_iff]; exact hz
  obtain ⟨t, ht⟩ : ∃ t, t = decide ((⟨ak, a1, an, ab⟩ : Val) = ⟨bk, b1, bn, bb⟩) := ⟨_, rfl⟩
  rw [← ht] at HR d
  have bw : Below w.heap.size w ((w.alloc (.cells #[.int .i64 ak, .string a1, .int .i64 an, .bool ab] 96)).alloc (.cells #[.int .i64 bk, .string b1, .int .i64 bn, .bool bb] 96)) := ((Below.refl _ _).alloc (Nat.le_refl _) _).alloc (by simp) _
  clear hn hz ht
  go_enter Tryd.func70, Tryd.ntmps70
  go_wp2_with fail
  refine (compare_any ⟨ak, a1, an, ab⟩ ⟨bk, b1, bn, bb⟩ _).mono ?_
  rintro e w1 ⟨rfl, b1⟩
  rw [← HN.out]
  have bw1 := bw.trans (b1.mono bw.size)
  go_wp2
  exact HR.out _ _ ⟨rfl, bw1⟩
/-- Are the values at a place unlike? -/
def unP (x r : VRow) (p : Int) : Bool := !decide (x.getD p.toNat val0 = r.getD p.toNat val0)
def alikeP (ps : List Int) (r x : VRow) : Bool := !ps.any (unP x r)
theorem getD_at {l : VRow} {q : Nat} (h : q < l.length) : l.getD q val0 = l[q] := by rw [List.getD_eq_getElem?_getD, List.getElem?_eq_getElem h]; rfl
set_option maxHeartbeats 1000000 in
theorem findUn_any (gx gr : Nat) (vx vr : Value) (x r : VRow) (p : Int) (w : World) (hx : w.cell? ⟨gx, 0, none⟩ = some vx) (hr : w.cell? ⟨gr, 0, none⟩ = some vr) (rx : RdV w w.heap.size vx x) (rr : RdV w w.heap.size vr r) (h0 : 0 ≤ p) (h1 : p < x.length) (h2 : p < r.length) :
    Calls Tryd.prog 102 #[.int .i64 p, .pointer (some ⟨gx, 0, none⟩), .pointer (some ⟨gr, 0, none⟩)] w fun e w' => e = .returned (.bool (unP x r p)) ∧ Below w.heap.size w w' := by
  refine cps fun R HR => ?_
  obtain ⟨q, rfl⟩ := Int.eq_ofNat_of_zero_le h0
  have hqx : q < x.length := by omega
  have hqr : q < r.length := by omega
  have hu : unP x r (q : Int) = !decide (x[q] = r[q]) := by unfold unP; rw [Int.toNat_natCast, getD_at hqx, getD_at hqr]
  rw [hu] at HR
  obtain ⟨a, c, rfl, p0, p1, p2, p3⟩ := RdV.at rx hqx
  obtain ⟨a', c', rfl, q0, q1, q2, q3⟩ := RdV.at rr hqr
  obtain ⟨⟨xk, xs, xn, xb⟩, hxq⟩ : ∃ y, y = x[q] := ⟨_, rfl⟩
  obtain ⟨⟨rk, rs, rn, rb⟩, hrq⟩ : ∃ y, y = r[q] := ⟨_, rfl⟩
  rw [← hxq] at p0 p1 p2 p3
  rw [← hrq] at q0 q1 q2 q3
  rw [← hxq, ← hrq] at HR
  obtain ⟨t, ht⟩ : ∃ t, t = decide ((⟨xk, xs, xn, xb⟩ : Val) = ⟨rk, rs, rn, rb⟩) := ⟨_, rfl⟩
  rw [← ht] at HR
  have gS : ∀ dn os, Calls Tryd.prog 70 #[.agg #[.int .i64 xk, .string xs, .int .i64 xn, .bool xb], .agg #[.int .i64 rk, .string rs, .int .i64 rn, .bool rb]] (Go.Sort.grow (redrawn w dn) os) fun e w'' => e = .returned (.bool t) ∧ ∃ p : Regrown, w'' = Go.Sort.grow (redrawn w p.d) p.os := fun dn os => Calls.regrown_of (by
    rw [ht]
    exact dsame_at xk rk xn rn xs rs xb rb _)
  have k0 := cell_regrown hx
  have k1 := cell_regrown hr
  have e0 := cell_regrown p0
  have e1 := cell_regrown p1
  have e2 := cell_regrown p2
  have e3 := cell_regrown p3
  have f0 := cell_regrown q0
  have f1 := cell_regrown q1
  have f2 := cell_regrown q2
  have f3 := cell_regrown q3
  have i1 : (q : Int) < x.length := h1
  have i2 : (q : Int) < r.length := h2
  have hfx := RdF.few rx
  have hfr := RdF.few rr
  clear hxq hrq ht hu hx hr p0 p1 p2 p3 q0 q1 q2 q3 rx rr h1 h2 h0
  go_enter Tryd.func102, Tryd.ntmps102
  go_wp2
  refine wp_region_quiet_below (by kernel_rfl) (by kernel_rfl) ?_
  repeat (go_big_quiet_step ((go_at_call 70; with_reducible exact gS _ _)))
  refine wpQuiet_nil ?_
  intro w9 hw9
  have bel : Below w.heap.size w w9 := by obtain ⟨p, rfl⟩ := hw9; exact below_regrown _ p.d p.os
  clear hw9 gS k0 k1 e0 e1 e2 e3 f0 f1 f2 f3
  go_wp2
  exact HR.out _ _ ⟨rfl, bel⟩
end Go.Proofs.YtgiemhooeoakmaaDoor

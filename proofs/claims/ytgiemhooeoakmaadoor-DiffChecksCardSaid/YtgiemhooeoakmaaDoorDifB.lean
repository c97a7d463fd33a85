/- Layer 25: find; places. -/
import Derived.Test.YtgiemhooeoakmaaDoorDifA
import Derived.Test.YtgiemhooeoakmaaDoorSchF
import Derived.Test.YtgiemhooeoakmaaDoorIntC
namespace Go.Proofs.YtgiemhooeoakmaaDoor
open Go.RowKit Go.ChangeShapes Go.WideShapes
set_option linter.unusedVariables false
set_option linter.unusedSimpArgs false

theorem find1row_any (gp gr : Nat) (va vx vr : Value) (ps : List Int) (x r : VRow) (w : World) (hp : w.cell? ⟨gp, 0, none⟩ = some va) (hr : w.cell? ⟨gr, 0, none⟩ = some vr) (ra : RdI w w.heap.size va ps) (rx : RdV w w.heap.size vx x) (rr : RdV w w.heap.size vr r)
    (hb : ∀ p ∈ ps, 0 ≤ p ∧ p < x.length ∧ p < r.length) :
    Calls Tryd.prog 101 #[vx, .pointer (some ⟨gp, 0, none⟩), .pointer (some ⟨gr, 0, none⟩)] w fun e w' => e = .returned (.bool (alikeP ps r x)) ∧ Below w.heap.size w w' := by
  refine cps fun R HR => ?_
  obtain ⟨t, ht⟩ : ∃ t, t = ps.any (unP x r) := ⟨_, rfl⟩
  have ha : alikeP ps r x = !t := by rw [ht]; rfl
  rw [ha] at HR
  have b0 : Below w.heap.size w (w.alloc (.cells #[vx] 61)) := (Below.refl _ _).alloc (Nat.le_refl _) _
  have X := Box.new w 61 #[vx]
  have hP := fun p (hm : p ∈ ps) wk (hbk : Below (w.alloc (.cells #[vx] 61)).heap.size (w.alloc (.cells #[vx] 61)) wk) => findUn_any w.heap.size gr vx vr x r p wk ((X.below hbk X.lt).cell 0) ((((b0.trans (hbk.mono b0.size)).cell (p := ⟨gr, 0, none⟩) (World.block_lt_of_cell? w _ hr))).trans hr) (RdF.next (RdF.next rx b0) hbk) (RdF.next (RdF.next rr b0) hbk) (hb p hm).1 (hb p hm).2.1 (hb p hm).2.2
  have HP := Lib.hid hP; have HT := Lib.hid ht
  have ra1 := ra.next b0
  obtain ⟨xA, xc, rfl, -⟩ := rx.is
  obtain ⟨aA, ac, rfl, -⟩ := ra.is
  have hlt1 := World.block_lt_of_cell? w _ hp
  have hlt2 := World.block_lt_of_cell? w _ hr
  clear ha X hP ht hb
  go_enter Tryd.func101, Tryd.ntmps101
  go_wp2_with fail
  refine (anyUn_any _ _ _ ps (unP x r) _ ra1 HP.out).mono ?_
  rintro e w1 ⟨rfl, b1⟩
  rw [← HT.out]
  go_wp2
  exact HR.out _ _ ⟨rfl, b0.trans (b1.mono b0.size)⟩
/-- The place of the first row that is alike; -1: there is none. -/
def findP (ps : List Int) (r : VRow) (t : VTab) : Int := idxP (alikeP ps r) 0 t
set_option maxHeartbeats 1000000 in
theorem dfind_any (vt vr va : Value) (t : VTab) (r : VRow) (ps : List Int) (w : World) (ht : RdVT w w.heap.size vt t) (hr : RdV w w.heap.size vr r) (ha : RdI w w.heap.size va ps) (hb : ∀ x ∈ t, ∀ p ∈ ps, 0 ≤ p ∧ p < x.length ∧ p < r.length) :
    Calls Tryd.prog 62 #[vt, vr, va] w fun e w' => e = .returned (.int .i64 (findP ps r t)) ∧ Below w.heap.size w w' := by
  refine cps fun R HR => ?_
  unfold findP at HR
  obtain ⟨w0, hw0⟩ : ∃ w0, w0 = (w.alloc (.cells #[vr] 61)).alloc (.cells #[va] 102) := ⟨_, rfl⟩
  have b0 : Below w.heap.size w w0 := by rw [hw0]; exact ((Below.refl _ _).alloc (Nat.le_refl _) _).alloc (by simp) _
  have X := (Box.new w 61 #[vr]).alloc (.cells #[va] 102)
  have Z := Box.new (w.alloc (.cells #[vr] 61)) 102 #[va]
  rw [← hw0] at X Z
  rw [show (w.alloc (.cells #[vr] 61)).heap.size = w.heap.size + 1 by simp] at Z
  have hP : ∀ x ∈ t, ∀ wk u, Below w0.heap.size w0 wk → RdV wk wk.heap.size u x → Calls Tryd.prog 101 #[u, .pointer (some ⟨w.heap.size + 1, 0, none⟩), .pointer (some ⟨w.heap.size, 0, none⟩)] wk fun e w' => e = .returned (.bool (alikeP ps r x)) ∧ Below wk.heap.size wk w' :=
    fun x hx wk u hbk hux => find1row_any (w.heap.size + 1) w.heap.size va u vr ps x r wk ((Z.below hbk Z.lt).cell 0) ((X.below hbk X.lt).cell 0) ((ha.next b0).next hbk) hux (RdF.next (RdF.next hr b0) hbk) (hb x hx)
  have HP := Lib.hid hP; have HW0 := Lib.hid hw0
  have ht0 := RdE.next (RdF.stays valV 4) ht b0
  obtain ⟨rA, rc, rfl, -⟩ := hr.is
  obtain ⟨aA, ac, rfl, -⟩ := ha.is
  clear X Z hP hb hw0 ht
  go_enter Tryd.func62, Tryd.ntmps62
  go_wp2_with fail
  rw [← HW0.out]
  refine (idxRow_any _ _ _ t (alikeP ps r) _ ht0 HP.out).mono ?_
  rintro e w1 ⟨rfl, b1⟩
  go_wp2
  exact HR.out _ _ ⟨rfl, b0.trans (b1.mono b0.size)⟩
def nullP (r : VRow) (p : Int) : Bool := decide ((r.getD p.toNat val0).kind = 0)
theorem null1_any (gr : Nat) (vr : Value) (r : VRow) (p : Int) (w : World) (hr : w.cell? ⟨gr, 0, none⟩ = some vr) (rr : RdV w w.heap.size vr r) (h0 : 0 ≤ p) (h2 : p < r.length) :
    Calls Tryd.prog 61 #[.int .i64 p, .pointer (some ⟨gr, 0, none⟩)] w fun e w' => e = .returned (.bool (nullP r p)) ∧ Below w.heap.size w w' := by
  refine cps fun R HR => ?_
  obtain ⟨q, rfl⟩ := Int.eq_ofNat_of_zero_le h0
  have hqr : q < r.length := by omega
  have hu : nullP r (q : Int) = (r[q].kind == 0) := by unfold nullP; rw [Int.toNat_natCast, getD_at hqr]; rw [Bool.eq_iff_iff]; simp
  rw [hu] at HR
  obtain ⟨a', c', rfl, q0, q1, q2, q3⟩ := RdV.at rr hqr
  obtain ⟨⟨rk, rs, rn, rb⟩, hrq⟩ : ∃ y, y = r[q] := ⟨_, rfl⟩
  rw [← hrq] at q0 q1 q2 q3 HR
  obtain ⟨t, ht⟩ : ∃ t, t = (rk == 0) := ⟨_, rfl⟩
  have ht2 := ht.symm
  have HR2 : Hid (∀ e w', (e = .returned (.bool t) ∧ Below w.heap.size w w') → R e w') := by rw [ht]; exact HR
  have hfr := RdF.few rr
  clear hrq hu h0 rr HR ht
  go_enter Tryd.func61, Tryd.ntmps61
  go_wp2
  exact HR2.out _ _ ⟨rfl, Below.refl _ _⟩
end Go.Proofs.YtgiemhooeoakmaaDoor

/- With and Without part the first table's rows; Outer has as many rows as Inner and Without together; with no rows of the second one Inner and With are empty. The table of UTF-8 is laid as the text lays it; the card ties it. -/
import Derived.Test.YtgiemhooeoakmaaDoorCards
import Derived.Test.YtgiemhooeoakmaaDoorTie
import Derived.SizedLaws
import Derived.ProofKit
import Derived.OpenShut
import Derived.ShutString
import Derived.ChangeOld
import Derived.Below
import Derived.Deep.DeepHandedRow
import Derived.Deep.DeepWitnessRowRef
import Derived.Test.YtgiemhooeoakmaaDoorKL
import Derived.Test.YtgiemhooeoakmaaDoorKN
import Derived.Test.YtgiemhooeoakmaaDoorKM
import Derived.Test.YtgiemhooeoakmaaDoorKH
import Derived.Test.YtgiemhooeoakmaaDoorKE
namespace Go.Proofs.YtgiemhooeoakmaaDoor.joinParts
open Go.ChangeShapes Go.WideShapes Go.ChangeAt Go.RowKit
open Go.ChangeMaps (open_string shut_string)
set_option linter.unusedVariables false
set_option linter.unusedSimpArgs false

set_option maxHeartbeats 8000000 in
set_option maxRecDepth 100000 in
theorem walk (v : Value) (W : World) (hT : Tab W) (h0 : ∃ v1 u1 v2 u2 z la ta lb tb on, ∃ kind : Int, v = .agg #[v1, u1, v2, u2, z, .int .i64 kind] ∧ RdC W W.heap.size v1 la ∧ RdVT W W.heap.size u1 ta ∧ RdC W W.heap.size v2 lb ∧ RdVT W W.heap.size u2 tb ∧ RdOn W W.heap.size z on) :
    Calls Tryd.prog 5 #[v] W fun e w' => e = .returned (.bool true) ∧ Below W.heap.size W w' := by
  refine cps fun R HR => ?_
  obtain ⟨v1, u1, v2, u2, z, la, ta, lb, tb, on, kind, rfl, h1, h2, h3, h4, hu⟩ := h0
  have g1 := h1; have g2 := h2; have g3 := h3; have g4 := h4; have hu0 := hu
  obtain ⟨A1, c1, rfl, -⟩ := h1.is
  obtain ⟨A2, c2, vs, rfl, -, -⟩ := h2.is
  obtain ⟨A3, c3, rfl, -⟩ := h3.is
  obtain ⟨A4, c4, vs', rfl, -, -⟩ := h4.is
  obtain ⟨A5, c5, rfl, -⟩ := hu.is
  clear h1 h2 h3 h4 hu
  obtain ⟨w0, hw0⟩ : ∃ w0, w0 = W.alloc (.cells #[.slice A1 la.length c1, .slice A2 ta.length c2, .slice A3 lb.length c3, .slice A4 tb.length c4, .slice A5 on.length c5, .int .i64 kind] 52) := ⟨_, rfl⟩
  have bw0 : Below W.heap.size W w0 := by rw [hw0]; exact (Below.refl _ _).alloc (Nat.le_refl _) _
  have X := Box.new W 52 #[.slice A1 la.length c1, .slice A2 ta.length c2, .slice A3 lb.length c3, .slice A4 tb.length c4, .slice A5 on.length c5, .int .i64 kind]
  rw [← hw0] at X
  obtain ⟨g, hg⟩ : ∃ g, g = W.heap.size := ⟨_, rfl⟩
  rw [← hg] at X
  have cells : ∀ w' : World, Below w0.heap.size w0 w' → w'.cell? ⟨g, 0, none⟩ = some (.slice A1 la.length c1) ∧ w'.cell? ⟨g, 1, none⟩ = some (.slice A2 ta.length c2) ∧ w'.cell? ⟨g, 2, none⟩ = some (.slice A3 lb.length c3) ∧ w'.cell? ⟨g, 3, none⟩ = some (.slice A4 tb.length c4) ∧ w'.cell? ⟨g, 4, none⟩ = some (.slice A5 on.length c5) ∧ w'.cell? ⟨g, 5, none⟩ = some (.int .i64 kind) := fun w' hb => by
    have X2 := X.below hb X.lt
    exact ⟨X2.cell 0, X2.cell 1, X2.cell 2, X2.cell 3, X2.cell 4, X2.cell 5⟩
  obtain ⟨x0, x1, x2, x3, x4, x5⟩ := cells w0 (Below.refl _ _)
  have HX := Lib.hid X
  have CELLS := Lib.hid cells; have HW0 := Lib.hid hw0; have HB0 := Lib.hid bw0; have HG := Lib.hid hg
  have HT := Lib.hid hT
  clear X hw0 bw0 cells hT
  go_enter Tryd.func5, Tryd.ntmps5
  go_wp2_with fail
  rw [← HW0.out, ← hg]
  clear hg
  refine (fits23_any _ _ _ _ _ kind la lb ta tb on _ (RdF.next g1 HB0.out) (RdE.next (RdF.stays valV 4) g2 HB0.out) (RdF.next g3 HB0.out) (RdE.next (RdF.stays valV 4) g4 HB0.out) (RdF.next hu0 HB0.out)).mono ?_
  rintro e w1 ⟨⟨t, rfl, ht⟩, b1⟩
  have bw1 := HB0.out.trans (b1.mono HB0.out.size)
  clear x0 x1 x2 x3 x4 x5
  cases t
  · clear ht
    go_wp2_with fail
    refine (awake23_any _ (HT.out.below bw1)).mono ?_
    rintro e w99 ⟨rfl, b99⟩
    go_wp2
    exact HR.out _ _ ⟨rfl, bw1.trans (b99.mono bw1.size)⟩
  · obtain ⟨⟨⟨hla, hca⟩, hta, hra⟩, ⟨⟨hlb, hcb⟩, htb, hrb⟩, hk⟩ := ht rfl
    have hca2 : ∀ c ∈ la, c.name.size ≤ 100000 := fun c hc => Nat.le_trans (hca c hc) (by omega)
    have hcb2 : ∀ c ∈ lb, c.name.size ≤ 100000 := fun c hc => Nat.le_trans (hcb c hc) (by omega)
    have hra2 : ∀ r ∈ ta, r.length ≤ 100000 := fun r hr => Nat.le_trans (hra r hr).1 (by omega)
    have hrb2 : ∀ r ∈ tb, r.length ≤ 100000 := fun r hr => Nat.le_trans (hrb r hr).1 (by omega)
    have HCA := Lib.hid hca2; have HCB := Lib.hid hcb2; have HRA := Lib.hid hra2; have HRB := Lib.hid hrb2
    clear ht hca hcb hra hrb hca2 hcb2 hra2 hrb2
    obtain ⟨x0, x1, x2, x3, x4, x5⟩ := CELLS.out w1 b1
    have HX1 := (HX.out.below b1 HX.out.lt).put 5 (.int .i64 1)
    have y5 := (HX.out.below b1 HX.out.lt).frozen 5
    simp at HX1
    obtain ⟨w2, hw2⟩ : ∃ w2, w2 = w1.setCell ⟨g, 5, none⟩ (.int .i64 1) := ⟨_, rfl⟩
    rw [← hw2] at HX1
    have bw2 : Below W.heap.size W w2 := by rw [hw2]; exact bw1.setCell (by rw [HG.out]; exact Nat.le_refl _) _
    have cells2 : ∀ w' : World, Below w2.heap.size w2 w' → w'.cell? ⟨g, 0, none⟩ = some (.slice A1 la.length c1) ∧ w'.cell? ⟨g, 1, none⟩ = some (.slice A2 ta.length c2) ∧ w'.cell? ⟨g, 2, none⟩ = some (.slice A3 lb.length c3) ∧ w'.cell? ⟨g, 3, none⟩ = some (.slice A4 tb.length c4) ∧ w'.cell? ⟨g, 4, none⟩ = some (.slice A5 on.length c5) ∧ w'.cell? ⟨g, 5, none⟩ = some (.int .i64 1) := fun w' hb => by
      have X2 := HX1.below hb HX1.lt
      exact ⟨X2.cell 0, X2.cell 1, X2.cell 2, X2.cell 3, X2.cell 4, X2.cell 5⟩
    have CELLS2 := Lib.hid cells2; have HW2 := Lib.hid hw2; have HX2 := Lib.hid HX1
    obtain ⟨E, hE⟩ : ∃ E, E = joinE la lb ta tb on 1 := ⟨_, rfl⟩
    have HE := Lib.hid hE
    clear cells2 hw2 HX1 hE
    go_wp2_with fail
    rw [← HW2.out]
    refine (wrong_any _ _ _ _ _ 1 la lb ta tb on _ (RdF.next g1 bw2) (RdE.next (RdF.stays valV 4) g2 bw2) (RdF.next g3 bw2) (RdE.next (RdF.stays valV 4) g4 bw2) (RdF.next hu0 bw2) (by omega) (by omega) (by omega) (by omega) (by omega) HCA.out HCB.out).mono ?_
    rintro e w3 ⟨rfl, b3⟩
    rw [← HE.out]
    have bw3 := bw2.trans (b3.mono bw2.size)
    clear x0 x1 x2 x3 x4 x5 y5
    by_cases hz : E = 0
    · subst hz
      have he := HE.out.symm
      have HE1 := Lib.hid (joinE_kind (k := 1) he (by decide) (by decide))
      obtain ⟨N1, hN1⟩ : ∃ N, N = (rowsJ la lb ta tb on 1).length := ⟨_, rfl⟩
      have HN1 := Lib.hid hN1
      have HE2 := Lib.hid (joinE_kind (k := 2) he (by decide) (by decide))
      obtain ⟨N2, hN2⟩ : ∃ N, N = (rowsJ la lb ta tb on 2).length := ⟨_, rfl⟩
      have HN2 := Lib.hid hN2
      have HE3 := Lib.hid (joinE_kind (k := 3) he (by decide) (by decide))
      obtain ⟨N3, hN3⟩ : ∃ N, N = (rowsJ la lb ta tb on 3).length := ⟨_, rfl⟩
      have HN3 := Lib.hid hN3
      have HE4 := Lib.hid (joinE_kind (k := 4) he (by decide) (by decide))
      obtain ⟨N4, hN4⟩ : ∃ N, N = (rowsJ la lb ta tb on 4).length := ⟨_, rfl⟩
      have HN4 := Lib.hid hN4
      have HP := Lib.hid (rowsJ_parts la lb ta tb on); have NONE := Lib.hid (rowsJ_none la lb ta on)
      have hbd : ∀ k, (rowsJ la lb ta tb on k).length ≤ 1000 := fun k => by
        have h1 := rowsJ_le la lb ta tb on k
        have h2 : ta.length * (tb.length + 1) ≤ 12 * 13 := Nat.mul_le_mul (by omega) (by omega)
        omega
      have hn1 := hbd 1
      have hn2 := hbd 2
      have hn3 := hbd 3
      have hn4 := hbd 4
      rw [← hN1] at hn1
      rw [← hN2] at hn2
      rw [← hN3] at hn3
      rw [← hN4] at hn4
      obtain ⟨w4, hw4⟩ : ∃ w4, w4 = w3.alloc (.cells #[.slice none 0 0, .slice none 0 0, .slice none 0 0, .slice none 0 0, .slice none 0 0, .slice none 0 0, .slice none 0 0, .slice none 0 0, .slice none 0 0, .slice none 0 0] 55) := ⟨_, rfl⟩
      have X4 := Box.new w3 55 #[.slice none 0 0, .slice none 0 0, .slice none 0 0, .slice none 0 0, .slice none 0 0, .slice none 0 0, .slice none 0 0, .slice none 0 0, .slice none 0 0, .slice none 0 0]
      obtain ⟨ga, hga⟩ : ∃ ga, ga = w3.heap.size := ⟨_, rfl⟩
      rw [← hw4, ← hga] at X4
      have b4 : Below w3.heap.size w3 w4 := by rw [hw4]; exact (Below.refl _ _).alloc (Nat.le_refl _) _
      have HW4 := Lib.hid hw4; have HX4 := Lib.hid X4; have HGA := Lib.hid hga
      clear he hN1 hN2 hN3 hN4 hbd hw4 X4
      go_wp2
      rw [← HW4.out, ← hga]
      clear hga
      go_loopw [4] (fun i wr => ∃ k : Nat, 1 ≤ k ∧ k ≤ 5 ∧ i = .int .i64 k ∧ (∃ p1 r1 p2 r2 p3 r3 p4 r4 : Value, Box wr ga 55 #[.slice none 0 0, .slice none 0 0, p1, r1, p2, r2, p3, r3, p4, r4] ∧ (2 ≤ k → ∃ A c, r1 = .slice A N1 c) ∧ (3 ≤ k → ∃ A c, r2 = .slice A N2 c) ∧ (4 ≤ k → ∃ A c, r3 = .slice A N3 c) ∧ (5 ≤ k → ∃ A c, r4 = .slice A N4 c)) ∧ Below w3.heap.size w3 wr) (fun i _ => 5 - (intOf i).toNat)
      case atStart => exact ⟨1, by omega, by omega, rfl, ⟨_, _, _, _, _, _, _, _, HX4.out, fun h => by omega, fun h => by omega, fun h => by omega, fun h => by omega⟩, b4⟩
      case round =>
        obtain ⟨k, hk1, hk5, rfl, ⟨p1, r1, p2, r2, p3, r3, p4, r4, hbx, q1, q2, q3, q4⟩, hB⟩ := hrel
        have bw := bw3.trans (hB.mono bw3.size)
        have b2r := b3.trans (hB.mono b3.size)
        obtain ⟨x0, x1, x2, x3, x4, x5⟩ := CELLS2.out wr b2r
        match k, hk1, hk5 with
        | 1, _, _ =>
          go_wp2_with fail
          refine (join_any _ _ _ _ _ la lb ta tb on 1 _ (RdF.next g1 bw) (RdE.next (RdF.stays valV 4) g2 bw) (RdF.next g3 bw) (RdE.next (RdF.stays valV 4) g4 bw) (RdF.next hu0 bw) (by omega) (by omega) (by omega) (by omega) (by omega) HCA.out HCB.out (HT.out.below bw)).mono ?_
          rintro e w5 ⟨⟨p, r, rfl, hp, hr⟩, b5⟩
          rw [HE1.out.1] at hp hr
          rw [HE1.out.1]
          rw [if_pos rfl] at hp hr
          obtain ⟨pA, pc, rfl, -⟩ := hp.is
          obtain ⟨rA, rc, rvs, rfl, -, -⟩ := hr.is
          rw [← HN1.out]
          have X5 := (hbx.below b5 hbx.lt).alloc (.cells #[.slice pA (colsJ la lb on 1).length pc, .slice rA N1 rc] 25)
          have X6 : Box (((w5.alloc (.cells #[.slice pA (colsJ la lb on 1).length pc, .slice rA N1 rc] 25)).setCell ⟨ga, 2, none⟩ (.slice pA (colsJ la lb on 1).length pc)).setCell ⟨ga, 3, none⟩ (.slice rA N1 rc)) ga 55 #[.slice none 0 0, .slice none 0 0, .slice pA (colsJ la lb on 1).length pc, .slice rA N1 rc, p2, r2, p3, r3, p4, r4] := (X5.put 2 (.slice pA (colsJ la lb on 1).length pc)).put 3 (.slice rA N1 rc)
          have z0 := X5.cell 2
          have z1 := X5.cell 3
          have f0 := X5.frozen 2
          have f1 := X5.frozen 3
          simp at z0 z1 f0 f1
          have hB5 := hB.trans (b5.mono hB.size)
          have hB6 : Below w3.heap.size w3 (((w5.alloc (.cells #[.slice pA (colsJ la lb on 1).length pc, .slice rA N1 rc] 25)).setCell ⟨ga, 2, none⟩ (.slice pA (colsJ la lb on 1).length pc)).setCell ⟨ga, 3, none⟩ (.slice rA N1 rc)) := ((hB5.alloc hB5.size _).setCell (by rw [HGA.out]; exact Nat.le_refl _) _).setCell (by rw [HGA.out]; exact Nat.le_refl _) _
          have HX6 := Lib.hid X6; have HB6 := Lib.hid hB6
          clear X6 hB6 hp hr X5 x0 x1 x2 x3 x4 x5
          go_wp2
          exact ⟨⟨2, by omega, by omega, by go_num, ⟨_, _, _, _, _, _, _, _, HX6.out, fun _ => ⟨_, _, rfl⟩, fun h => by omega, fun h => by omega, fun h => by omega⟩, HB6.out⟩, by simp [intOf]⟩
        | 2, _, _ =>
          go_wp2_with fail
          refine (join_any _ _ _ _ _ la lb ta tb on 2 _ (RdF.next g1 bw) (RdE.next (RdF.stays valV 4) g2 bw) (RdF.next g3 bw) (RdE.next (RdF.stays valV 4) g4 bw) (RdF.next hu0 bw) (by omega) (by omega) (by omega) (by omega) (by omega) HCA.out HCB.out (HT.out.below bw)).mono ?_
          rintro e w5 ⟨⟨p, r, rfl, hp, hr⟩, b5⟩
          rw [HE2.out.1] at hp hr
          rw [HE2.out.1]
          rw [if_pos rfl] at hp hr
          obtain ⟨pA, pc, rfl, -⟩ := hp.is
          obtain ⟨rA, rc, rvs, rfl, -, -⟩ := hr.is
          rw [← HN2.out]
          have X5 := (hbx.below b5 hbx.lt).alloc (.cells #[.slice pA (colsJ la lb on 2).length pc, .slice rA N2 rc] 25)
          have X6 : Box (((w5.alloc (.cells #[.slice pA (colsJ la lb on 2).length pc, .slice rA N2 rc] 25)).setCell ⟨ga, 4, none⟩ (.slice pA (colsJ la lb on 2).length pc)).setCell ⟨ga, 5, none⟩ (.slice rA N2 rc)) ga 55 #[.slice none 0 0, .slice none 0 0, p1, r1, .slice pA (colsJ la lb on 2).length pc, .slice rA N2 rc, p3, r3, p4, r4] := (X5.put 4 (.slice pA (colsJ la lb on 2).length pc)).put 5 (.slice rA N2 rc)
          have z0 := X5.cell 4
          have z1 := X5.cell 5
          have f0 := X5.frozen 4
          have f1 := X5.frozen 5
          simp at z0 z1 f0 f1
          have hB5 := hB.trans (b5.mono hB.size)
          have hB6 : Below w3.heap.size w3 (((w5.alloc (.cells #[.slice pA (colsJ la lb on 2).length pc, .slice rA N2 rc] 25)).setCell ⟨ga, 4, none⟩ (.slice pA (colsJ la lb on 2).length pc)).setCell ⟨ga, 5, none⟩ (.slice rA N2 rc)) := ((hB5.alloc hB5.size _).setCell (by rw [HGA.out]; exact Nat.le_refl _) _).setCell (by rw [HGA.out]; exact Nat.le_refl _) _
          have HX6 := Lib.hid X6; have HB6 := Lib.hid hB6
          clear X6 hB6 hp hr X5 x0 x1 x2 x3 x4 x5
          go_wp2
          exact ⟨⟨3, by omega, by omega, by go_num, ⟨_, _, _, _, _, _, _, _, HX6.out, fun _ => q1 (by omega), fun _ => ⟨_, _, rfl⟩, fun h => by omega, fun h => by omega⟩, HB6.out⟩, by simp [intOf]⟩
        | 3, _, _ =>
          go_wp2_with fail
          refine (join_any _ _ _ _ _ la lb ta tb on 3 _ (RdF.next g1 bw) (RdE.next (RdF.stays valV 4) g2 bw) (RdF.next g3 bw) (RdE.next (RdF.stays valV 4) g4 bw) (RdF.next hu0 bw) (by omega) (by omega) (by omega) (by omega) (by omega) HCA.out HCB.out (HT.out.below bw)).mono ?_
          rintro e w5 ⟨⟨p, r, rfl, hp, hr⟩, b5⟩
          rw [HE3.out.1] at hp hr
          rw [HE3.out.1]
          rw [if_pos rfl] at hp hr
          obtain ⟨pA, pc, rfl, -⟩ := hp.is
          obtain ⟨rA, rc, rvs, rfl, -, -⟩ := hr.is
          rw [← HN3.out]
          have X5 := (hbx.below b5 hbx.lt).alloc (.cells #[.slice pA (colsJ la lb on 3).length pc, .slice rA N3 rc] 25)
          have X6 : Box (((w5.alloc (.cells #[.slice pA (colsJ la lb on 3).length pc, .slice rA N3 rc] 25)).setCell ⟨ga, 6, none⟩ (.slice pA (colsJ la lb on 3).length pc)).setCell ⟨ga, 7, none⟩ (.slice rA N3 rc)) ga 55 #[.slice none 0 0, .slice none 0 0, p1, r1, p2, r2, .slice pA (colsJ la lb on 3).length pc, .slice rA N3 rc, p4, r4] := (X5.put 6 (.slice pA (colsJ la lb on 3).length pc)).put 7 (.slice rA N3 rc)
          have z0 := X5.cell 6
          have z1 := X5.cell 7
          have f0 := X5.frozen 6
          have f1 := X5.frozen 7
          simp at z0 z1 f0 f1
          have hB5 := hB.trans (b5.mono hB.size)
          have hB6 : Below w3.heap.size w3 (((w5.alloc (.cells #[.slice pA (colsJ la lb on 3).length pc, .slice rA N3 rc] 25)).setCell ⟨ga, 6, none⟩ (.slice pA (colsJ la lb on 3).length pc)).setCell ⟨ga, 7, none⟩ (.slice rA N3 rc)) := ((hB5.alloc hB5.size _).setCell (by rw [HGA.out]; exact Nat.le_refl _) _).setCell (by rw [HGA.out]; exact Nat.le_refl _) _
          have HX6 := Lib.hid X6; have HB6 := Lib.hid hB6
          clear X6 hB6 hp hr X5 x0 x1 x2 x3 x4 x5
          go_wp2
          exact ⟨⟨4, by omega, by omega, by go_num, ⟨_, _, _, _, _, _, _, _, HX6.out, fun _ => q1 (by omega), fun _ => q2 (by omega), fun _ => ⟨_, _, rfl⟩, fun h => by omega⟩, HB6.out⟩, by simp [intOf]⟩
        | 4, _, _ =>
          go_wp2_with fail
          refine (join_any _ _ _ _ _ la lb ta tb on 4 _ (RdF.next g1 bw) (RdE.next (RdF.stays valV 4) g2 bw) (RdF.next g3 bw) (RdE.next (RdF.stays valV 4) g4 bw) (RdF.next hu0 bw) (by omega) (by omega) (by omega) (by omega) (by omega) HCA.out HCB.out (HT.out.below bw)).mono ?_
          rintro e w5 ⟨⟨p, r, rfl, hp, hr⟩, b5⟩
          rw [HE4.out.1] at hp hr
          rw [HE4.out.1]
          rw [if_pos rfl] at hp hr
          obtain ⟨pA, pc, rfl, -⟩ := hp.is
          obtain ⟨rA, rc, rvs, rfl, -, -⟩ := hr.is
          rw [← HN4.out]
          have X5 := (hbx.below b5 hbx.lt).alloc (.cells #[.slice pA (colsJ la lb on 4).length pc, .slice rA N4 rc] 25)
          have X6 : Box (((w5.alloc (.cells #[.slice pA (colsJ la lb on 4).length pc, .slice rA N4 rc] 25)).setCell ⟨ga, 8, none⟩ (.slice pA (colsJ la lb on 4).length pc)).setCell ⟨ga, 9, none⟩ (.slice rA N4 rc)) ga 55 #[.slice none 0 0, .slice none 0 0, p1, r1, p2, r2, p3, r3, .slice pA (colsJ la lb on 4).length pc, .slice rA N4 rc] := (X5.put 8 (.slice pA (colsJ la lb on 4).length pc)).put 9 (.slice rA N4 rc)
          have z0 := X5.cell 8
          have z1 := X5.cell 9
          have f0 := X5.frozen 8
          have f1 := X5.frozen 9
          simp at z0 z1 f0 f1
          have hB5 := hB.trans (b5.mono hB.size)
          have hB6 : Below w3.heap.size w3 (((w5.alloc (.cells #[.slice pA (colsJ la lb on 4).length pc, .slice rA N4 rc] 25)).setCell ⟨ga, 8, none⟩ (.slice pA (colsJ la lb on 4).length pc)).setCell ⟨ga, 9, none⟩ (.slice rA N4 rc)) := ((hB5.alloc hB5.size _).setCell (by rw [HGA.out]; exact Nat.le_refl _) _).setCell (by rw [HGA.out]; exact Nat.le_refl _) _
          have HX6 := Lib.hid X6; have HB6 := Lib.hid hB6
          clear X6 hB6 hp hr X5 x0 x1 x2 x3 x4 x5
          go_wp2
          exact ⟨⟨5, by omega, by omega, by go_num, ⟨_, _, _, _, _, _, _, _, HX6.out, fun _ => q1 (by omega), fun _ => q2 (by omega), fun _ => q3 (by omega), fun _ => ⟨_, _, rfl⟩⟩, HB6.out⟩, by simp [intOf]⟩
        | 5, _, _ =>
          obtain ⟨A11, c11, rfl⟩ := q1 (by omega)
          obtain ⟨A12, c12, rfl⟩ := q2 (by omega)
          obtain ⟨A13, c13, rfl⟩ := q3 (by omega)
          obtain ⟨A14, c14, rfl⟩ := q4 (by omega)
          clear q1 q2 q3 q4
          have z1 := hbx.cell 3
          have z2 := hbx.cell 5
          have z3 := hbx.cell 7
          have z4 := hbx.cell 9
          simp at z1 z2 z3 z4
          have hs1 : N3 + N4 = ta.length := by rw [HN3.out, HN4.out]; exact HP.out.1
          have hs2 : N2 = N1 + N4 := by rw [HN2.out, HN1.out, HN4.out]; exact HP.out.2
          have d1 : ((N3 : Int) + (N4 : Int) != (ta.length : Int)) = false := by rw [bne_eq_false_iff_eq]; omega
          have d2 : ((N2 : Int) != (N1 : Int) + (N4 : Int)) = false := by rw [bne_eq_false_iff_eq]; omega
          have hbz := HX2.out.below b2r HX2.out.lt
          have y3 := hbz.frozen 3
          have hbz2 := hbz.put 3 (.slice none 0 0)
          simp at hbz2
          obtain ⟨w7, hw7⟩ : ∃ w7, w7 = wr.setCell ⟨g, 3, none⟩ (.slice none 0 0) := ⟨_, rfl⟩
          rw [← hw7] at hbz2
          have bw7 : Below W.heap.size W w7 := by rw [hw7]; exact bw.setCell (by rw [HG.out]; exact Nat.le_refl _) _
          have cells3 : ∀ w' : World, Below w7.heap.size w7 w' → w'.cell? ⟨g, 0, none⟩ = some (.slice A1 la.length c1) ∧ w'.cell? ⟨g, 1, none⟩ = some (.slice A2 ta.length c2) ∧ w'.cell? ⟨g, 2, none⟩ = some (.slice A3 lb.length c3) ∧ w'.cell? ⟨g, 3, none⟩ = some (.slice none 0 0) ∧ w'.cell? ⟨g, 4, none⟩ = some (.slice A5 on.length c5) ∧ w'.cell? ⟨g, 5, none⟩ = some (.int .i64 1) := fun w' hb => by
            have X2 := hbz2.below hb hbz2.lt
            exact ⟨X2.cell 0, X2.cell 1, X2.cell 2, X2.cell 3, X2.cell 4, X2.cell 5⟩
          have HC3 := Lib.hid cells3; have HW7 := Lib.hid hw7
          clear cells3 hw7 hbz hbz2 hbx hs1 hs2
          go_wp2_with fail
          rw [← HW7.out]
          refine (join_any _ _ _ _ _ la lb ta [] on 1 _ (RdF.next g1 bw7) (RdE.next (RdF.stays valV 4) g2 bw7) (RdF.next g3 bw7) (RdE.nil _ _) (RdF.next hu0 bw7) (by omega) (by omega) (by omega) (by omega) (by simp) HCA.out HCB.out (HT.out.below bw7)).mono ?_
          rintro e w8 ⟨⟨p, r, rfl, hp, hr⟩, b8⟩
          rw [HE1.out.2] at hp hr
          rw [HE1.out.2]
          rw [if_pos rfl] at hp hr
          rw [NONE.out.1] at hr
          have hrx := hr
          obtain ⟨pxA, pxc, rfl, -⟩ := hp.is
          obtain ⟨rxA, rxc, rvsx, rfl, -, -⟩ := hr.is
          clear hp hr
          have b9 := b8.alloc b8.size (.cells #[.slice pxA (colsJ la lb on 1).length pxc, .slice rxA 0 rxc] 25)
          have bw9 := bw7.trans (b9.mono bw7.size)
          clear x0 x1 x2 x3 x4 x5 y3 z1 z2 z3 z4
          obtain ⟨x0, x1, x2, x3, x4, x5⟩ := HC3.out _ b9
          go_wp2_with fail
          refine (join_any _ _ _ _ _ la lb ta [] on 3 _ (RdF.next g1 bw9) (RdE.next (RdF.stays valV 4) g2 bw9) (RdF.next g3 bw9) (RdE.nil _ _) (RdF.next hu0 bw9) (by omega) (by omega) (by omega) (by omega) (by simp) HCA.out HCB.out (HT.out.below bw9)).mono ?_
          rintro e w10 ⟨⟨p, r, rfl, hp, hr⟩, b10⟩
          rw [HE3.out.2] at hp hr
          rw [HE3.out.2]
          rw [if_pos rfl] at hp hr
          rw [NONE.out.2.1] at hr
          have hry := hr
          obtain ⟨pyA, pyc, rfl, -⟩ := hp.is
          obtain ⟨ryA, ryc, rvsy, rfl, -, -⟩ := hr.is
          clear hp hr
          have b11 := b10.alloc b10.size (.cells #[.slice pyA (colsJ la lb on 3).length pyc, .slice ryA 0 ryc] 25)
          have b71 := b9.trans (b11.mono b9.size)
          have bw11 := bw7.trans (b71.mono bw7.size)
          clear x0 x1 x2 x3 x4 x5
          obtain ⟨x0, x1, x2, x3, x4, x5⟩ := HC3.out _ b71
          go_wp2_with fail
          refine (join_any _ _ _ _ _ la lb ta [] on 4 _ (RdF.next g1 bw11) (RdE.next (RdF.stays valV 4) g2 bw11) (RdF.next g3 bw11) (RdE.nil _ _) (RdF.next hu0 bw11) (by omega) (by omega) (by omega) (by omega) (by simp) HCA.out HCB.out (HT.out.below bw11)).mono ?_
          rintro e w12 ⟨⟨p, r, rfl, hp, hr⟩, b12⟩
          rw [HE4.out.2] at hp hr
          rw [HE4.out.2]
          rw [if_pos rfl] at hp hr
          rw [NONE.out.2.2] at hr
          have hrv := hr
          obtain ⟨pvA, pvc, rfl, -⟩ := hp.is
          obtain ⟨rvA, rvc, rvsv, rfl, -, -⟩ := hr.is
          clear hp hr
          have KX := Box.new w8 25 #[.slice pxA (colsJ la lb on 1).length pxc, .slice rxA 0 rxc]
          have KY := Box.new w10 25 #[.slice pyA (colsJ la lb on 3).length pyc, .slice ryA 0 ryc]
          have KV := Box.new w12 25 #[.slice pvA (colsJ la lb on 4).length pvc, .slice rvA ta.length rvc]
          have b13 := b12.alloc b12.size (.cells #[.slice pvA (colsJ la lb on 4).length pvc, .slice rvA ta.length rvc] 25)
          have b93 := b11.trans (b13.mono b11.size)
          obtain ⟨w13, hw13⟩ : ∃ w13, w13 = w12.alloc (.cells #[.slice pvA (colsJ la lb on 4).length pvc, .slice rvA ta.length rvc] 25) := ⟨_, rfl⟩
          rw [← hw13] at KV b13 b93
          have KX2 := KX.below b93 KX.lt
          have KY2 := KY.below b13 KY.lt
          have b73 := b71.trans (b13.mono b71.size)
          have bw13 := bw7.trans (b73.mono bw7.size)
          obtain ⟨gx, hgx⟩ : ∃ n, n = w8.heap.size := ⟨_, rfl⟩
          obtain ⟨gy, hgy⟩ : ∃ n, n = w10.heap.size := ⟨_, rfl⟩
          obtain ⟨gv, hgv⟩ : ∃ n, n = w12.heap.size := ⟨_, rfl⟩
          rw [← hgx] at KX2
          rw [← hgy] at KY2
          rw [← hgv] at KV
          have hrv2 : RdVT w13 w13.heap.size (.slice rvA ta.length rvc) ta := RdE.next (RdF.stays valV 4) hrv (by rw [hw13]; exact (Below.refl _ _).alloc (Nat.le_refl _) _)
          have mk : ∀ w', Below w13.heap.size w13 w' → w'.cell? ⟨g, 1, none⟩ = some (.slice A2 ta.length c2) ∧ w'.cell? ⟨gx, 1, none⟩ = some (.slice rxA 0 rxc) ∧ w'.cell? ⟨gy, 1, none⟩ = some (.slice ryA 0 ryc) ∧ w'.cell? ⟨gv, 1, none⟩ = some (.slice rvA ta.length rvc) ∧ Below w13.heap.size w13 w' := fun w' hb => by
            obtain ⟨-, y1, -, -, -, -⟩ := HC3.out w' (b73.trans (hb.mono b73.size))
            exact ⟨y1, (KX2.below hb KX2.lt).cell 1, (KY2.below hb KY2.lt).cell 1, (KV.below hb KV.lt).cell 1, hb⟩
          have MK := Lib.hid mk; have HW13 := Lib.hid hw13; have HSV := Lib.hid (sameVTR ta)
          clear mk hw13 KX KY KV KX2 KY2 x0 x1 x2 x3 x4 x5
          go_wp2
          rw [← HW13.out, ← hgx, ← hgy, ← hgv]
          clear hgx hgy hgv
          go_region_held3 (fun w' => w'.cell? ⟨g, 1, none⟩ = some (.slice A2 ta.length c2) ∧ w'.cell? ⟨gx, 1, none⟩ = some (.slice rxA 0 rxc) ∧ w'.cell? ⟨gy, 1, none⟩ = some (.slice ryA 0 ryc) ∧ w'.cell? ⟨gv, 1, none⟩ = some (.slice rvA ta.length rvc) ∧ Below w13.heap.size w13 w') (first | (exact MK.out _ (Below.drew (Below.refl _ _))) | (go_split_ands; exact MK.out _ (by assumption)) | (go_split_ands; exact MK.out _ (keepB (by assumption) (by assumption))) | (go_split_ands; exact MK.out _ (Below.alloc (by assumption) (Below.size (by assumption)) _)) | go_keep) (first | (have second := firstMark; go_at_call 30; go_split_ands; refine (refRows_any _ ta _ (RdE.next (RdF.stays valV 4) g2 (bw13.trans (Below.mono (by assumption) bw13.size))) (by omega) HRA.out).mono ?_; rintro e w21 ⟨q21, rfl, hq21, b21⟩) | (go_at_call 30; go_split_ands; refine (refRows_any _ ta _ (RdE.next (RdF.stays valV 4) hrv2 (by assumption)) (by omega) HRA.out).mono ?_; rintro e w20 ⟨q20, rfl, hq20, b20⟩; have firstMark : True := trivial) | (go_at_call 29; go_split_ands; refine (sameVT_any _ _ ta ta _ (RdE.next (RdF.stays rvalV 4) (TabY.rd rvalV_len (by omega) hq20) b21) (TabY.rd rvalV_len (by omega) hq21)).mono ?_; rintro e w22 ⟨rfl, b22⟩; rw [HSV.out]) | (go_at_call 26; go_split_ands; refine (awake23_any _ (HT.out.below (bw13.trans (Below.mono (by assumption) bw13.size)))).mono ?_; rintro e w26 ⟨rfl, b26⟩; have cb26 := keepB b26 (by assumption)))
          have bw30 := bw13.trans (cb26.mono bw13.size)
          go_wp2
          exact HR.out _ _ ⟨rfl, bw30⟩
    · have dne : ((E : Int) != 0) = true := by rw [bne_iff_ne]; omega
      clear hz
      go_wp2_with fail
      refine (awake23_any _ (HT.out.below bw3)).mono ?_
      rintro e w99 ⟨rfl, b99⟩
      go_wp2
      exact HR.out _ _ ⟨rfl, bw3.trans (b99.mono bw3.size)⟩

theorem own : ownKnob Tryd.prog.godebug = none := by kernel_rfl
theorem laidOut : laidOutB Tryd.prog = true := by kernel_rfl
theorem reads (os : Os) {H : Type} (enc : TypeId × Value → H) : ∃ places, DataW.whole enc Tryd.prog ((laidWorld os).forCall (fun _ _ => 0) ⟨#[], #[.agg #[.slice none 0 0, .slice none 0 0, .slice none 0 0, .slice none 0 0, .slice none 0 0, .int .i64 0]], []⟩).memory Tryd.f5.params.toList Rows.joinPartsSpec.vars false #[.agg #[.slice none 0 0, .slice none 0 0, .slice none 0 0, .slice none 0 0, .slice none 0 0, .int .i64 0]].toList 8 = some ([.agg [.agg [.nil, .nil], .agg [.nil, .nil], .nil, .lit (.int .i64 0)]], [], places) :=
  ⟨[], by kernel_rfl⟩

set_option maxRecDepth 100000 in
theorem contract (H : Type) (enc : TypeId × Value → H) (W : World) (base : Nat) (args : Array Value) (ds gs : List (DataW H)) (before : List MemPlace)
    (hval0 : ∀ (j : Nat) t v, Tryd.f5.params[j]? = some t → args[j]? = some v → Value.okWide Tryd.prog W .any base t v)
    (hW : DataW.Whole enc Tryd.prog Tryd.f5.params.toList Rows.joinPartsSpec.vars false W args.toList ds gs before)
    (hsz0 : (DataW.weightsEach Tryd.prog (Tryd.f5.params.toList ++ Rows.joinPartsSpec.plain.varTypes Tryd.prog) (ds ++ gs)).all (· ≤ reachBytes) = true)
    (hL : laidMetH Tryd.prog Rows.joinPartsRow.laid W) :
    Calls Tryd.prog 5 args W fun e W' => ∃ v, e = .returned v ∧ Rows.joinPartsSpec.post enc Tryd.prog Tryd.f5 false true false false W args v W' := by
  have hval := hval0
  have hW' := hW
  obtain ⟨p, q, hA0, hV, rfl, hfz, hnd⟩ := hW
  have hA : DataW.TrodAll enc Tryd.prog W 0 (fun _ => true) true Tryd.f5.params.toList args.toList ds p := hA0
  have hsz : (DataW.weightsEach Tryd.prog (Tryd.f5.params.toList ++ Rows.joinPartsSpec.plain.varTypes Tryd.prog) (ds ++ gs)).all (· ≤ reachBytes) = true := hsz0
  rw [Tryd.params5] at hA hval hsz
  obtain ⟨v0, vs0, d0, ds0, p0, q0, hargs, rfl, rfl, h0, r0⟩ := trodAll_cons hA
  obtain ⟨rfl, rfl, rfl⟩ := trodAll_nil r0
  obtain rfl : args = #[v0] := by cases args; simp_all
  obtain ⟨rfl, rfl⟩ := trodVars_none hV
  have k0 := h0
  have lt0 : ∀ x ∈ p0, x.block < W.heap.size := by obtain ⟨m, hm⟩ := k0; exact DataW.trod_lt m _ _ _ hm
  have w0 := open_case23 (hval 0 52 v0 rfl rfl) h0 (Sized.arg (j := 0) hsz rfl rfl)
  clear hA0 hval0
  refine (walk v0 W (tab_row hL) w0).mono fun e W' ⟨he, bel⟩ => ?_
  subst he
  exact ⟨_, rfl, _, _, _, [], _, [], hW', trodAll_mk1 (shut_bool Tryd.underlying4 _), (trodAll_cons_mk (Below.trod laidOut (by kernel_rfl) (of_decide_eq_true (by kernel_rfl)) k0 bel lt0) trodAll_mk0), rfl, bel.frame _, fun h => by cases h⟩

set_option maxRecDepth 100000 in
theorem lifted (os : Os) (started : os.Started) (H : Type) (enc : TypeId × Value → H) (F : Stop.Interp) :
    ReturnsInHanded {} Tryd.checked os 5 .any ((OpenSpec.ofChange Rows.joinPartsSpec).preRow enc Tryd.prog Tryd.f5 Rows.joinPartsRow.domain false Rows.joinPartsRow.laid) (((OpenSpec.ofChange Rows.joinPartsSpec).at F).post enc Tryd.prog Tryd.f5 false true false false) := by
  obtain ⟨places, hx⟩ := reads os enc
  refine returnsInHanded_of_row (C := Tryd.checked) (s := OpenSpec.ofChange Rows.joinPartsSpec) own started (by kernel_rfl) Tryd.func5
    (witness_row_atRef (enc := enc) (C := Tryd.checked) false (laidWorld os) #[.agg #[.slice none 0 0, .slice none 0 0, .slice none 0 0, .slice none 0 0, .slice none 0 0, .int .i64 0]] rfl (by kernel_rfl) (by kernel_rfl) (by kernel_rfl)
      (OpenSpec.preRow_of_cond 8 hx (by kernel_rfl) (fun k hk => by cases hk) (by kernel_rfl) (laid_met os _))) ?_
  intro W base args ds gs before hval hW _ _ hsz hL _ _
  exact contract H enc W base args ds gs before hval hW hsz hL

theorem said : Rows.JoinPartsSaid :=
  OpenClaim.holds_of_cond 5 Tryd.f5 rfl rfl rfl rfl rfl rfl rfl ⟨rfl, rfl, rfl, rfl, rfl⟩ rfl rfl rfl rfl rfl (by kernel_rfl) Tryd.func5 (by kernel_rfl)
    (of_decide_eq_true (by kernel_rfl)) (by unfold Func.isWrapper; first | (rw [if_pos (by decide +kernel)]; kernel_rfl) | (rw [if_neg (by decide +kernel)]; exact ⟨rfl, rfl⟩))
    (fun os started H enc _ F => by rw [OpenClaim.pre_eq_preRow]; exact lifted os started H enc F)

theorem plain (f : FuncId) (fn : Func) (hf : Tryd.pinned.checked.prog.funcNamed "quillpen/quillpenlaw23.JoinParts" = some f) (hfn : Tryd.pinned.checked.prog.funcs[f]? = some fn) :
    false = Tryd.pinned.checked.prog.looks [] ∧ ∀ (j : Nat) t, fn.params[j]? = some t → Tryd.pinned.checked.prog.wantsStandIn t = false := by
  obtain rfl : f = 5 := Option.some.inj ((show Tryd.prog.funcNamed "quillpen/quillpenlaw23.JoinParts" = some 5 by kernel_rfl).symm.trans hf) |>.symm
  obtain rfl : fn = Tryd.f5 := (Option.some.inj (Tryd.func5.symm.trans hfn)).symm
  refine ⟨by kernel_rfl, fun j t ht => ?_⟩
  rw [Tryd.params5] at ht
  have hm := Array.mem_of_getElem? ht
  have hall : (#[52] : Array TypeId).toList.all (fun t => Tryd.prog.wantsStandIn t == false) = true := by kernel_rfl
  exact eq_of_beq (List.all_eq_true.1 hall t (by simpa using hm))

theorem proved : Rows.JoinPartsCardSaid :=
  Claim7.holds_tied_plain_at .later [] _ _ _ _ said (fun _ h => by cases h) (by kernel_rfl) (fun _ h => by cases h) joinParts_row_tie rfl ⟨rfl, rfl⟩ (by kernel_rfl) rfl plain (by kernel_rfl)
end Go.Proofs.YtgiemhooeoakmaaDoor.joinParts

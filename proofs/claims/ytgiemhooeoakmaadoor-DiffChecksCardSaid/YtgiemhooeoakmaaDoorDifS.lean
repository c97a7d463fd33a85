/- Layer 25: the document's example. -/
import Derived.Test.YtgiemhooeoakmaaDoorDifI
namespace Go.Proofs.YtgiemhooeoakmaaDoor
open Go.RowKit Go.ChangeShapes Go.WideShapes
set_option linter.unusedVariables false
set_option linter.unusedSimpArgs false

theorem RdF.new6 (w : World) (a b : ByteArray) (i j : Int) (p q : Bool) (e : TypeId) : RdC (w.alloc (.cells #[.string a, .int .i64 i, .bool p, .string b, .int .i64 j, .bool q] e)) (w.alloc (.cells #[.string a, .int .i64 i, .bool p, .string b, .int .i64 j, .bool q] e)).heap.size (.slice (some ⟨w.heap.size, 0, none⟩) 2 2) [⟨a, i, p⟩, ⟨b, j, q⟩] :=
  RdF.new (f := colV) (s := 3) w [⟨a, i, p⟩, ⟨b, j, q⟩] e 2 _ rfl colV_len rfl (by omega)
theorem RdE.new2 {α : Type} {R : World → Nat → Value → α → Prop} (hR : Stays R) (w : World) (a b : Value) (x y : α) (e : TypeId) (h1 : R w w.heap.size a x) (h2 : R w w.heap.size b y) : RdE R (w.alloc (.cells #[a, b] e)) (w.alloc (.cells #[a, b] e)).heap.size (.slice (some ⟨w.heap.size, 0, none⟩) 2 2) [x, y] := by
  have hb : Below w.heap.size w (w.alloc (.cells #[a, b] e)) := (Below.refl _ _).alloc (Nat.le_refl _) _
  exact ⟨_, _, [a, b], rfl, Sl.newrow w #[a, b] e (Nat.le_of_ble_eq_true rfl), (Each.nil.cons (hR.more (hR.below h2 hb) hb.size)).cons (hR.more (hR.below h1 hb) hb.size)⟩
def exR (n : Int) (s : ByteArray) : VRow := [⟨2, ⟨#[]⟩, n, false⟩, ⟨1, s, 0, false⟩]
theorem exRow_any (n : Int) (s : ByteArray) (w : World) : Calls Tryd.prog 58 #[.int .i64 n, .string s] w fun e w' => (∃ g, e = .returned (.slice (some ⟨g, 0, none⟩) 2 2) ∧ RdV w' w'.heap.size (.slice (some ⟨g, 0, none⟩) 2 2) (exR n s)) ∧ Below w.heap.size w w' := by
  refine cps fun R HR => ?_
  have h := RdF.new (f := valV) (s := 4) w (exR n s) 96 2 _ rfl valV_len rfl (by omega)
  have hb := (Below.refl w.heap.size w).alloc (Nat.le_refl _) (.cells #[.int .i64 2, .string ⟨#[]⟩, .int .i64 n, .bool false, .int .i64 1, .string s, .int .i64 0, .bool false] 96)
  have H := Lib.hid h; have HB := Lib.hid hb
  clear h hb
  go_enter Tryd.func58, Tryd.ntmps58
  go_wp2
  exact HR.out _ _ ⟨⟨_, rfl, H.out⟩, HB.out⟩
def exL : List Col := [⟨⟨#[105, 100]⟩, 2, false⟩, ⟨⟨#[115]⟩, 1, false⟩]
set_option maxHeartbeats 4000000 in
set_option maxRecDepth 100000 in
theorem awake25_any (w : World) (hT : Tab w) : Calls Tryd.prog 15 #[] w fun e w' => e = .returned (.bool true) ∧ Below w.heap.size w w' := by
  refine cps fun R HR => ?_
  have E1 := Lib.hid (show diffE exL exL [⟨#[105, 100]⟩] [exR 1 ⟨#[120]⟩, exR 2 ⟨#[121]⟩] [exR 2 ⟨#[122]⟩, exR 3 ⟨#[113]⟩] = 0 by decide +kernel)
  have E2 := Lib.hid (show diffL exL exL [⟨#[105, 100]⟩] [exR 1 ⟨#[120]⟩, exR 2 ⟨#[121]⟩] [exR 2 ⟨#[122]⟩, exR 3 ⟨#[113]⟩] = [⟨1, exR 1 ⟨#[120]⟩, []⟩, ⟨2, exR 2 ⟨#[121]⟩, exR 2 ⟨#[122]⟩⟩, ⟨3, [], exR 3 ⟨#[113]⟩⟩] by decide +kernel)
  have hC := RdF.new6 w ⟨#[105, 100]⟩ ⟨#[115]⟩ 2 1 false false 99
  have b0 := (Below.refl w.heap.size w).alloc (Nat.le_refl _) (.cells #[.string ⟨#[105, 100]⟩, .int .i64 2, .bool false, .string ⟨#[115]⟩, .int .i64 1, .bool false] 99)
  have HC := Lib.hid hC; have B0 := Lib.hid b0; have HT := Lib.hid hT
  clear hC b0 hT
  go_enter Tryd.func15, Tryd.ntmps15
  go_wp2_with fail
  refine (exRow_any 1 ⟨#[120]⟩ _).mono ?_
  rintro e w1 ⟨⟨ga, rfl, ra⟩, b1⟩
  go_wp2_with fail
  refine (exRow_any 2 ⟨#[121]⟩ _).mono ?_
  rintro e w2 ⟨⟨gb, rfl, rb⟩, b2⟩
  have t1 := RdE.new2 (RdF.stays valV 4) w2 _ _ _ _ 61 (RdF.next ra b2) rb
  have b3 := (Below.refl w2.heap.size w2).alloc (Nat.le_refl _) (.cells #[.slice (some ⟨ga, 0, none⟩) 2 2, .slice (some ⟨gb, 0, none⟩) 2 2] 61)
  have c1 := b1.trans (b2.mono b1.size)
  have c2 := c1.trans (b3.mono c1.size)
  go_wp2_with fail
  refine (exRow_any 2 ⟨#[122]⟩ _).mono ?_
  rintro e w4 ⟨⟨gc, rfl, rc⟩, b4⟩
  have c3 := c2.trans (b4.mono c2.size)
  go_wp2_with fail
  refine (exRow_any 3 ⟨#[113]⟩ _).mono ?_
  rintro e w5 ⟨⟨gd, rfl, rd⟩, b5⟩
  have c5 := c3.trans (b5.mono c3.size)
  have t2 := RdE.new2 (RdF.stays valV 4) w5 _ _ _ _ 61 (RdF.next rc b5) rd
  have b6 := (Below.refl w5.heap.size w5).alloc (Nat.le_refl _) (.cells #[.slice (some ⟨gc, 0, none⟩) 2 2, .slice (some ⟨gd, 0, none⟩) 2 2] 61)
  have c6 := c5.trans (b6.mono c5.size)
  have t1b := RdE.next (RdF.stays valV 4) (RdE.next (RdF.stays valV 4) (RdE.next (RdF.stays valV 4) t1 b4) b5) b6
  obtain ⟨w6, hw6⟩ : ∃ w6, w6 = w5.alloc (.cells #[.slice (some ⟨gc, 0, none⟩) 2 2, .slice (some ⟨gd, 0, none⟩) 2 2] 61) := ⟨_, rfl⟩
  rw [← hw6] at t2 c6 t1b
  have hs6 : w6.heap.size = w5.heap.size + 1 := by rw [hw6]; simp
  have k7 := RdS.new w6 [⟨#[105, 100]⟩] 9 1 rfl (by omega)
  have b7 := (Below.refl w6.heap.size w6).alloc (Nat.le_refl _) (.cells #[.string ⟨#[105, 100]⟩] 9)
  have c7 := c6.trans (b7.mono c6.size)
  have t1c := RdE.next (RdF.stays valV 4) t1b b7
  have t2c := RdE.next (RdF.stays valV 4) t2 b7
  have hc7 := RdF.next HC.out c7
  have T7 := HT.out.below (B0.out.trans (c7.mono B0.out.size))
  have c7w := B0.out.trans (c7.mono B0.out.size)
  rw [hs6] at k7
  simp only [List.map_cons, List.map_nil] at k7
  rw [hw6] at k7 t1c t2c hc7 T7 c7w
  have K7 := Lib.hid k7; have T1C := Lib.hid t1c; have T2C := Lib.hid t2c; have HC7 := Lib.hid hc7; have TT := Lib.hid T7; have CW := Lib.hid c7w
  clear k7 t1c t2c hc7 T7 c7w c7 b7 hs6 hw6 t1b c6 b6 t2 c5 rc rd c3 b4 b5 c2 c1 b3 t1 ra rb b1 b2
  go_wp2_with fail
  refine (ddiff_any _ _ _ _ _ exL exL [exR 1 ⟨#[120]⟩, exR 2 ⟨#[121]⟩] [exR 2 ⟨#[122]⟩, exR 3 ⟨#[113]⟩] [⟨#[105, 100]⟩] _ HC7.out T1C.out HC7.out T2C.out K7.out (by decide) (by decide) (by decide) (by decide) (by decide) (by decide) (by decide) TT.out).mono ?_
  rintro e w8 ⟨⟨o, rfl, ho⟩, b8⟩
  rw [E1.out]
  rw [E2.out] at ho
  have h0 := ho.at (k := 0) (by decide)
  have h1 := ho.at (k := 1) (by decide)
  have h2 := ho.at (k := 2) (by decide)
  obtain ⟨p, c, uo, un, rfl, p0, -, -, -, -⟩ := h0
  obtain ⟨p', c', uo', un', hv, q0, q1, q2, q3, q4⟩ := h1
  injection hv with hA _ hcc
  injection hA with hA
  subst hA
  subst hcc
  obtain ⟨p', c', uo2, un2, hv, r0, -, -, -, -⟩ := h2
  injection hv with hA _ hcc
  injection hA with hA
  subst hA
  subst hcc
  obtain ⟨a, ca, rfl, s0, s1, s2, s3⟩ := RdV.at q4 (k := 1) (by decide)
  have cw := CW.out.trans (b8.mono CW.out.size)
  simp [exR, Addr.add] at p0 q0 q1 q2 r0 s0 s1
  clear s2 s3 q3 q4 ho
  go_wp2
  exact HR.out _ _ ⟨rfl, cw⟩
end Go.Proofs.YtgiemhooeoakmaaDoor

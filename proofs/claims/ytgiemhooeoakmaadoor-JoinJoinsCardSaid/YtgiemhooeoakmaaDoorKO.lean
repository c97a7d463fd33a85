/- Layer 23, the reference: matches. -/
import Derived.Laws.StructEq
import Derived.Test.YtgiemhooeoakmaaDoorKL
import Derived.Test.YtgiemhooeoakmaaDoorKJ
import Derived.Test.YtgiemhooeoakmaaDoorKM
namespace Go.Proofs.YtgiemhooeoakmaaDoor
open Go.RowKit Go.ChangeShapes Go.WideShapes
set_option linter.unusedVariables false
set_option linter.unusedSimpArgs false

theorem RdS.next_ {w w' : World} {v : Value} {l : Row} (h : RdS w w.heap.size v l) (hb : Below w.heap.size w w') : RdS w' w'.heap.size v l := by
  obtain ⟨A, c, h1, h2⟩ := h
  exact ⟨A, c, h1, (h2.below hb).more hb.size⟩
theorem lt_allocW {n : Nat} {w : World} {o : Obj} (h : n < w.heap.size) : n < (w.alloc o).heap.size := by simp; omega
theorem lt_set4 {n : Nat} {w : World} {p q r s : Addr} {a b c d : Value} (h : n < w.heap.size) : n < ((((w.setCell p a).setCell q b).setCell r c).setCell s d).heap.size := by simpa using h
theorem mark_of {L : Nat → Bool} {i j : Nat} (h : L j = true) : mark L i j = true := by unfold mark; split <;> first | rfl | exact h
theorem Box.off {w : World} {g g' : Nat} {t : TypeId} {cs : Array Value} (h : Box w g t cs) (hne : g ≠ g') (i : Nat) (u : Value) : Box (w.setCell ⟨g', i, none⟩ u) g t cs := ⟨(setCell_block w g' i u g hne).trans h.is⟩
theorem ptr_ne {g1 g2 : Nat} {v : Value} (h : (.pointer (some ⟨g1, 0, none⟩) : Value) ≠ v) (e : v = .pointer (some ⟨g2, 0, none⟩)) : g2 ≠ g1 := fun q => h (by rw [e, q])
theorem ptr_ne' {g1 g2 : Nat} {v : Value} (h : v ≠ (.pointer (some ⟨g1, 0, none⟩) : Value)) (e : v = .pointer (some ⟨g2, 0, none⟩)) : g2 ≠ g1 := fun q => h (by rw [e, q])
set_option maxHeartbeats 16000000 in
set_option maxRecDepth 100000 in
theorem rmatches_any (va vb vo vx vy : Value) (A6 A7 : Option Addr) (n6 c6 n7 c7 : Nat) (a b : List Col) (on : List OnP) (x y : VRow) (w : World) (ha : RdRC w w.heap.size va a) (hb : RdRC w w.heap.size vb b) (ho : RdOn w w.heap.size vo on) (hx : RdRV w w.heap.size vx x) (hy : RdRV w w.heap.size vy y)
    (hla : a.length ≤ 100000) (hlb : b.length ≤ 100000) (hmem : ∀ o ∈ on, o.left ∈ namesC a ∧ o.right ∈ namesC b) (hxl : x.length = a.length) (hyl : y.length = b.length) :
    Calls Tryd.prog 84 #[.agg #[va, .slice A6 n6 c6], .agg #[vb, .slice A7 n7 c7], vo, vx, vy] w fun e w' => e = .returned (.bool (matchP (psJ a b on) x y)) ∧ Below w.heap.size w w' := by
  refine cps fun R HR => ?_
  have ha0 := ha; have hb0 := hb; have ho0 := ho; have hx0 := hx; have hy0 := hy
  obtain ⟨A1, c1, rfl, -⟩ := ha.is
  obtain ⟨A2, c2, rfl, -⟩ := hb.is
  obtain ⟨A3, c3, rfl, -⟩ := ho.is
  obtain ⟨A4, c4, rfl, -⟩ := hx.is
  obtain ⟨A5, c5, rfl, -⟩ := hy.is
  clear ha hb ho hx hy
  have hfo := RdF.few ho0
  have hfx := RdF.few hx0
  have hfy := RdF.few hy0
  obtain ⟨Y, hY⟩ : ∃ Y, Y = (psJ a b on).any (mis1 x y) := ⟨_, rfl⟩
  have hm : matchP (psJ a b on) x y = !Y := by rw [hY]; rfl
  rw [hm] at HR
  obtain ⟨g, hg⟩ : ∃ g, g = w.heap.size := ⟨_, rfl⟩
  obtain ⟨w0, hw0⟩ : ∃ w0, w0 = (w.alloc (.cells #[.slice A1 a.length c1, .slice A6 n6 c6] 39)).alloc (.cells #[.slice A2 b.length c2, .slice A7 n7 c7] 39) := ⟨_, rfl⟩
  have b0 : Below w.heap.size w w0 := by rw [hw0]; exact ((Below.refl _ _).alloc (Nat.le_refl _) _).alloc (by simp) _
  have X := (Box.new w 39 #[.slice A1 a.length c1, .slice A6 n6 c6]).alloc (.cells #[.slice A2 b.length c2, .slice A7 n7 c7] 39)
  have Z := Box.new (w.alloc (.cells #[.slice A1 a.length c1, .slice A6 n6 c6] 39)) 39 #[.slice A2 b.length c2, .slice A7 n7 c7]
  rw [← hw0] at X Z
  simp only [hsz] at Z
  rw [← hg] at X Z
  have HX := Lib.hid X; have HZ := Lib.hid Z; have HW0 := Lib.hid hw0; have HB0 := Lib.hid b0; have HY := Lib.hid hY; have HMEM := Lib.hid hmem; have HXL := Lib.hid hxl; have HYL := Lib.hid hyl
  clear X Z hw0 b0 hY hm hmem hxl hyl
  go_enter Tryd.func84, Tryd.ntmps84
  go_wp2
  rw [← HW0.out, ← hg]
  clear hg
  go_loopw [17] (fun i wr => ∃ k : Nat, k ≤ on.length ∧ i = .int .i64 k ∧ (psJ a b (on.take k)).any (mis1 x y) = false ∧ Below w0.heap.size w0 wr) (fun i _ => on.length - (intOf i).toNat)
  case atStart => exact ⟨0, Nat.zero_le _, rfl, rfl, Below.refl _ _⟩
  case round =>
    obtain ⟨k, hk, rfl, hN, hB⟩ := hrel
    have HN := Lib.hid hN
    have bw := HB0.out.trans (hB.mono HB0.out.size)
    clear hN
    by_cases hlt : k < on.length
    · obtain ⟨p, c8, hv, q0, q1⟩ := RdOn.at (RdF.next ho0 bw) hlt
      injection hv with hA hln hcc
      subst hA
      subst hcc
      clear hln
      have hs1 := psJ_snoc a b on hlt
      have hmm := HMEM.out _ (List.getElem_mem hlt)
      obtain ⟨o, hoe⟩ : ∃ o, o = on[k] := ⟨_, rfl⟩
      rw [← hoe] at q0 q1 hs1 hmm
      have hbad : mis1 x y ((atC (namesC a) o.left : Int), (atC (namesC b) o.right : Int)) = true → Y = true := fun h => by
        rw [HY.out, List.any_eq_true]
        exact ⟨_, List.mem_map.2 ⟨o, by rw [hoe]; exact List.getElem_mem hlt, rfl⟩, h⟩
      obtain ⟨xl, xr⟩ := o
      dsimp only at q0 q1 hs1 hmm hbad
      have hpa := posF_in hmm.1
      have hpb := posF_in hmm.2
      have hia := atC_lt hmm.1
      have hib := atC_lt hmm.2
      rw [namesC_len] at hia hib
      obtain ⟨na, hna⟩ : ∃ n, n = atC (namesC a) xl := ⟨_, rfl⟩
      obtain ⟨nb, hnb⟩ : ∃ n, n = atC (namesC b) xr := ⟨_, rfl⟩
      rw [← hna] at hpa hia hs1 hbad
      rw [← hnb] at hpb hib hs1 hbad
      have hix : na < x.length := by rw [HXL.out]; exact hia
      have hiy : nb < y.length := by rw [HYL.out]; exact hib
      have hmis : mis1 x y ((na : Int), (nb : Int)) = (decide (x[na].kind = 0) || !decide (x[na] = y[nb])) := by unfold mis1; rw [Int.toNat_natCast, Int.toNat_natCast, getD_at hix, getD_at hiy]
      rw [hmis] at hbad
      obtain ⟨ax, dx, hvx, e0, e1, e2, e3⟩ := RdRV.at hx0 hix
      injection hvx with hA hln hcc
      subst hA
      subst hcc
      clear hln
      obtain ⟨ay, dy, hvy, f0, f1, f2, f3⟩ := RdRV.at hy0 hiy
      injection hvy with hA hln hcc
      subst hA
      subst hcc
      clear hln
      obtain ⟨xx, hxx⟩ : ∃ z, z = x[na] := ⟨_, rfl⟩
      obtain ⟨yy, hyy⟩ : ∃ z, z = y[nb] := ⟨_, rfl⟩
      rw [← hxx] at e0 e1 e2 e3
      rw [← hyy] at f0 f1 f2 f3
      rw [← hxx, ← hyy] at hmis hbad
      have hnext : mis1 x y ((na : Int), (nb : Int)) = false → (psJ a b (on.take (k + 1))).any (mis1 x y) = false := fun h => by
        rw [hs1, List.any_append, HN.out, List.any_cons, h]
        rfl
      rw [hmis] at hnext
      obtain ⟨xk, xs, xn, xb⟩ := xx
      obtain ⟨yk, ys, yn, yb⟩ := yy
      dsimp only at e0 e1 e2 e3 f0 f1 f2 f3 hbad hnext
      obtain ⟨xi, hxi⟩ : ∃ n, n = nullI xb := ⟨_, rfl⟩
      obtain ⟨yi, hyi⟩ : ∃ n, n = nullI yb := ⟨_, rfl⟩
      rw [← hxi] at e3
      rw [← hyi] at f3
      obtain ⟨ws, hws⟩ : ∃ ws, ws = wr.alloc (.cells #[.string xl, .string xr] 140) := ⟨_, rfl⟩
      have bws : Below wr.heap.size wr ws := by rw [hws]; exact (Below.refl _ _).alloc (Nat.le_refl _) _
      have O := Box.new wr 140 #[.string xl, .string xr]
      rw [← hws] at O
      have hBs := hB.trans (bws.mono hB.size)
      have bww := bw.trans (bws.mono bw.size)
      have mk : ∀ w', Below ws.heap.size ws w' → w'.cell? ⟨g, 0, none⟩ = some (.slice A1 a.length c1) ∧ w'.cell? ⟨g + 1, 0, none⟩ = some (.slice A2 b.length c2) ∧ w'.cell? ⟨wr.heap.size, 0, none⟩ = some (.string xl) ∧ w'.cell? ⟨wr.heap.size, 1, none⟩ = some (.string xr) ∧
          w'.cell? (ax.add (na * 4)) = some (.int .i64 xk) ∧ w'.cell? ⟨(ax.add (na * 4)).block, (ax.add (na * 4)).off + 1, none⟩ = some (.string xs) ∧ w'.cell? ⟨(ax.add (na * 4)).block, (ax.add (na * 4)).off + 2, none⟩ = some (.int .i64 xn) ∧ w'.cell? ⟨(ax.add (na * 4)).block, (ax.add (na * 4)).off + 3, none⟩ = some (.int .i64 xi) ∧
          w'.cell? (ay.add (nb * 4)) = some (.int .i64 yk) ∧ w'.cell? ⟨(ay.add (nb * 4)).block, (ay.add (nb * 4)).off + 1, none⟩ = some (.string ys) ∧ w'.cell? ⟨(ay.add (nb * 4)).block, (ay.add (nb * 4)).off + 2, none⟩ = some (.int .i64 yn) ∧ w'.cell? ⟨(ay.add (nb * 4)).block, (ay.add (nb * 4)).off + 3, none⟩ = some (.int .i64 yi) ∧ Below ws.heap.size ws w' := fun w' hb => by
        have hb0 := hBs.trans (hb.mono hBs.size)
        have hbw := bww.trans (hb.mono bww.size)
        have X2 := HX.out.below hb0 HX.out.lt
        have Z2 := HZ.out.below hb0 HZ.out.lt
        have O2 := O.below hb O.lt
        exact ⟨X2.cell 0, Z2.cell 0, O2.cell 0, O2.cell 1, (hbw.cell (World.block_lt_of_cell? w _ e0)).trans e0, (hbw.cell (World.block_lt_of_cell? w _ e1)).trans e1, (hbw.cell (World.block_lt_of_cell? w _ e2)).trans e2, (hbw.cell (World.block_lt_of_cell? w _ e3)).trans e3,
          (hbw.cell (World.block_lt_of_cell? w _ f0)).trans f0, (hbw.cell (World.block_lt_of_cell? w _ f1)).trans f1, (hbw.cell (World.block_lt_of_cell? w _ f2)).trans f2, (hbw.cell (World.block_lt_of_cell? w _ f3)).trans f3, hb⟩
      have MK := Lib.hid mk; have HWS := Lib.hid hws; have HBAD := Lib.hid hbad; have HNEXT := Lib.hid hnext; have HXI := Lib.hid hxi; have HYI := Lib.hid hyi; have HPA := Lib.hid hpa; have HPB := Lib.hid hpb
      have iix : (na : Int) < x.length := by omega
      have iiy : (nb : Int) < y.length := by omega
      have dk : decide ((k : Int) < on.length) = true := decide_eq_true (by omega)
      have hle : wr.heap.size < ws.heap.size := O.lt
      clear hoe hs1 hmm hbad hpa hpb hna hnb hmis e0 e1 e2 e3 f0 f1 f2 f3 hxx hyy hnext hxi hyi hws O mk hia hib hix hiy
      have s0 := MK.out ws (Below.refl _ _)
      clear s0
      have hca : ∀ (W : World) (o : Obj) (p : Addr), p.block < W.heap.size → (W.alloc o).cell? p = W.cell? p := fun W o p h => ((Below.refl W.heap.size W).alloc (Nat.le_refl _) o).cell h
      have hza : ∀ (W : World) (o : Obj) (p : Addr), p.block < W.heap.size → (W.alloc o).frozen? p = W.frozen? p := fun W o p h => belowZ ((Below.refl W.heap.size W).alloc (Nat.le_refl _) o) p h
      go_wp2
      rw [← HWS.out]
      refine wp_region_ord (fun L aI wI => ∃ v13 v14 v21 v22 v23 v24 v25 v26 v27 v28 v29 v30 v31 v32 v33 v34 v35 v36 v37 v38 : Value, aI = ⟨List.toArray ((.agg #[.slice A1 a.length c1, .slice A6 n6 c6]) :: (.agg #[.slice A2 b.length c2, .slice A7 n7 c7]) :: (.slice (some p) on.length c3) :: (.slice (some ax) x.length c4) :: (.slice (some ay) y.length c5) :: (.pointer (some ⟨g, 0, none⟩)) :: (.pointer (some ⟨g + 1, 0, none⟩)) :: undef :: undef :: undef :: u10 :: undef :: (.pointer (some ⟨wr.heap.size, 0, none⟩)) :: v13 :: v14 :: (.slice (some p) on.length c3) :: (.int .i64 on.length) :: (.int .i64 k) :: (.bool true) :: (.pointer (some (p.add (k * 2)))) :: (.agg #[.string xl, .string xr]) :: v21 :: v22 :: v23 :: v24 :: v25 :: v26 :: v27 :: v28 :: v29 :: v30 :: v31 :: v32 :: v33 :: v34 :: v35 :: v36 :: v37 :: v38 :: u39 :: u40 :: u41 :: u42 :: u43 :: u44 :: u45 :: u46 :: u47 :: []), []⟩ ∧ (Below ws.heap.size ws wI) ∧ (L 0 = true → v21 = .slice (some ax) x.length c4) ∧ (L 1 = true → v22 = .pointer (some ⟨g, 0, none⟩)) ∧ (L 2 = true → v23 = .slice A1 a.length c1) ∧ (L 3 = true → L 6 = false → RdS wI wI.heap.size v24 (namesC a)) ∧ (L 4 = true → v25 = .pointer (some ⟨wr.heap.size, 0, none⟩)) ∧ (L 5 = true → v26 = .string xl) ∧ (L 6 = true → v27 = .int .i64 na) ∧ (L 7 = true → v28 = .pointer (some (ax.add (na * 4)))) ∧ (L 8 = true → v29 = .agg #[.int .i64 xk, .string xs, .int .i64 xn, .int .i64 xi]) ∧ (L 9 = true → v30 = .slice (some ay) y.length c5) ∧ (L 10 = true → v31 = .pointer (some ⟨g + 1, 0, none⟩)) ∧ (L 11 = true → v32 = .slice A2 b.length c2) ∧ (L 12 = true → L 15 = false → RdS wI wI.heap.size v33 (namesC b)) ∧ (L 13 = true → v34 = .pointer (some ⟨wr.heap.size, 1, none⟩)) ∧ (L 14 = true → v35 = .string xr) ∧ (L 15 = true → v36 = .int .i64 nb) ∧ (L 16 = true → v37 = .pointer (some (ay.add (nb * 4)))) ∧ (L 17 = true → v38 = .agg #[.int .i64 yk, .string ys, .int .i64 yn, .int .i64 yi]) ∧ (L 18 = true → ∃ g1, v13 = .pointer (some ⟨g1, 0, none⟩) ∧ ws.heap.size ≤ g1 ∧ g1 < wI.heap.size ∧ (L 20 = false → Box wI g1 112 #[.int .i64 0, .string ⟨#[]⟩, .int .i64 0, .int .i64 0])) ∧ (L 19 = true → ∃ g2, v14 = .pointer (some ⟨g2, 0, none⟩) ∧ ws.heap.size ≤ g2 ∧ g2 < wI.heap.size ∧ (L 21 = false → Box wI g2 112 #[.int .i64 0, .string ⟨#[]⟩, .int .i64 0, .int .i64 0])) ∧ (L 20 = true → (L 18 = true) ∧ ∃ g1, v13 = .pointer (some ⟨g1, 0, none⟩) ∧ Box wI g1 112 #[.int .i64 xk, .string xs, .int .i64 xn, .int .i64 xi]) ∧ (L 21 = true → (L 19 = true ∧ L 18 = true) ∧ ∃ g2, v14 = .pointer (some ⟨g2, 0, none⟩) ∧ Box wI g2 112 #[.int .i64 yk, .string ys, .int .i64 yn, .int .i64 yi]) ∧ (L 18 = true → L 19 = true → v13 ≠ v14)) (by kernel_rfl) (by kernel_rfl) ⟨_, _, _, _, _, _, _, _, _, _, _, _, _, _, _, _, _, _, _, _, rfl, (Below.refl _ _).drew, (fun h => absurd h Bool.false_ne_true), (fun h => absurd h Bool.false_ne_true), (fun h => absurd h Bool.false_ne_true), (fun h => absurd h Bool.false_ne_true), (fun h => absurd h Bool.false_ne_true), (fun h => absurd h Bool.false_ne_true), (fun h => absurd h Bool.false_ne_true), (fun h => absurd h Bool.false_ne_true), (fun h => absurd h Bool.false_ne_true), (fun h => absurd h Bool.false_ne_true), (fun h => absurd h Bool.false_ne_true), (fun h => absurd h Bool.false_ne_true), (fun h => absurd h Bool.false_ne_true), (fun h => absurd h Bool.false_ne_true), (fun h => absurd h Bool.false_ne_true), (fun h => absurd h Bool.false_ne_true), (fun h => absurd h Bool.false_ne_true), (fun h => absurd h Bool.false_ne_true), (fun h => absurd h Bool.false_ne_true), (fun h => absurd h Bool.false_ne_true), (fun h => absurd h Bool.false_ne_true), (fun h => absurd h Bool.false_ne_true), (fun h => absurd h Bool.false_ne_true)⟩ (fun L L' aI w h hI => by have e : L = L' := funext h; subst e; exact hI) ?_ ?_
      · refine ordStep_cons (fun L aI wI hI hi hp K hK => ?_) ?_
        · obtain ⟨v13, v14, v21, v22, v23, v24, v25, v26, v27, v28, v29, v30, v31, v32, v33, v34, v35, v36, v37, v38, rfl, hB, d0, d1, d2, d3, d4, d5, d6, d7, d8, d9, d10, d11, d12, d13, d14, d15, d16, d17, d18, d19, d20, d21, e0⟩ := hI
          have HK := Lib.hid hK
          clear hK
          have HP := Lib.hid hp
          clear hp
          go_simp
          refine HK.out _ _ ?_
          exact ⟨_, _, _, _, _, _, _, _, _, _, _, _, _, _, _, _, _, _, _, _, rfl, hB, (fun _ => rfl), (fun h => (d1 (mark_ne (by decide) h))), (fun h => (d2 (mark_ne (by decide) h))), (fun h => fun h2 => (d3 (mark_ne (by decide) h)) (mark_off (by decide) h2)), (fun h => (d4 (mark_ne (by decide) h))), (fun h => (d5 (mark_ne (by decide) h))), (fun h => (d6 (mark_ne (by decide) h))), (fun h => (d7 (mark_ne (by decide) h))), (fun h => (d8 (mark_ne (by decide) h))), (fun h => (d9 (mark_ne (by decide) h))), (fun h => (d10 (mark_ne (by decide) h))), (fun h => (d11 (mark_ne (by decide) h))), (fun h => fun h2 => (d12 (mark_ne (by decide) h)) (mark_off (by decide) h2)), (fun h => (d13 (mark_ne (by decide) h))), (fun h => (d14 (mark_ne (by decide) h))), (fun h => (d15 (mark_ne (by decide) h))), (fun h => (d16 (mark_ne (by decide) h))), (fun h => (d17 (mark_ne (by decide) h))), (fun h => let ⟨q, q0, q1, q2, q3⟩ := (d18 (mark_ne (by decide) h)); ⟨q, q0, q1, q2, fun h => q3 (mark_off (by decide) h)⟩), (fun h => let ⟨q, q0, q1, q2, q3⟩ := (d19 (mark_ne (by decide) h)); ⟨q, q0, q1, q2, fun h => q3 (mark_off (by decide) h)⟩), (fun h => let ⟨q0, q1, q2, q3⟩ := (d20 (mark_ne (by decide) h)); ⟨mark_of q0, q1, q2, q3⟩), (fun h => let ⟨q0, q1, q2, q3⟩ := (d21 (mark_ne (by decide) h)); ⟨⟨mark_of q0.1, mark_of q0.2⟩, q1, q2, q3⟩), (fun h h' => e0 (mark_ne (by decide) h) (mark_ne (by decide) h'))⟩
        refine ordStep_cons (fun L aI wI hI hi hp K hK => ?_) ?_
        · obtain ⟨v13, v14, v21, v22, v23, v24, v25, v26, v27, v28, v29, v30, v31, v32, v33, v34, v35, v36, v37, v38, rfl, hB, d0, d1, d2, d3, d4, d5, d6, d7, d8, d9, d10, d11, d12, d13, d14, d15, d16, d17, d18, d19, d20, d21, e0⟩ := hI
          have HK := Lib.hid hK
          clear hK
          have HP := Lib.hid hp
          clear hp
          go_simp
          refine HK.out _ _ ?_
          exact ⟨_, _, _, _, _, _, _, _, _, _, _, _, _, _, _, _, _, _, _, _, rfl, hB, (fun h => (d0 (mark_ne (by decide) h))), (fun _ => rfl), (fun h => (d2 (mark_ne (by decide) h))), (fun h => fun h2 => (d3 (mark_ne (by decide) h)) (mark_off (by decide) h2)), (fun h => (d4 (mark_ne (by decide) h))), (fun h => (d5 (mark_ne (by decide) h))), (fun h => (d6 (mark_ne (by decide) h))), (fun h => (d7 (mark_ne (by decide) h))), (fun h => (d8 (mark_ne (by decide) h))), (fun h => (d9 (mark_ne (by decide) h))), (fun h => (d10 (mark_ne (by decide) h))), (fun h => (d11 (mark_ne (by decide) h))), (fun h => fun h2 => (d12 (mark_ne (by decide) h)) (mark_off (by decide) h2)), (fun h => (d13 (mark_ne (by decide) h))), (fun h => (d14 (mark_ne (by decide) h))), (fun h => (d15 (mark_ne (by decide) h))), (fun h => (d16 (mark_ne (by decide) h))), (fun h => (d17 (mark_ne (by decide) h))), (fun h => let ⟨q, q0, q1, q2, q3⟩ := (d18 (mark_ne (by decide) h)); ⟨q, q0, q1, q2, fun h => q3 (mark_off (by decide) h)⟩), (fun h => let ⟨q, q0, q1, q2, q3⟩ := (d19 (mark_ne (by decide) h)); ⟨q, q0, q1, q2, fun h => q3 (mark_off (by decide) h)⟩), (fun h => let ⟨q0, q1, q2, q3⟩ := (d20 (mark_ne (by decide) h)); ⟨mark_of q0, q1, q2, q3⟩), (fun h => let ⟨q0, q1, q2, q3⟩ := (d21 (mark_ne (by decide) h)); ⟨⟨mark_of q0.1, mark_of q0.2⟩, q1, q2, q3⟩), (fun h h' => e0 (mark_ne (by decide) h) (mark_ne (by decide) h'))⟩
        refine ordStep_cons (fun L aI wI hI hi hp K hK => ?_) ?_
        · obtain ⟨v13, v14, v21, v22, v23, v24, v25, v26, v27, v28, v29, v30, v31, v32, v33, v34, v35, v36, v37, v38, rfl, hB, d0, d1, d2, d3, d4, d5, d6, d7, d8, d9, d10, d11, d12, d13, d14, d15, d16, d17, d18, d19, d20, d21, e0⟩ := hI
          have HK := Lib.hid hK
          clear hK
          have p1 := d1 (hp ⟨1, .data⟩ (by simp) rfl)
          have HP := Lib.hid hp
          clear hp
          obtain ⟨s0, s1, s2, s3, s4, s5, s6, s7, s8, s9, s10, s11, -⟩ := MK.out wI hB
          subst p1
          go_simp
          refine HK.out _ _ ?_
          exact ⟨_, _, _, _, _, _, _, _, _, _, _, _, _, _, _, _, _, _, _, _, rfl, hB, (fun h => (d0 (mark_ne (by decide) h))), (fun h => (d1 (mark_ne (by decide) h))), (fun _ => rfl), (fun h => fun h2 => (d3 (mark_ne (by decide) h)) (mark_off (by decide) h2)), (fun h => (d4 (mark_ne (by decide) h))), (fun h => (d5 (mark_ne (by decide) h))), (fun h => (d6 (mark_ne (by decide) h))), (fun h => (d7 (mark_ne (by decide) h))), (fun h => (d8 (mark_ne (by decide) h))), (fun h => (d9 (mark_ne (by decide) h))), (fun h => (d10 (mark_ne (by decide) h))), (fun h => (d11 (mark_ne (by decide) h))), (fun h => fun h2 => (d12 (mark_ne (by decide) h)) (mark_off (by decide) h2)), (fun h => (d13 (mark_ne (by decide) h))), (fun h => (d14 (mark_ne (by decide) h))), (fun h => (d15 (mark_ne (by decide) h))), (fun h => (d16 (mark_ne (by decide) h))), (fun h => (d17 (mark_ne (by decide) h))), (fun h => let ⟨q, q0, q1, q2, q3⟩ := (d18 (mark_ne (by decide) h)); ⟨q, q0, q1, q2, fun h => q3 (mark_off (by decide) h)⟩), (fun h => let ⟨q, q0, q1, q2, q3⟩ := (d19 (mark_ne (by decide) h)); ⟨q, q0, q1, q2, fun h => q3 (mark_off (by decide) h)⟩), (fun h => let ⟨q0, q1, q2, q3⟩ := (d20 (mark_ne (by decide) h)); ⟨mark_of q0, q1, q2, q3⟩), (fun h => let ⟨q0, q1, q2, q3⟩ := (d21 (mark_ne (by decide) h)); ⟨⟨mark_of q0.1, mark_of q0.2⟩, q1, q2, q3⟩), (fun h h' => e0 (mark_ne (by decide) h) (mark_ne (by decide) h'))⟩
        refine ordStep_cons (fun L aI wI hI hi hp K hK => ?_) ?_
        · obtain ⟨v13, v14, v21, v22, v23, v24, v25, v26, v27, v28, v29, v30, v31, v32, v33, v34, v35, v36, v37, v38, rfl, hB, d0, d1, d2, d3, d4, d5, d6, d7, d8, d9, d10, d11, d12, d13, d14, d15, d16, d17, d18, d19, d20, d21, e0⟩ := hI
          have HK := Lib.hid hK
          clear hK
          have p2 := d2 (hp ⟨2, .data⟩ (by simp) rfl)
          have HP := Lib.hid hp
          clear hp
          subst p2
          go_simp
          go_at_call 65
          refine (refNames_any _ a _ (RdF.next ha0 (bww.trans (hB.mono bww.size))) hla).mono ?_
          rintro e w7 ⟨o7, rfl, ho7, b7⟩
          have hr7 := RdS.of_own ho7
          obtain ⟨o7A, o7c, rfl, -⟩ := ho7.form
          refine HK.out _ _ ?_
          exact ⟨_, _, _, _, _, _, _, _, _, _, _, _, _, _, _, _, _, _, _, _, rfl, hB.trans (b7.mono hB.size), (fun h => (d0 (mark_ne (by decide) h))), (fun h => (d1 (mark_ne (by decide) h))), (fun h => (d2 (mark_ne (by decide) h))), (fun _ => fun _ => hr7), (fun h => (d4 (mark_ne (by decide) h))), (fun h => (d5 (mark_ne (by decide) h))), (fun h => (d6 (mark_ne (by decide) h))), (fun h => (d7 (mark_ne (by decide) h))), (fun h => (d8 (mark_ne (by decide) h))), (fun h => (d9 (mark_ne (by decide) h))), (fun h => (d10 (mark_ne (by decide) h))), (fun h => (d11 (mark_ne (by decide) h))), (fun h => fun h2 => RdS.next_ ((d12 (mark_ne (by decide) h)) (mark_off (by decide) h2)) b7), (fun h => (d13 (mark_ne (by decide) h))), (fun h => (d14 (mark_ne (by decide) h))), (fun h => (d15 (mark_ne (by decide) h))), (fun h => (d16 (mark_ne (by decide) h))), (fun h => (d17 (mark_ne (by decide) h))), (fun h => let ⟨q, q0, q1, q2, q3⟩ := (d18 (mark_ne (by decide) h)); ⟨q, q0, q1, Nat.lt_of_lt_of_le q2 b7.size, fun h => (q3 (mark_off (by decide) h)).below b7 (Box.lt (q3 (mark_off (by decide) h)))⟩), (fun h => let ⟨q, q0, q1, q2, q3⟩ := (d19 (mark_ne (by decide) h)); ⟨q, q0, q1, Nat.lt_of_lt_of_le q2 b7.size, fun h => (q3 (mark_off (by decide) h)).below b7 (Box.lt (q3 (mark_off (by decide) h)))⟩), (fun h => let ⟨q0, q1, q2, q3⟩ := (d20 (mark_ne (by decide) h)); ⟨mark_of q0, q1, q2, q3.below b7 q3.lt⟩), (fun h => let ⟨q0, q1, q2, q3⟩ := (d21 (mark_ne (by decide) h)); ⟨⟨mark_of q0.1, mark_of q0.2⟩, q1, q2, q3.below b7 q3.lt⟩), (fun h h' => e0 (mark_ne (by decide) h) (mark_ne (by decide) h'))⟩
        refine ordStep_cons (fun L aI wI hI hi hp K hK => ?_) ?_
        · obtain ⟨v13, v14, v21, v22, v23, v24, v25, v26, v27, v28, v29, v30, v31, v32, v33, v34, v35, v36, v37, v38, rfl, hB, d0, d1, d2, d3, d4, d5, d6, d7, d8, d9, d10, d11, d12, d13, d14, d15, d16, d17, d18, d19, d20, d21, e0⟩ := hI
          have HK := Lib.hid hK
          clear hK
          have HP := Lib.hid hp
          clear hp
          go_simp
          refine HK.out _ _ ?_
          exact ⟨_, _, _, _, _, _, _, _, _, _, _, _, _, _, _, _, _, _, _, _, rfl, hB, (fun h => (d0 (mark_ne (by decide) h))), (fun h => (d1 (mark_ne (by decide) h))), (fun h => (d2 (mark_ne (by decide) h))), (fun h => fun h2 => (d3 (mark_ne (by decide) h)) (mark_off (by decide) h2)), (fun _ => rfl), (fun h => (d5 (mark_ne (by decide) h))), (fun h => (d6 (mark_ne (by decide) h))), (fun h => (d7 (mark_ne (by decide) h))), (fun h => (d8 (mark_ne (by decide) h))), (fun h => (d9 (mark_ne (by decide) h))), (fun h => (d10 (mark_ne (by decide) h))), (fun h => (d11 (mark_ne (by decide) h))), (fun h => fun h2 => (d12 (mark_ne (by decide) h)) (mark_off (by decide) h2)), (fun h => (d13 (mark_ne (by decide) h))), (fun h => (d14 (mark_ne (by decide) h))), (fun h => (d15 (mark_ne (by decide) h))), (fun h => (d16 (mark_ne (by decide) h))), (fun h => (d17 (mark_ne (by decide) h))), (fun h => let ⟨q, q0, q1, q2, q3⟩ := (d18 (mark_ne (by decide) h)); ⟨q, q0, q1, q2, fun h => q3 (mark_off (by decide) h)⟩), (fun h => let ⟨q, q0, q1, q2, q3⟩ := (d19 (mark_ne (by decide) h)); ⟨q, q0, q1, q2, fun h => q3 (mark_off (by decide) h)⟩), (fun h => let ⟨q0, q1, q2, q3⟩ := (d20 (mark_ne (by decide) h)); ⟨mark_of q0, q1, q2, q3⟩), (fun h => let ⟨q0, q1, q2, q3⟩ := (d21 (mark_ne (by decide) h)); ⟨⟨mark_of q0.1, mark_of q0.2⟩, q1, q2, q3⟩), (fun h h' => e0 (mark_ne (by decide) h) (mark_ne (by decide) h'))⟩
        refine ordStep_cons (fun L aI wI hI hi hp K hK => ?_) ?_
        · obtain ⟨v13, v14, v21, v22, v23, v24, v25, v26, v27, v28, v29, v30, v31, v32, v33, v34, v35, v36, v37, v38, rfl, hB, d0, d1, d2, d3, d4, d5, d6, d7, d8, d9, d10, d11, d12, d13, d14, d15, d16, d17, d18, d19, d20, d21, e0⟩ := hI
          have HK := Lib.hid hK
          clear hK
          have p4 := d4 (hp ⟨4, .data⟩ (by simp) rfl)
          have HP := Lib.hid hp
          clear hp
          obtain ⟨s0, s1, s2, s3, s4, s5, s6, s7, s8, s9, s10, s11, -⟩ := MK.out wI hB
          subst p4
          go_simp
          refine HK.out _ _ ?_
          exact ⟨_, _, _, _, _, _, _, _, _, _, _, _, _, _, _, _, _, _, _, _, rfl, hB, (fun h => (d0 (mark_ne (by decide) h))), (fun h => (d1 (mark_ne (by decide) h))), (fun h => (d2 (mark_ne (by decide) h))), (fun h => fun h2 => (d3 (mark_ne (by decide) h)) (mark_off (by decide) h2)), (fun h => (d4 (mark_ne (by decide) h))), (fun _ => rfl), (fun h => (d6 (mark_ne (by decide) h))), (fun h => (d7 (mark_ne (by decide) h))), (fun h => (d8 (mark_ne (by decide) h))), (fun h => (d9 (mark_ne (by decide) h))), (fun h => (d10 (mark_ne (by decide) h))), (fun h => (d11 (mark_ne (by decide) h))), (fun h => fun h2 => (d12 (mark_ne (by decide) h)) (mark_off (by decide) h2)), (fun h => (d13 (mark_ne (by decide) h))), (fun h => (d14 (mark_ne (by decide) h))), (fun h => (d15 (mark_ne (by decide) h))), (fun h => (d16 (mark_ne (by decide) h))), (fun h => (d17 (mark_ne (by decide) h))), (fun h => let ⟨q, q0, q1, q2, q3⟩ := (d18 (mark_ne (by decide) h)); ⟨q, q0, q1, q2, fun h => q3 (mark_off (by decide) h)⟩), (fun h => let ⟨q, q0, q1, q2, q3⟩ := (d19 (mark_ne (by decide) h)); ⟨q, q0, q1, q2, fun h => q3 (mark_off (by decide) h)⟩), (fun h => let ⟨q0, q1, q2, q3⟩ := (d20 (mark_ne (by decide) h)); ⟨mark_of q0, q1, q2, q3⟩), (fun h => let ⟨q0, q1, q2, q3⟩ := (d21 (mark_ne (by decide) h)); ⟨⟨mark_of q0.1, mark_of q0.2⟩, q1, q2, q3⟩), (fun h h' => e0 (mark_ne (by decide) h) (mark_ne (by decide) h'))⟩
        refine ordStep_cons (fun L aI wI hI hi hp K hK => ?_) ?_
        · obtain ⟨v13, v14, v21, v22, v23, v24, v25, v26, v27, v28, v29, v30, v31, v32, v33, v34, v35, v36, v37, v38, rfl, hB, d0, d1, d2, d3, d4, d5, d6, d7, d8, d9, d10, d11, d12, d13, d14, d15, d16, d17, d18, d19, d20, d21, e0⟩ := hI
          have HK := Lib.hid hK
          clear hK
          have p3 := d3 (hp ⟨3, .data⟩ (by simp) rfl)
          have p5 := d5 (hp ⟨5, .data⟩ (by simp) rfl)
          have HP := Lib.hid hp
          clear hp
          subst p5
          have pR := p3 hi
          obtain ⟨o9A, o9c, rfl, -⟩ := id pR
          go_simp
          go_at_call 64
          refine (refAt_any _ (namesC a) xl _ pR).mono ?_
          rintro e w9 ⟨rfl, rfl⟩
          rw [HPA.out]
          refine HK.out _ _ ?_
          exact ⟨_, _, _, _, _, _, _, _, _, _, _, _, _, _, _, _, _, _, _, _, rfl, hB, (fun h => (d0 (mark_ne (by decide) h))), (fun h => (d1 (mark_ne (by decide) h))), (fun h => (d2 (mark_ne (by decide) h))), (fun h => fun h2 => mark_self h2), (fun h => (d4 (mark_ne (by decide) h))), (fun h => (d5 (mark_ne (by decide) h))), (fun _ => rfl), (fun h => (d7 (mark_ne (by decide) h))), (fun h => (d8 (mark_ne (by decide) h))), (fun h => (d9 (mark_ne (by decide) h))), (fun h => (d10 (mark_ne (by decide) h))), (fun h => (d11 (mark_ne (by decide) h))), (fun h => fun h2 => (d12 (mark_ne (by decide) h)) (mark_off (by decide) h2)), (fun h => (d13 (mark_ne (by decide) h))), (fun h => (d14 (mark_ne (by decide) h))), (fun h => (d15 (mark_ne (by decide) h))), (fun h => (d16 (mark_ne (by decide) h))), (fun h => (d17 (mark_ne (by decide) h))), (fun h => let ⟨q, q0, q1, q2, q3⟩ := (d18 (mark_ne (by decide) h)); ⟨q, q0, q1, q2, fun h => q3 (mark_off (by decide) h)⟩), (fun h => let ⟨q, q0, q1, q2, q3⟩ := (d19 (mark_ne (by decide) h)); ⟨q, q0, q1, q2, fun h => q3 (mark_off (by decide) h)⟩), (fun h => let ⟨q0, q1, q2, q3⟩ := (d20 (mark_ne (by decide) h)); ⟨mark_of q0, q1, q2, q3⟩), (fun h => let ⟨q0, q1, q2, q3⟩ := (d21 (mark_ne (by decide) h)); ⟨⟨mark_of q0.1, mark_of q0.2⟩, q1, q2, q3⟩), (fun h h' => e0 (mark_ne (by decide) h) (mark_ne (by decide) h'))⟩
        refine ordStep_cons (fun L aI wI hI hi hp K hK => ?_) ?_
        · obtain ⟨v13, v14, v21, v22, v23, v24, v25, v26, v27, v28, v29, v30, v31, v32, v33, v34, v35, v36, v37, v38, rfl, hB, d0, d1, d2, d3, d4, d5, d6, d7, d8, d9, d10, d11, d12, d13, d14, d15, d16, d17, d18, d19, d20, d21, e0⟩ := hI
          have HK := Lib.hid hK
          clear hK
          have p0 := d0 (hp ⟨0, .data⟩ (by simp) rfl)
          have p6 := d6 (hp ⟨6, .data⟩ (by simp) rfl)
          have HP := Lib.hid hp
          clear hp
          subst p0
          subst p6
          go_simp
          refine HK.out _ _ ?_
          exact ⟨_, _, _, _, _, _, _, _, _, _, _, _, _, _, _, _, _, _, _, _, rfl, hB, (fun h => (d0 (mark_ne (by decide) h))), (fun h => (d1 (mark_ne (by decide) h))), (fun h => (d2 (mark_ne (by decide) h))), (fun h => fun h2 => (d3 (mark_ne (by decide) h)) (mark_off (by decide) h2)), (fun h => (d4 (mark_ne (by decide) h))), (fun h => (d5 (mark_ne (by decide) h))), (fun h => (d6 (mark_ne (by decide) h))), (fun _ => rfl), (fun h => (d8 (mark_ne (by decide) h))), (fun h => (d9 (mark_ne (by decide) h))), (fun h => (d10 (mark_ne (by decide) h))), (fun h => (d11 (mark_ne (by decide) h))), (fun h => fun h2 => (d12 (mark_ne (by decide) h)) (mark_off (by decide) h2)), (fun h => (d13 (mark_ne (by decide) h))), (fun h => (d14 (mark_ne (by decide) h))), (fun h => (d15 (mark_ne (by decide) h))), (fun h => (d16 (mark_ne (by decide) h))), (fun h => (d17 (mark_ne (by decide) h))), (fun h => let ⟨q, q0, q1, q2, q3⟩ := (d18 (mark_ne (by decide) h)); ⟨q, q0, q1, q2, fun h => q3 (mark_off (by decide) h)⟩), (fun h => let ⟨q, q0, q1, q2, q3⟩ := (d19 (mark_ne (by decide) h)); ⟨q, q0, q1, q2, fun h => q3 (mark_off (by decide) h)⟩), (fun h => let ⟨q0, q1, q2, q3⟩ := (d20 (mark_ne (by decide) h)); ⟨mark_of q0, q1, q2, q3⟩), (fun h => let ⟨q0, q1, q2, q3⟩ := (d21 (mark_ne (by decide) h)); ⟨⟨mark_of q0.1, mark_of q0.2⟩, q1, q2, q3⟩), (fun h h' => e0 (mark_ne (by decide) h) (mark_ne (by decide) h'))⟩
        refine ordStep_cons (fun L aI wI hI hi hp K hK => ?_) ?_
        · obtain ⟨v13, v14, v21, v22, v23, v24, v25, v26, v27, v28, v29, v30, v31, v32, v33, v34, v35, v36, v37, v38, rfl, hB, d0, d1, d2, d3, d4, d5, d6, d7, d8, d9, d10, d11, d12, d13, d14, d15, d16, d17, d18, d19, d20, d21, e0⟩ := hI
          have HK := Lib.hid hK
          clear hK
          have p7 := d7 (hp ⟨7, .data⟩ (by simp) rfl)
          have HP := Lib.hid hp
          clear hp
          obtain ⟨s0, s1, s2, s3, s4, s5, s6, s7, s8, s9, s10, s11, -⟩ := MK.out wI hB
          subst p7
          go_simp
          refine HK.out _ _ ?_
          exact ⟨_, _, _, _, _, _, _, _, _, _, _, _, _, _, _, _, _, _, _, _, rfl, hB, (fun h => (d0 (mark_ne (by decide) h))), (fun h => (d1 (mark_ne (by decide) h))), (fun h => (d2 (mark_ne (by decide) h))), (fun h => fun h2 => (d3 (mark_ne (by decide) h)) (mark_off (by decide) h2)), (fun h => (d4 (mark_ne (by decide) h))), (fun h => (d5 (mark_ne (by decide) h))), (fun h => (d6 (mark_ne (by decide) h))), (fun h => (d7 (mark_ne (by decide) h))), (fun _ => rfl), (fun h => (d9 (mark_ne (by decide) h))), (fun h => (d10 (mark_ne (by decide) h))), (fun h => (d11 (mark_ne (by decide) h))), (fun h => fun h2 => (d12 (mark_ne (by decide) h)) (mark_off (by decide) h2)), (fun h => (d13 (mark_ne (by decide) h))), (fun h => (d14 (mark_ne (by decide) h))), (fun h => (d15 (mark_ne (by decide) h))), (fun h => (d16 (mark_ne (by decide) h))), (fun h => (d17 (mark_ne (by decide) h))), (fun h => let ⟨q, q0, q1, q2, q3⟩ := (d18 (mark_ne (by decide) h)); ⟨q, q0, q1, q2, fun h => q3 (mark_off (by decide) h)⟩), (fun h => let ⟨q, q0, q1, q2, q3⟩ := (d19 (mark_ne (by decide) h)); ⟨q, q0, q1, q2, fun h => q3 (mark_off (by decide) h)⟩), (fun h => let ⟨q0, q1, q2, q3⟩ := (d20 (mark_ne (by decide) h)); ⟨mark_of q0, q1, q2, q3⟩), (fun h => let ⟨q0, q1, q2, q3⟩ := (d21 (mark_ne (by decide) h)); ⟨⟨mark_of q0.1, mark_of q0.2⟩, q1, q2, q3⟩), (fun h h' => e0 (mark_ne (by decide) h) (mark_ne (by decide) h'))⟩
        refine ordStep_cons (fun L aI wI hI hi hp K hK => ?_) ?_
        · obtain ⟨v13, v14, v21, v22, v23, v24, v25, v26, v27, v28, v29, v30, v31, v32, v33, v34, v35, v36, v37, v38, rfl, hB, d0, d1, d2, d3, d4, d5, d6, d7, d8, d9, d10, d11, d12, d13, d14, d15, d16, d17, d18, d19, d20, d21, e0⟩ := hI
          have HK := Lib.hid hK
          clear hK
          have HP := Lib.hid hp
          clear hp
          go_simp
          refine HK.out _ _ ?_
          exact ⟨_, _, _, _, _, _, _, _, _, _, _, _, _, _, _, _, _, _, _, _, rfl, hB, (fun h => (d0 (mark_ne (by decide) h))), (fun h => (d1 (mark_ne (by decide) h))), (fun h => (d2 (mark_ne (by decide) h))), (fun h => fun h2 => (d3 (mark_ne (by decide) h)) (mark_off (by decide) h2)), (fun h => (d4 (mark_ne (by decide) h))), (fun h => (d5 (mark_ne (by decide) h))), (fun h => (d6 (mark_ne (by decide) h))), (fun h => (d7 (mark_ne (by decide) h))), (fun h => (d8 (mark_ne (by decide) h))), (fun _ => rfl), (fun h => (d10 (mark_ne (by decide) h))), (fun h => (d11 (mark_ne (by decide) h))), (fun h => fun h2 => (d12 (mark_ne (by decide) h)) (mark_off (by decide) h2)), (fun h => (d13 (mark_ne (by decide) h))), (fun h => (d14 (mark_ne (by decide) h))), (fun h => (d15 (mark_ne (by decide) h))), (fun h => (d16 (mark_ne (by decide) h))), (fun h => (d17 (mark_ne (by decide) h))), (fun h => let ⟨q, q0, q1, q2, q3⟩ := (d18 (mark_ne (by decide) h)); ⟨q, q0, q1, q2, fun h => q3 (mark_off (by decide) h)⟩), (fun h => let ⟨q, q0, q1, q2, q3⟩ := (d19 (mark_ne (by decide) h)); ⟨q, q0, q1, q2, fun h => q3 (mark_off (by decide) h)⟩), (fun h => let ⟨q0, q1, q2, q3⟩ := (d20 (mark_ne (by decide) h)); ⟨mark_of q0, q1, q2, q3⟩), (fun h => let ⟨q0, q1, q2, q3⟩ := (d21 (mark_ne (by decide) h)); ⟨⟨mark_of q0.1, mark_of q0.2⟩, q1, q2, q3⟩), (fun h h' => e0 (mark_ne (by decide) h) (mark_ne (by decide) h'))⟩
        refine ordStep_cons (fun L aI wI hI hi hp K hK => ?_) ?_
        · obtain ⟨v13, v14, v21, v22, v23, v24, v25, v26, v27, v28, v29, v30, v31, v32, v33, v34, v35, v36, v37, v38, rfl, hB, d0, d1, d2, d3, d4, d5, d6, d7, d8, d9, d10, d11, d12, d13, d14, d15, d16, d17, d18, d19, d20, d21, e0⟩ := hI
          have HK := Lib.hid hK
          clear hK
          have HP := Lib.hid hp
          clear hp
          go_simp
          refine HK.out _ _ ?_
          exact ⟨_, _, _, _, _, _, _, _, _, _, _, _, _, _, _, _, _, _, _, _, rfl, hB, (fun h => (d0 (mark_ne (by decide) h))), (fun h => (d1 (mark_ne (by decide) h))), (fun h => (d2 (mark_ne (by decide) h))), (fun h => fun h2 => (d3 (mark_ne (by decide) h)) (mark_off (by decide) h2)), (fun h => (d4 (mark_ne (by decide) h))), (fun h => (d5 (mark_ne (by decide) h))), (fun h => (d6 (mark_ne (by decide) h))), (fun h => (d7 (mark_ne (by decide) h))), (fun h => (d8 (mark_ne (by decide) h))), (fun h => (d9 (mark_ne (by decide) h))), (fun _ => rfl), (fun h => (d11 (mark_ne (by decide) h))), (fun h => fun h2 => (d12 (mark_ne (by decide) h)) (mark_off (by decide) h2)), (fun h => (d13 (mark_ne (by decide) h))), (fun h => (d14 (mark_ne (by decide) h))), (fun h => (d15 (mark_ne (by decide) h))), (fun h => (d16 (mark_ne (by decide) h))), (fun h => (d17 (mark_ne (by decide) h))), (fun h => let ⟨q, q0, q1, q2, q3⟩ := (d18 (mark_ne (by decide) h)); ⟨q, q0, q1, q2, fun h => q3 (mark_off (by decide) h)⟩), (fun h => let ⟨q, q0, q1, q2, q3⟩ := (d19 (mark_ne (by decide) h)); ⟨q, q0, q1, q2, fun h => q3 (mark_off (by decide) h)⟩), (fun h => let ⟨q0, q1, q2, q3⟩ := (d20 (mark_ne (by decide) h)); ⟨mark_of q0, q1, q2, q3⟩), (fun h => let ⟨q0, q1, q2, q3⟩ := (d21 (mark_ne (by decide) h)); ⟨⟨mark_of q0.1, mark_of q0.2⟩, q1, q2, q3⟩), (fun h h' => e0 (mark_ne (by decide) h) (mark_ne (by decide) h'))⟩
        refine ordStep_cons (fun L aI wI hI hi hp K hK => ?_) ?_
        · obtain ⟨v13, v14, v21, v22, v23, v24, v25, v26, v27, v28, v29, v30, v31, v32, v33, v34, v35, v36, v37, v38, rfl, hB, d0, d1, d2, d3, d4, d5, d6, d7, d8, d9, d10, d11, d12, d13, d14, d15, d16, d17, d18, d19, d20, d21, e0⟩ := hI
          have HK := Lib.hid hK
          clear hK
          have p10 := d10 (hp ⟨10, .data⟩ (by simp) rfl)
          have HP := Lib.hid hp
          clear hp
          obtain ⟨s0, s1, s2, s3, s4, s5, s6, s7, s8, s9, s10, s11, -⟩ := MK.out wI hB
          subst p10
          go_simp
          refine HK.out _ _ ?_
          exact ⟨_, _, _, _, _, _, _, _, _, _, _, _, _, _, _, _, _, _, _, _, rfl, hB, (fun h => (d0 (mark_ne (by decide) h))), (fun h => (d1 (mark_ne (by decide) h))), (fun h => (d2 (mark_ne (by decide) h))), (fun h => fun h2 => (d3 (mark_ne (by decide) h)) (mark_off (by decide) h2)), (fun h => (d4 (mark_ne (by decide) h))), (fun h => (d5 (mark_ne (by decide) h))), (fun h => (d6 (mark_ne (by decide) h))), (fun h => (d7 (mark_ne (by decide) h))), (fun h => (d8 (mark_ne (by decide) h))), (fun h => (d9 (mark_ne (by decide) h))), (fun h => (d10 (mark_ne (by decide) h))), (fun _ => rfl), (fun h => fun h2 => (d12 (mark_ne (by decide) h)) (mark_off (by decide) h2)), (fun h => (d13 (mark_ne (by decide) h))), (fun h => (d14 (mark_ne (by decide) h))), (fun h => (d15 (mark_ne (by decide) h))), (fun h => (d16 (mark_ne (by decide) h))), (fun h => (d17 (mark_ne (by decide) h))), (fun h => let ⟨q, q0, q1, q2, q3⟩ := (d18 (mark_ne (by decide) h)); ⟨q, q0, q1, q2, fun h => q3 (mark_off (by decide) h)⟩), (fun h => let ⟨q, q0, q1, q2, q3⟩ := (d19 (mark_ne (by decide) h)); ⟨q, q0, q1, q2, fun h => q3 (mark_off (by decide) h)⟩), (fun h => let ⟨q0, q1, q2, q3⟩ := (d20 (mark_ne (by decide) h)); ⟨mark_of q0, q1, q2, q3⟩), (fun h => let ⟨q0, q1, q2, q3⟩ := (d21 (mark_ne (by decide) h)); ⟨⟨mark_of q0.1, mark_of q0.2⟩, q1, q2, q3⟩), (fun h h' => e0 (mark_ne (by decide) h) (mark_ne (by decide) h'))⟩
        refine ordStep_cons (fun L aI wI hI hi hp K hK => ?_) ?_
        · obtain ⟨v13, v14, v21, v22, v23, v24, v25, v26, v27, v28, v29, v30, v31, v32, v33, v34, v35, v36, v37, v38, rfl, hB, d0, d1, d2, d3, d4, d5, d6, d7, d8, d9, d10, d11, d12, d13, d14, d15, d16, d17, d18, d19, d20, d21, e0⟩ := hI
          have HK := Lib.hid hK
          clear hK
          have p11 := d11 (hp ⟨11, .data⟩ (by simp) rfl)
          have HP := Lib.hid hp
          clear hp
          subst p11
          go_simp
          go_at_call 65
          refine (refNames_any _ b _ (RdF.next hb0 (bww.trans (hB.mono bww.size))) hlb).mono ?_
          rintro e w7 ⟨o7, rfl, ho7, b7⟩
          have hr7 := RdS.of_own ho7
          obtain ⟨o7A, o7c, rfl, -⟩ := ho7.form
          refine HK.out _ _ ?_
          exact ⟨_, _, _, _, _, _, _, _, _, _, _, _, _, _, _, _, _, _, _, _, rfl, hB.trans (b7.mono hB.size), (fun h => (d0 (mark_ne (by decide) h))), (fun h => (d1 (mark_ne (by decide) h))), (fun h => (d2 (mark_ne (by decide) h))), (fun h => fun h2 => RdS.next_ ((d3 (mark_ne (by decide) h)) (mark_off (by decide) h2)) b7), (fun h => (d4 (mark_ne (by decide) h))), (fun h => (d5 (mark_ne (by decide) h))), (fun h => (d6 (mark_ne (by decide) h))), (fun h => (d7 (mark_ne (by decide) h))), (fun h => (d8 (mark_ne (by decide) h))), (fun h => (d9 (mark_ne (by decide) h))), (fun h => (d10 (mark_ne (by decide) h))), (fun h => (d11 (mark_ne (by decide) h))), (fun _ => fun _ => hr7), (fun h => (d13 (mark_ne (by decide) h))), (fun h => (d14 (mark_ne (by decide) h))), (fun h => (d15 (mark_ne (by decide) h))), (fun h => (d16 (mark_ne (by decide) h))), (fun h => (d17 (mark_ne (by decide) h))), (fun h => let ⟨q, q0, q1, q2, q3⟩ := (d18 (mark_ne (by decide) h)); ⟨q, q0, q1, Nat.lt_of_lt_of_le q2 b7.size, fun h => (q3 (mark_off (by decide) h)).below b7 (Box.lt (q3 (mark_off (by decide) h)))⟩), (fun h => let ⟨q, q0, q1, q2, q3⟩ := (d19 (mark_ne (by decide) h)); ⟨q, q0, q1, Nat.lt_of_lt_of_le q2 b7.size, fun h => (q3 (mark_off (by decide) h)).below b7 (Box.lt (q3 (mark_off (by decide) h)))⟩), (fun h => let ⟨q0, q1, q2, q3⟩ := (d20 (mark_ne (by decide) h)); ⟨mark_of q0, q1, q2, q3.below b7 q3.lt⟩), (fun h => let ⟨q0, q1, q2, q3⟩ := (d21 (mark_ne (by decide) h)); ⟨⟨mark_of q0.1, mark_of q0.2⟩, q1, q2, q3.below b7 q3.lt⟩), (fun h h' => e0 (mark_ne (by decide) h) (mark_ne (by decide) h'))⟩
        refine ordStep_cons (fun L aI wI hI hi hp K hK => ?_) ?_
        · obtain ⟨v13, v14, v21, v22, v23, v24, v25, v26, v27, v28, v29, v30, v31, v32, v33, v34, v35, v36, v37, v38, rfl, hB, d0, d1, d2, d3, d4, d5, d6, d7, d8, d9, d10, d11, d12, d13, d14, d15, d16, d17, d18, d19, d20, d21, e0⟩ := hI
          have HK := Lib.hid hK
          clear hK
          have HP := Lib.hid hp
          clear hp
          go_simp
          refine HK.out _ _ ?_
          exact ⟨_, _, _, _, _, _, _, _, _, _, _, _, _, _, _, _, _, _, _, _, rfl, hB, (fun h => (d0 (mark_ne (by decide) h))), (fun h => (d1 (mark_ne (by decide) h))), (fun h => (d2 (mark_ne (by decide) h))), (fun h => fun h2 => (d3 (mark_ne (by decide) h)) (mark_off (by decide) h2)), (fun h => (d4 (mark_ne (by decide) h))), (fun h => (d5 (mark_ne (by decide) h))), (fun h => (d6 (mark_ne (by decide) h))), (fun h => (d7 (mark_ne (by decide) h))), (fun h => (d8 (mark_ne (by decide) h))), (fun h => (d9 (mark_ne (by decide) h))), (fun h => (d10 (mark_ne (by decide) h))), (fun h => (d11 (mark_ne (by decide) h))), (fun h => fun h2 => (d12 (mark_ne (by decide) h)) (mark_off (by decide) h2)), (fun _ => rfl), (fun h => (d14 (mark_ne (by decide) h))), (fun h => (d15 (mark_ne (by decide) h))), (fun h => (d16 (mark_ne (by decide) h))), (fun h => (d17 (mark_ne (by decide) h))), (fun h => let ⟨q, q0, q1, q2, q3⟩ := (d18 (mark_ne (by decide) h)); ⟨q, q0, q1, q2, fun h => q3 (mark_off (by decide) h)⟩), (fun h => let ⟨q, q0, q1, q2, q3⟩ := (d19 (mark_ne (by decide) h)); ⟨q, q0, q1, q2, fun h => q3 (mark_off (by decide) h)⟩), (fun h => let ⟨q0, q1, q2, q3⟩ := (d20 (mark_ne (by decide) h)); ⟨mark_of q0, q1, q2, q3⟩), (fun h => let ⟨q0, q1, q2, q3⟩ := (d21 (mark_ne (by decide) h)); ⟨⟨mark_of q0.1, mark_of q0.2⟩, q1, q2, q3⟩), (fun h h' => e0 (mark_ne (by decide) h) (mark_ne (by decide) h'))⟩
        refine ordStep_cons (fun L aI wI hI hi hp K hK => ?_) ?_
        · obtain ⟨v13, v14, v21, v22, v23, v24, v25, v26, v27, v28, v29, v30, v31, v32, v33, v34, v35, v36, v37, v38, rfl, hB, d0, d1, d2, d3, d4, d5, d6, d7, d8, d9, d10, d11, d12, d13, d14, d15, d16, d17, d18, d19, d20, d21, e0⟩ := hI
          have HK := Lib.hid hK
          clear hK
          have p13 := d13 (hp ⟨13, .data⟩ (by simp) rfl)
          have HP := Lib.hid hp
          clear hp
          obtain ⟨s0, s1, s2, s3, s4, s5, s6, s7, s8, s9, s10, s11, -⟩ := MK.out wI hB
          subst p13
          go_simp
          refine HK.out _ _ ?_
          exact ⟨_, _, _, _, _, _, _, _, _, _, _, _, _, _, _, _, _, _, _, _, rfl, hB, (fun h => (d0 (mark_ne (by decide) h))), (fun h => (d1 (mark_ne (by decide) h))), (fun h => (d2 (mark_ne (by decide) h))), (fun h => fun h2 => (d3 (mark_ne (by decide) h)) (mark_off (by decide) h2)), (fun h => (d4 (mark_ne (by decide) h))), (fun h => (d5 (mark_ne (by decide) h))), (fun h => (d6 (mark_ne (by decide) h))), (fun h => (d7 (mark_ne (by decide) h))), (fun h => (d8 (mark_ne (by decide) h))), (fun h => (d9 (mark_ne (by decide) h))), (fun h => (d10 (mark_ne (by decide) h))), (fun h => (d11 (mark_ne (by decide) h))), (fun h => fun h2 => (d12 (mark_ne (by decide) h)) (mark_off (by decide) h2)), (fun h => (d13 (mark_ne (by decide) h))), (fun _ => rfl), (fun h => (d15 (mark_ne (by decide) h))), (fun h => (d16 (mark_ne (by decide) h))), (fun h => (d17 (mark_ne (by decide) h))), (fun h => let ⟨q, q0, q1, q2, q3⟩ := (d18 (mark_ne (by decide) h)); ⟨q, q0, q1, q2, fun h => q3 (mark_off (by decide) h)⟩), (fun h => let ⟨q, q0, q1, q2, q3⟩ := (d19 (mark_ne (by decide) h)); ⟨q, q0, q1, q2, fun h => q3 (mark_off (by decide) h)⟩), (fun h => let ⟨q0, q1, q2, q3⟩ := (d20 (mark_ne (by decide) h)); ⟨mark_of q0, q1, q2, q3⟩), (fun h => let ⟨q0, q1, q2, q3⟩ := (d21 (mark_ne (by decide) h)); ⟨⟨mark_of q0.1, mark_of q0.2⟩, q1, q2, q3⟩), (fun h h' => e0 (mark_ne (by decide) h) (mark_ne (by decide) h'))⟩
        refine ordStep_cons (fun L aI wI hI hi hp K hK => ?_) ?_
        · obtain ⟨v13, v14, v21, v22, v23, v24, v25, v26, v27, v28, v29, v30, v31, v32, v33, v34, v35, v36, v37, v38, rfl, hB, d0, d1, d2, d3, d4, d5, d6, d7, d8, d9, d10, d11, d12, d13, d14, d15, d16, d17, d18, d19, d20, d21, e0⟩ := hI
          have HK := Lib.hid hK
          clear hK
          have p12 := d12 (hp ⟨12, .data⟩ (by simp) rfl)
          have p14 := d14 (hp ⟨14, .data⟩ (by simp) rfl)
          have HP := Lib.hid hp
          clear hp
          subst p14
          have pR := p12 hi
          obtain ⟨o9A, o9c, rfl, -⟩ := id pR
          go_simp
          go_at_call 64
          refine (refAt_any _ (namesC b) xr _ pR).mono ?_
          rintro e w9 ⟨rfl, rfl⟩
          rw [HPB.out]
          refine HK.out _ _ ?_
          exact ⟨_, _, _, _, _, _, _, _, _, _, _, _, _, _, _, _, _, _, _, _, rfl, hB, (fun h => (d0 (mark_ne (by decide) h))), (fun h => (d1 (mark_ne (by decide) h))), (fun h => (d2 (mark_ne (by decide) h))), (fun h => fun h2 => (d3 (mark_ne (by decide) h)) (mark_off (by decide) h2)), (fun h => (d4 (mark_ne (by decide) h))), (fun h => (d5 (mark_ne (by decide) h))), (fun h => (d6 (mark_ne (by decide) h))), (fun h => (d7 (mark_ne (by decide) h))), (fun h => (d8 (mark_ne (by decide) h))), (fun h => (d9 (mark_ne (by decide) h))), (fun h => (d10 (mark_ne (by decide) h))), (fun h => (d11 (mark_ne (by decide) h))), (fun h => fun h2 => mark_self h2), (fun h => (d13 (mark_ne (by decide) h))), (fun h => (d14 (mark_ne (by decide) h))), (fun _ => rfl), (fun h => (d16 (mark_ne (by decide) h))), (fun h => (d17 (mark_ne (by decide) h))), (fun h => let ⟨q, q0, q1, q2, q3⟩ := (d18 (mark_ne (by decide) h)); ⟨q, q0, q1, q2, fun h => q3 (mark_off (by decide) h)⟩), (fun h => let ⟨q, q0, q1, q2, q3⟩ := (d19 (mark_ne (by decide) h)); ⟨q, q0, q1, q2, fun h => q3 (mark_off (by decide) h)⟩), (fun h => let ⟨q0, q1, q2, q3⟩ := (d20 (mark_ne (by decide) h)); ⟨mark_of q0, q1, q2, q3⟩), (fun h => let ⟨q0, q1, q2, q3⟩ := (d21 (mark_ne (by decide) h)); ⟨⟨mark_of q0.1, mark_of q0.2⟩, q1, q2, q3⟩), (fun h h' => e0 (mark_ne (by decide) h) (mark_ne (by decide) h'))⟩
        refine ordStep_cons (fun L aI wI hI hi hp K hK => ?_) ?_
        · obtain ⟨v13, v14, v21, v22, v23, v24, v25, v26, v27, v28, v29, v30, v31, v32, v33, v34, v35, v36, v37, v38, rfl, hB, d0, d1, d2, d3, d4, d5, d6, d7, d8, d9, d10, d11, d12, d13, d14, d15, d16, d17, d18, d19, d20, d21, e0⟩ := hI
          have HK := Lib.hid hK
          clear hK
          have p9 := d9 (hp ⟨9, .data⟩ (by simp) rfl)
          have p15 := d15 (hp ⟨15, .data⟩ (by simp) rfl)
          have HP := Lib.hid hp
          clear hp
          subst p9
          subst p15
          go_simp
          refine HK.out _ _ ?_
          exact ⟨_, _, _, _, _, _, _, _, _, _, _, _, _, _, _, _, _, _, _, _, rfl, hB, (fun h => (d0 (mark_ne (by decide) h))), (fun h => (d1 (mark_ne (by decide) h))), (fun h => (d2 (mark_ne (by decide) h))), (fun h => fun h2 => (d3 (mark_ne (by decide) h)) (mark_off (by decide) h2)), (fun h => (d4 (mark_ne (by decide) h))), (fun h => (d5 (mark_ne (by decide) h))), (fun h => (d6 (mark_ne (by decide) h))), (fun h => (d7 (mark_ne (by decide) h))), (fun h => (d8 (mark_ne (by decide) h))), (fun h => (d9 (mark_ne (by decide) h))), (fun h => (d10 (mark_ne (by decide) h))), (fun h => (d11 (mark_ne (by decide) h))), (fun h => fun h2 => (d12 (mark_ne (by decide) h)) (mark_off (by decide) h2)), (fun h => (d13 (mark_ne (by decide) h))), (fun h => (d14 (mark_ne (by decide) h))), (fun h => (d15 (mark_ne (by decide) h))), (fun _ => rfl), (fun h => (d17 (mark_ne (by decide) h))), (fun h => let ⟨q, q0, q1, q2, q3⟩ := (d18 (mark_ne (by decide) h)); ⟨q, q0, q1, q2, fun h => q3 (mark_off (by decide) h)⟩), (fun h => let ⟨q, q0, q1, q2, q3⟩ := (d19 (mark_ne (by decide) h)); ⟨q, q0, q1, q2, fun h => q3 (mark_off (by decide) h)⟩), (fun h => let ⟨q0, q1, q2, q3⟩ := (d20 (mark_ne (by decide) h)); ⟨mark_of q0, q1, q2, q3⟩), (fun h => let ⟨q0, q1, q2, q3⟩ := (d21 (mark_ne (by decide) h)); ⟨⟨mark_of q0.1, mark_of q0.2⟩, q1, q2, q3⟩), (fun h h' => e0 (mark_ne (by decide) h) (mark_ne (by decide) h'))⟩
        refine ordStep_cons (fun L aI wI hI hi hp K hK => ?_) ?_
        · obtain ⟨v13, v14, v21, v22, v23, v24, v25, v26, v27, v28, v29, v30, v31, v32, v33, v34, v35, v36, v37, v38, rfl, hB, d0, d1, d2, d3, d4, d5, d6, d7, d8, d9, d10, d11, d12, d13, d14, d15, d16, d17, d18, d19, d20, d21, e0⟩ := hI
          have HK := Lib.hid hK
          clear hK
          have p16 := d16 (hp ⟨16, .data⟩ (by simp) rfl)
          have HP := Lib.hid hp
          clear hp
          obtain ⟨s0, s1, s2, s3, s4, s5, s6, s7, s8, s9, s10, s11, -⟩ := MK.out wI hB
          subst p16
          go_simp
          refine HK.out _ _ ?_
          exact ⟨_, _, _, _, _, _, _, _, _, _, _, _, _, _, _, _, _, _, _, _, rfl, hB, (fun h => (d0 (mark_ne (by decide) h))), (fun h => (d1 (mark_ne (by decide) h))), (fun h => (d2 (mark_ne (by decide) h))), (fun h => fun h2 => (d3 (mark_ne (by decide) h)) (mark_off (by decide) h2)), (fun h => (d4 (mark_ne (by decide) h))), (fun h => (d5 (mark_ne (by decide) h))), (fun h => (d6 (mark_ne (by decide) h))), (fun h => (d7 (mark_ne (by decide) h))), (fun h => (d8 (mark_ne (by decide) h))), (fun h => (d9 (mark_ne (by decide) h))), (fun h => (d10 (mark_ne (by decide) h))), (fun h => (d11 (mark_ne (by decide) h))), (fun h => fun h2 => (d12 (mark_ne (by decide) h)) (mark_off (by decide) h2)), (fun h => (d13 (mark_ne (by decide) h))), (fun h => (d14 (mark_ne (by decide) h))), (fun h => (d15 (mark_ne (by decide) h))), (fun h => (d16 (mark_ne (by decide) h))), (fun _ => rfl), (fun h => let ⟨q, q0, q1, q2, q3⟩ := (d18 (mark_ne (by decide) h)); ⟨q, q0, q1, q2, fun h => q3 (mark_off (by decide) h)⟩), (fun h => let ⟨q, q0, q1, q2, q3⟩ := (d19 (mark_ne (by decide) h)); ⟨q, q0, q1, q2, fun h => q3 (mark_off (by decide) h)⟩), (fun h => let ⟨q0, q1, q2, q3⟩ := (d20 (mark_ne (by decide) h)); ⟨mark_of q0, q1, q2, q3⟩), (fun h => let ⟨q0, q1, q2, q3⟩ := (d21 (mark_ne (by decide) h)); ⟨⟨mark_of q0.1, mark_of q0.2⟩, q1, q2, q3⟩), (fun h h' => e0 (mark_ne (by decide) h) (mark_ne (by decide) h'))⟩
        refine ordStep_cons (fun L aI wI hI hi hp K hK => ?_) ?_
        · obtain ⟨v13, v14, v21, v22, v23, v24, v25, v26, v27, v28, v29, v30, v31, v32, v33, v34, v35, v36, v37, v38, rfl, hB, d0, d1, d2, d3, d4, d5, d6, d7, d8, d9, d10, d11, d12, d13, d14, d15, d16, d17, d18, d19, d20, d21, e0⟩ := hI
          have HK := Lib.hid hK
          clear hK
          have HP := Lib.hid hp
          clear hp
          go_simp
          refine HK.out _ _ ?_
          exact ⟨_, _, _, _, _, _, _, _, _, _, _, _, _, _, _, _, _, _, _, _, rfl, hB.alloc hB.size _, (fun h => (d0 (mark_ne (by decide) h))), (fun h => (d1 (mark_ne (by decide) h))), (fun h => (d2 (mark_ne (by decide) h))), (fun h => fun h2 => RdS.next_ ((d3 (mark_ne (by decide) h)) (mark_off (by decide) h2)) ((Below.refl _ _).alloc (Nat.le_refl _) _)), (fun h => (d4 (mark_ne (by decide) h))), (fun h => (d5 (mark_ne (by decide) h))), (fun h => (d6 (mark_ne (by decide) h))), (fun h => (d7 (mark_ne (by decide) h))), (fun h => (d8 (mark_ne (by decide) h))), (fun h => (d9 (mark_ne (by decide) h))), (fun h => (d10 (mark_ne (by decide) h))), (fun h => (d11 (mark_ne (by decide) h))), (fun h => fun h2 => RdS.next_ ((d12 (mark_ne (by decide) h)) (mark_off (by decide) h2)) ((Below.refl _ _).alloc (Nat.le_refl _) _)), (fun h => (d13 (mark_ne (by decide) h))), (fun h => (d14 (mark_ne (by decide) h))), (fun h => (d15 (mark_ne (by decide) h))), (fun h => (d16 (mark_ne (by decide) h))), (fun h => (d17 (mark_ne (by decide) h))), (fun _ => ⟨_, rfl, hB.size, by simp, fun _ => Box.new _ _ _⟩), (fun h => let ⟨q, q0, q1, q2, q3⟩ := (d19 (mark_ne (by decide) h)); ⟨q, q0, q1, lt_allocW q2, fun h => (q3 (mark_off (by decide) h)).alloc _⟩), (fun h => absurd ((d20 (mark_ne (by decide) h))).1 (by rw [hi]; decide)), (fun h => absurd ((d21 (mark_ne (by decide) h))).1.2 (by rw [hi]; decide)), (fun _ h => let ⟨q, q0, q1, q2, q3⟩ := d19 (mark_ne (by decide) h); by rw [q0]; intro hh; injection hh with hh; injection hh with hh; injection hh with hh; omega)⟩
        refine ordStep_cons (fun L aI wI hI hi hp K hK => ?_) ?_
        · obtain ⟨v13, v14, v21, v22, v23, v24, v25, v26, v27, v28, v29, v30, v31, v32, v33, v34, v35, v36, v37, v38, rfl, hB, d0, d1, d2, d3, d4, d5, d6, d7, d8, d9, d10, d11, d12, d13, d14, d15, d16, d17, d18, d19, d20, d21, e0⟩ := hI
          have HK := Lib.hid hK
          clear hK
          have HP := Lib.hid hp
          clear hp
          go_simp
          refine HK.out _ _ ?_
          exact ⟨_, _, _, _, _, _, _, _, _, _, _, _, _, _, _, _, _, _, _, _, rfl, hB.alloc hB.size _, (fun h => (d0 (mark_ne (by decide) h))), (fun h => (d1 (mark_ne (by decide) h))), (fun h => (d2 (mark_ne (by decide) h))), (fun h => fun h2 => RdS.next_ ((d3 (mark_ne (by decide) h)) (mark_off (by decide) h2)) ((Below.refl _ _).alloc (Nat.le_refl _) _)), (fun h => (d4 (mark_ne (by decide) h))), (fun h => (d5 (mark_ne (by decide) h))), (fun h => (d6 (mark_ne (by decide) h))), (fun h => (d7 (mark_ne (by decide) h))), (fun h => (d8 (mark_ne (by decide) h))), (fun h => (d9 (mark_ne (by decide) h))), (fun h => (d10 (mark_ne (by decide) h))), (fun h => (d11 (mark_ne (by decide) h))), (fun h => fun h2 => RdS.next_ ((d12 (mark_ne (by decide) h)) (mark_off (by decide) h2)) ((Below.refl _ _).alloc (Nat.le_refl _) _)), (fun h => (d13 (mark_ne (by decide) h))), (fun h => (d14 (mark_ne (by decide) h))), (fun h => (d15 (mark_ne (by decide) h))), (fun h => (d16 (mark_ne (by decide) h))), (fun h => (d17 (mark_ne (by decide) h))), (fun h => let ⟨q, q0, q1, q2, q3⟩ := (d18 (mark_ne (by decide) h)); ⟨q, q0, q1, lt_allocW q2, fun h => (q3 (mark_off (by decide) h)).alloc _⟩), (fun _ => ⟨_, rfl, hB.size, by simp, fun _ => Box.new _ _ _⟩), (fun h => let ⟨q0, q1, q2, q3⟩ := (d20 (mark_ne (by decide) h)); ⟨mark_of q0, q1, q2, q3.alloc _⟩), (fun h => absurd ((d21 (mark_ne (by decide) h))).1.1 (by rw [hi]; decide)), (fun h _ => let ⟨q, q0, q1, q2, q3⟩ := d18 (mark_ne (by decide) h); by rw [q0]; intro hh; injection hh with hh; injection hh with hh; injection hh with hh; omega)⟩
        refine ordStep_cons (fun L aI wI hI hi hp K hK => ?_) ?_
        · obtain ⟨v13, v14, v21, v22, v23, v24, v25, v26, v27, v28, v29, v30, v31, v32, v33, v34, v35, v36, v37, v38, rfl, hB, d0, d1, d2, d3, d4, d5, d6, d7, d8, d9, d10, d11, d12, d13, d14, d15, d16, d17, d18, d19, d20, d21, e0⟩ := hI
          have HK := Lib.hid hK
          clear hK
          have p18 := d18 (hp ⟨18, .data⟩ (by simp) rfl)
          have p8 := d8 (hp ⟨8, .data⟩ (by simp) rfl)
          have q6 := hp ⟨6, .phase⟩ (by simp) rfl
          have q15 := hp ⟨15, .chain⟩ (by simp) rfl
          have q18 := hp ⟨18, .phase⟩ (by simp) rfl
          have q19 := hp ⟨19, .phase⟩ (by simp) rfl
          have Q := Lib.hid (And.intro q6 (And.intro q15 (And.intro q18 q19)))
          have NE := Lib.hid (e0 q18 q19)
          clear q6 q15 q18 q19
          have HP := Lib.hid hp
          clear hp
          obtain ⟨g1, rfl, hg1, hlt1, hb1⟩ := p18
          have hb2 := hb1 hi
          subst p8
          have z0 := hb2.cell 0
          have f0 := hb2.frozen 0
          have z1 := hb2.cell 1
          have f1 := hb2.frozen 1
          have z2 := hb2.cell 2
          have f2 := hb2.frozen 2
          have z3 := hb2.cell 3
          have f3 := hb2.frozen 3
          simp at z0 z1 z2 z3 f0 f1 f2 f3
          go_simp
          refine HK.out _ _ ?_
          exact ⟨_, _, _, _, _, _, _, _, _, _, _, _, _, _, _, _, _, _, _, _, rfl, (((hB.setCell hg1 _).setCell hg1 _).setCell hg1 _).setCell hg1 _, (fun h => (d0 (mark_ne (by decide) h))), (fun h => (d1 (mark_ne (by decide) h))), (fun h => (d2 (mark_ne (by decide) h))), (fun h => fun h2 => absurd (mark_off (by decide) h2) (by rw [Q.out.1]; decide)), (fun h => (d4 (mark_ne (by decide) h))), (fun h => (d5 (mark_ne (by decide) h))), (fun h => (d6 (mark_ne (by decide) h))), (fun h => (d7 (mark_ne (by decide) h))), (fun h => (d8 (mark_ne (by decide) h))), (fun h => (d9 (mark_ne (by decide) h))), (fun h => (d10 (mark_ne (by decide) h))), (fun h => (d11 (mark_ne (by decide) h))), (fun h => fun h2 => absurd (mark_off (by decide) h2) (by rw [Q.out.2.1]; decide)), (fun h => (d13 (mark_ne (by decide) h))), (fun h => (d14 (mark_ne (by decide) h))), (fun h => (d15 (mark_ne (by decide) h))), (fun h => (d16 (mark_ne (by decide) h))), (fun h => (d17 (mark_ne (by decide) h))), (fun h => ⟨_, rfl, hg1, lt_set4 hlt1, fun h => mark_self h⟩), (fun h => let ⟨q, q0, q1, q2, q3⟩ := (d19 (mark_ne (by decide) h)); ⟨q, q0, q1, lt_set4 q2, fun h => (((((q3 (mark_off (by decide) h)).off (ptr_ne NE.out q0) 0 _).off (ptr_ne NE.out q0) 1 _).off (ptr_ne NE.out q0) 2 _).off (ptr_ne NE.out q0) 3 _)⟩), (fun _ => ⟨mark_of Q.out.2.2.1, _, rfl, (((hb2.put 0 _).put 1 _).put 2 _).put 3 _⟩), (fun h => let ⟨q0, q1, q2, q3⟩ := (d21 (mark_ne (by decide) h)); ⟨⟨mark_of q0.1, mark_of q0.2⟩, q1, q2, ((((q3.off (ptr_ne NE.out q2) 0 _).off (ptr_ne NE.out q2) 1 _).off (ptr_ne NE.out q2) 2 _).off (ptr_ne NE.out q2) 3 _)⟩), (fun _ _ => NE.out)⟩
        refine ordStep_cons (fun L aI wI hI hi hp K hK => ?_) ?_
        · obtain ⟨v13, v14, v21, v22, v23, v24, v25, v26, v27, v28, v29, v30, v31, v32, v33, v34, v35, v36, v37, v38, rfl, hB, d0, d1, d2, d3, d4, d5, d6, d7, d8, d9, d10, d11, d12, d13, d14, d15, d16, d17, d18, d19, d20, d21, e0⟩ := hI
          have HK := Lib.hid hK
          clear hK
          have p19 := d19 (hp ⟨19, .data⟩ (by simp) rfl)
          have p17 := d17 (hp ⟨17, .data⟩ (by simp) rfl)
          have q6 := hp ⟨6, .phase⟩ (by simp) rfl
          have q15 := hp ⟨15, .phase⟩ (by simp) rfl
          have q18 := hp ⟨18, .phase⟩ (by simp) rfl
          have q19 := hp ⟨19, .phase⟩ (by simp) rfl
          have Q := Lib.hid (And.intro q6 (And.intro q15 (And.intro q18 q19)))
          have NE := Lib.hid (e0 q18 q19)
          clear q6 q15 q18 q19
          have HP := Lib.hid hp
          clear hp
          obtain ⟨g1, rfl, hg1, hlt1, hb1⟩ := p19
          have hb2 := hb1 hi
          subst p17
          have z0 := hb2.cell 0
          have f0 := hb2.frozen 0
          have z1 := hb2.cell 1
          have f1 := hb2.frozen 1
          have z2 := hb2.cell 2
          have f2 := hb2.frozen 2
          have z3 := hb2.cell 3
          have f3 := hb2.frozen 3
          simp at z0 z1 z2 z3 f0 f1 f2 f3
          go_simp
          refine HK.out _ _ ?_
          exact ⟨_, _, _, _, _, _, _, _, _, _, _, _, _, _, _, _, _, _, _, _, rfl, (((hB.setCell hg1 _).setCell hg1 _).setCell hg1 _).setCell hg1 _, (fun h => (d0 (mark_ne (by decide) h))), (fun h => (d1 (mark_ne (by decide) h))), (fun h => (d2 (mark_ne (by decide) h))), (fun h => fun h2 => absurd (mark_off (by decide) h2) (by rw [Q.out.1]; decide)), (fun h => (d4 (mark_ne (by decide) h))), (fun h => (d5 (mark_ne (by decide) h))), (fun h => (d6 (mark_ne (by decide) h))), (fun h => (d7 (mark_ne (by decide) h))), (fun h => (d8 (mark_ne (by decide) h))), (fun h => (d9 (mark_ne (by decide) h))), (fun h => (d10 (mark_ne (by decide) h))), (fun h => (d11 (mark_ne (by decide) h))), (fun h => fun h2 => absurd (mark_off (by decide) h2) (by rw [Q.out.2.1]; decide)), (fun h => (d13 (mark_ne (by decide) h))), (fun h => (d14 (mark_ne (by decide) h))), (fun h => (d15 (mark_ne (by decide) h))), (fun h => (d16 (mark_ne (by decide) h))), (fun h => (d17 (mark_ne (by decide) h))), (fun h => let ⟨q, q0, q1, q2, q3⟩ := (d18 (mark_ne (by decide) h)); ⟨q, q0, q1, lt_set4 q2, fun h => (((((q3 (mark_off (by decide) h)).off (ptr_ne' NE.out q0) 0 _).off (ptr_ne' NE.out q0) 1 _).off (ptr_ne' NE.out q0) 2 _).off (ptr_ne' NE.out q0) 3 _)⟩), (fun h => ⟨_, rfl, hg1, lt_set4 hlt1, fun h => mark_self h⟩), (fun h => let ⟨q0, q1, q2, q3⟩ := (d20 (mark_ne (by decide) h)); ⟨mark_of q0, q1, q2, ((((q3.off (ptr_ne' NE.out q2) 0 _).off (ptr_ne' NE.out q2) 1 _).off (ptr_ne' NE.out q2) 2 _).off (ptr_ne' NE.out q2) 3 _)⟩), (fun _ => ⟨⟨mark_of Q.out.2.2.2, mark_of Q.out.2.2.1⟩, _, rfl, (((hb2.put 0 _).put 1 _).put 2 _).put 3 _⟩), (fun _ _ => NE.out)⟩
        exact ordStep_nil
      · intro L aI wI hL hI
        obtain ⟨v13, v14, v21, v22, v23, v24, v25, v26, v27, v28, v29, v30, v31, v32, v33, v34, v35, v36, v37, v38, rfl, hB, d0, d1, d2, d3, d4, d5, d6, d7, d8, d9, d10, d11, d12, d13, d14, d15, d16, d17, d18, d19, d20, d21, e0⟩ := hI
        obtain ⟨-, ga, rfl, hba⟩ := d20 (hL 20 (by decide))
        obtain ⟨-, gb, rfl, hbb⟩ := d21 (hL 21 (by decide))
        clear d0 d1 d2 d3 d4 d5 d6 d7 d8 d9 d10 d11 d12 d13 d14 d15 d16 d17 d18 d19 d20 d21 e0 hL L
        have bwz := bww.trans (hB.mono bww.size)
        have hBz := hBs.trans (hB.mono hBs.size)
        have za0 := hba.cell 0
        have za1 := hba.cell 1
        have za2 := hba.cell 2
        have za3 := hba.cell 3
        have zb0 := hbb.cell 0
        have zb1 := hbb.cell 1
        have zb2 := hbb.cell 2
        have zb3 := hbb.cell 3
        simp at za0 za1 za2 za3 zb0 zb1 zb2 zb3
        clear hba hbb hB
        obtain ⟨w5, rfl⟩ : ∃ w5 : World, w5 = wI := ⟨_, rfl⟩
        by_cases ek : xk = 0
        · have HYY := Lib.hid (HBAD.out (by simp [ek]))
          have d0 : (xk == 0) = true := by simp [ek]
          go_wp2
          exact HR.out _ _ ⟨by rw [HYY.out]; try rfl, bwz⟩
        · have d0 : (xk == 0) = false := by simp [ek]
          have hdk : decide (xk = 0) = false := decide_eq_false ek
          by_cases e0 : xk = yk
          · by_cases e1 : xs = ys
            · by_cases e2 : xn = yn
              · by_cases e3 : xb = yb
                · have HNN := Lib.hid (HNEXT.out (by rw [hdk, e0, e1, e2, e3]; simp))
                  have e4 : xi = yi := by rw [HXI.out, HYI.out, e3]
                  subst e0 e1 e2 e3 e4
                  clear hdk ek
                  go_wp2
                  exact ⟨⟨k + 1, by omega, by go_num, HNN.out, hBz⟩, by simp [intOf]; omega⟩
                · have HYY := Lib.hid (HBAD.out (by rw [hdk, Bool.false_or, Bool.not_eq_true', decide_eq_false_iff_not]; exact fun h => by injection h with _ _ _ h; exact e3 h))
                  have d4 : (xi == yi) = false := by rw [beq_eq_false_iff_ne, HXI.out, HYI.out]; exact fun h => e3 (nullI_inj h)
                  subst e0 e1 e2
                  clear e3 hdk ek
                  go_wp2
                  exact HR.out _ _ ⟨by rw [HYY.out]; try rfl, bwz⟩
              · have HYY := Lib.hid (HBAD.out (by rw [hdk, Bool.false_or, Bool.not_eq_true', decide_eq_false_iff_not]; exact fun h => by injection h with _ _ h _; exact e2 h))
                have d3 : (xn == yn) = false := by rw [beq_eq_false_iff_ne]; exact e2
                subst e0 e1
                clear e2 hdk ek
                go_wp2
                exact HR.out _ _ ⟨by rw [HYY.out]; try rfl, bwz⟩
            · have HYY := Lib.hid (HBAD.out (by rw [hdk, Bool.false_or, Bool.not_eq_true', decide_eq_false_iff_not]; exact fun h => by injection h with _ h _ _; exact e1 h))
              have d2 : (xs.toList == ys.toList) = false := by rw [str_eq]; exact decide_eq_false e1
              subst e0
              clear e1 hdk ek
              go_wp2
              exact HR.out _ _ ⟨by rw [HYY.out]; try rfl, bwz⟩
          · have HYY := Lib.hid (HBAD.out (by rw [hdk, Bool.false_or, Bool.not_eq_true', decide_eq_false_iff_not]; exact fun h => by injection h with h _ _ _; exact e0 h))
            have d1 : (xk == yk) = false := by rw [beq_eq_false_iff_ne]; exact e0
            clear e0 hdk ek
            go_wp2
            exact HR.out _ _ ⟨by rw [HYY.out]; try rfl, bwz⟩
    · obtain rfl : k = on.length := by omega
      have hy : Y = false := by rw [HY.out, ← HN.out, List.take_length]
      have HYY := Lib.hid hy
      clear hlt hy
      go_wp2
      exact HR.out _ _ ⟨by rw [HYY.out]; try rfl, bw⟩
end Go.Proofs.YtgiemhooeoakmaaDoor


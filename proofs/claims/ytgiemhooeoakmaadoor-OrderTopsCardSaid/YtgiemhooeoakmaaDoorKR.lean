/- Layer 22, the law: keys as the reference has them; the reference's Check. Layer 22, the reference: Check. -/
import Derived.Test.YtgiemhooeoakmaaDoorKQ
import Derived.Test.YtgiemhooeoakmaaDoorKC
import Derived.Test.YtgiemhooeoakmaaDoorKG
namespace Go.Proofs.YtgiemhooeoakmaaDoor
open Go.RowKit Go.ChangeShapes Go.WideShapes
set_option linter.unusedVariables false
set_option linter.unusedSimpArgs false

theorem rkey_info : (Tryd.prog.info? 151).map (fun i => (i.zero, i.size, i.bytes)) = some (some (.agg #[.string ⟨#[]⟩, .int .i64 0]), 2, 24) := by kernel_rfl
set_option maxHeartbeats 2000000 in
theorem lawKeys_any (vo : Value) (ks : List KeyP) (w : World) (ho : RdKey w w.heap.size vo ks) (hl : ks.length ≤ 100000) :
    Calls Tryd.prog 45 #[vo] w fun e w' => ∃ o, e = .returned o ∧ Own w' w.heap.size 151 2 o ks.length (ks.flatMap rkeyV) ∧ Below w.heap.size w w' := by
  refine cps fun R HR => ?_
  obtain ⟨i0, hi0, hz0, hz1, hz2⟩ := info_parts rkey_info
  have ho0 := ho
  have hfo := RdF.few ho0
  obtain ⟨A3, c3, rfl, -⟩ := ho.is
  clear ho
  go_enter Tryd.func45, Tryd.ntmps45
  go_wp2
  go_loopw [3, 9] (fun o i wr => ∃ k : Nat, k ≤ ks.length ∧ i = .int .i64 k ∧ Own wr w.heap.size 151 2 o k ((ks.take k).flatMap rkeyV) ∧ Below w.heap.size w wr) (fun _ i _ => ks.length - (intOf i).toNat)
  case atStart => exact ⟨0, Nat.zero_le _, rfl, Own.nil_ _ _ _ _, Below.refl _ _⟩
  case round =>
    obtain ⟨k, hk, rfl, hO, hB⟩ := hrel
    by_cases hlt : k < ks.length
    · obtain ⟨p, c6, hv, q0, q1⟩ := RdKey.at (ho0.below hB) hlt
      injection hv with hA hln hcc
      subst hA
      subst hcc
      clear hln
      have hs1 : (ks.take (k + 1)).flatMap rkeyV = (ks.take k).flatMap rkeyV ++ rkeyV ks[k] := by rw [List.take_succ_eq_append_getElem hlt, List.flatMap_append, List.flatMap_cons, List.flatMap_nil, List.append_nil]
      obtain ⟨x, hx⟩ : ∃ x, x = ks[k] := ⟨_, rfl⟩
      rw [← hx] at q0 q1 hs1
      obtain ⟨xc, xd⟩ := x
      dsimp only at q0 q1
      have ho1 := rkey_one ⟨xc, xd⟩
      have dk : decide ((k : Int) < ks.length) = true := decide_eq_true (by omega)
      have b1 := (Below.refl wr.heap.size wr).alloc (Nat.le_refl _) (.cells #[.string xc, .bool xd] 146)
      clear hx
      cases xd
      · have hv1 : rkeyV ⟨xc, false⟩ = (#[.string xc, .int .i64 0] : Array Value).toList := rfl
        rw [hv1] at hs1 ho1
        have S1 := Lib.hid hs1; have O1 := Lib.hid ho1
        have b2 := b1.alloc b1.size (.cells #[.string xc, .int .i64 0] 151)
        have hOw := hO.below b2 (Nat.le_refl _)
        have hBw := hB.trans (b2.mono hB.size)
        clear hs1 ho1 hv1
        go_wp2_with (at_builtin; refine wpList_pushF rfl _ _ _ rfl w.heap.size 151 i0 _ 2 24 Tryd.underlying79 hi0 hz0 hz1 hz2 rfl (by omega) (by omega) u3 k _ #[.string xc, .int .i64 0] rfl rfl hOw (by simp [Act.eval]) O1.out (by omega) hBw.size ?_; intro v5 w5 hown5 hg5 hat5)
        exact ⟨⟨k + 1, by omega, by go_num, by rw [S1.out]; exact hown5, below_grown hBw hg5 (fun g hg => (hO.lt g hg).1) hBw.size⟩, by simp [intOf]; omega⟩
      · have hv1 : rkeyV ⟨xc, true⟩ = (#[.string xc, .int .i64 1] : Array Value).toList := rfl
        rw [hv1] at hs1 ho1
        have S1 := Lib.hid hs1; have O1 := Lib.hid ho1
        have b2 := b1.alloc b1.size (.cells #[.string xc, .int .i64 1] 151)
        have hOw := hO.below b2 (Nat.le_refl _)
        have hBw := hB.trans (b2.mono hB.size)
        clear hs1 ho1 hv1
        go_wp2_with (at_builtin; refine wpList_pushF rfl _ _ _ rfl w.heap.size 151 i0 _ 2 24 Tryd.underlying79 hi0 hz0 hz1 hz2 rfl (by omega) (by omega) u3 k _ #[.string xc, .int .i64 1] rfl rfl hOw (by simp [Act.eval]) O1.out (by omega) hBw.size ?_; intro v5 w5 hown5 hg5 hat5)
        exact ⟨⟨k + 1, by omega, by go_num, by rw [S1.out]; exact hown5, below_grown hBw hg5 (fun g hg => (hO.lt g hg).1) hBw.size⟩, by simp [intOf]; omega⟩
    · obtain rfl : k = ks.length := by omega
      rw [List.take_length] at hO
      clear hlt
      go_wp2
      exact HR.out _ _ ⟨_, rfl, hO, hB⟩
end Go.Proofs.YtgiemhooeoakmaaDoor

namespace Go.Proofs.YtgiemhooeoakmaaDoor
open Go.RowKit Go.ChangeShapes Go.WideShapes
set_option linter.unusedVariables false
set_option linter.unusedSimpArgs false

theorem any_col (l : List KeyP) (s : ByteArray) : (l.any fun p => decide (p.col = s)) = decide (s ∈ l.map KeyP.col) := by
  induction l with
  | nil => rfl
  | cons x r ih =>
    rw [List.any_cons, ih, Bool.eq_iff_iff]
    simp only [Bool.or_eq_true, decide_eq_true_iff, List.map_cons, List.mem_cons]
    exact ⟨fun h => h.imp Eq.symm id, fun h => h.imp Eq.symm id⟩
set_option maxHeartbeats 8000000 in
set_option maxRecDepth 100000 in
theorem rocheck_any (vk vl : Value) (ks : List KeyP) (l : List Col) (w : World) (hk : RdRKey w w.heap.size vk ks) (hl : RdRC w w.heap.size vl l) (hkl : ks.length ≤ 100000) (hll : l.length ≤ 100000) (hca : ∀ c ∈ l, c.name.size ≤ 100000) :
    Calls Tryd.prog 44 #[vk, vl] w fun e w' => e = .returned (.tuple #[.int .i64 (kchk l ks).1, .int .i64 (kchk l ks).2]) ∧ Below w.heap.size w w' := by
  refine cps fun R HR => ?_
  obtain ⟨i0, hi0, hz0, hz1, hz2⟩ := info_parts str_info
  have hk0 := hk; have hl0 := hl
  obtain ⟨A1, c1, rfl, -⟩ := hk.is
  obtain ⟨A2, c2, rfl, -⟩ := hl.is
  clear hk hl
  have hfk := RdF.few hk0
  obtain ⟨Y, hY⟩ : ∃ Y, Y = kchk l ks := ⟨_, rfl⟩
  rw [← hY] at HR
  unfold kchk at hY
  obtain ⟨ca, hca2⟩ : ∃ n, n = chkC l := ⟨_, rfl⟩
  rw [← hca2] at hY
  have HY := Lib.hid hY; have HCA := Lib.hid hca2
  clear hY hca2
  go_enter Tryd.func44, Tryd.ntmps44
  go_wp2_with fail
  refine (refCheck_any _ l _ hl0 hll hca).mono ?_
  rintro e w3 ⟨rfl, b3⟩
  rw [← HCA.out]
  obtain ⟨ca1, ca2⟩ := ca
  by_cases h0 : ca2 = 0
  · subst h0
    have hy := HY.out
    rw [if_neg (by simp)] at hy
    have HP := Lib.hid hy
    clear hy HY
    go_wp2
    obtain ⟨w4, rfl⟩ : ∃ w4 : World, w4 = w3 := ⟨_, rfl⟩
    go_loopw [8, 21] (fun o i wr => ∃ k : Nat, k ≤ ks.length ∧ i = .int .i64 k ∧ keyF l ks k (ks.drop k) = Y ∧ Own wr w4.heap.size 9 1 o k (strV ((ks.take k).map KeyP.col)) ∧ Below w4.heap.size w4 wr) (fun _ i _ => ks.length - (intOf i).toNat)
    case atStart => exact ⟨0, Nat.zero_le _, rfl, HP.out.symm, Own.nil_ _ _ _ _, Below.refl _ _⟩
    case round =>
      obtain ⟨k, hk, rfl, hN, hO, hB⟩ := hrel
      have HN := Lib.hid hN
      have bw := b3.trans (hB.mono b3.size)
      clear hN
      by_cases hlt : k < ks.length
      · obtain ⟨p, c6, hv, q0, q1⟩ := RdRKey.at (RdF.next hk0 bw) hlt
        injection hv with hA hln hcc
        subst hA
        subst hcc
        clear hln
        have hs2 : ks.drop k = ks[k] :: ks.drop (k + 1) := List.drop_eq_getElem_cons hlt
        have hs3 : (ks.take (k + 1)).map KeyP.col = (ks.take k).map KeyP.col ++ [ks[k].col] := by rw [List.take_succ_eq_append_getElem hlt, List.map_append]; rfl
        obtain ⟨x, hx⟩ : ∃ x, x = ks[k] := ⟨_, rfl⟩
        rw [← hx] at q0 q1 hs2 hs3
        obtain ⟨xc, xd⟩ := x
        dsimp only at q0 q1 hs3
        obtain ⟨xi, hxi⟩ : ∃ n, n = nullI xd := ⟨_, rfl⟩
        rw [← hxi] at q1
        obtain ⟨tt, htt⟩ : ∃ t, t = ((ks.take k).any fun p => decide (p.col = xc)) := ⟨_, rfl⟩
        have hn0 : xc ∉ namesC l → Y = (k, 16) := fun h => by
          have h2 := HN.out
          rw [hs2, keyF, if_neg h] at h2
          exact h2.symm
        have hn1 : xc ∈ namesC l → tt = true → Y = (k, 15) := fun h ht => by
          have h2 := HN.out
          rw [hs2, keyF, if_pos h] at h2
          dsimp only at h2
          rw [← htt, if_pos ht] at h2
          exact h2.symm
        have hn2 : xc ∈ namesC l → tt = false → keyF l ks (k + 1) (ks.drop (k + 1)) = Y := fun h ht => by
          have h2 := HN.out
          rw [hs2, keyF, if_pos h] at h2
          dsimp only at h2
          rw [← htt, if_neg (by rw [ht]; simp)] at h2
          exact h2
        have hsv : strV ((ks.take (k + 1)).map KeyP.col) = strV ((ks.take k).map KeyP.col) ++ [.string xc] := by rw [hs3]; simp [strV]
        have htm : tt = decide (xc ∈ (ks.take k).map KeyP.col) := by rw [htt, any_col]
        have HN0 := Lib.hid hn0; have HN1 := Lib.hid hn1; have HN2 := Lib.hid hn2; have HTT := Lib.hid htt; have HSV := Lib.hid hsv; have HTM := Lib.hid htm
        obtain ⟨ws, hws⟩ : ∃ ws, ws = wr.alloc (.cells #[.string xc, .int .i64 xi] 151) := ⟨_, rfl⟩
        have bws : Below wr.heap.size wr ws := by rw [hws]; exact (Below.refl _ _).alloc (Nat.le_refl _) _
        have Z := Box.new wr 151 #[.string xc, .int .i64 xi]
        rw [← hws] at Z
        have bww := bw.trans (bws.mono bw.size)
        have hBs := hB.trans (bws.mono hB.size)
        have hOs := hO.below bws (Nat.le_refl _)
        have mk : ∀ w', Below ws.heap.size ws w' → w'.cell? ⟨wr.heap.size, 0, none⟩ = some (.string xc) ∧ Below ws.heap.size ws w' := fun w' hb => ⟨(Z.below hb Z.lt).cell 0, hb⟩
        obtain ⟨pA, hpA⟩ : ∃ n, n = posF 0 (namesC l) xc := ⟨_, rfl⟩
        have MK := Lib.hid mk; have HWS := Lib.hid hws; have HZ := Lib.hid Z; have HPA := Lib.hid hpA; have HOS := Lib.hid hOs
        have dk : decide ((k : Int) < ks.length) = true := decide_eq_true (by omega)
        clear hx hs2 hs3 hxi hn0 hn1 hn2 htt hsv htm hws Z mk hpA hO hOs
        go_wp2
        rw [← HWS.out]
        go_region_held3 (fun w' => w'.cell? ⟨wr.heap.size, 0, none⟩ = some (.string xc) ∧ Below ws.heap.size ws w') (first | (exact MK.out _ (Below.drew (Below.refl _ _))) | (go_split_ands; exact MK.out _ (by assumption)) | (go_split_ands; exact MK.out _ (keepB (by assumption) (by assumption))) | go_keep)
          (first | (go_at_call 65; go_split_ands; refine (refNames_any _ l _ (RdF.next hl0 (bww.trans (Below.mono (by assumption) bww.size))) hll).mono ?_; rintro e w7 ⟨o7, rfl, ho7, b7⟩; have cb : Below ws.heap.size ws w7 := keepB b7 (by assumption); obtain ⟨o7A, o7c, rfl, -⟩ := ho7.form) | (go_at_call 64; go_split_ands; refine (refAt_any _ (namesC l) xc _ (RdS.of_own ho7)).mono ?_; rintro e w9 ⟨rfl, rfl⟩; rw [← HPA.out]))
        have bw7 := bww.trans (cb.mono bww.size)
        have hB7 := hBs.trans (cb.mono hBs.size)
        have Z7 := HZ.out.below cb HZ.out.lt
        have z0 := Z7.cell 0
        simp at z0
        have hO7 := HOS.out.below cb (Nat.le_refl _)
        clear ho7
        by_cases hmem : xc ∈ namesC l
        · have hpn : ¬ pA < 0 := by rw [HPA.out]; have := (posF_some hmem 0).1; omega
          have dp : decide (pA < 0) = false := decide_eq_false hpn
          have HM := Lib.hid hmem
          obtain ⟨nA, nc, rfl, -⟩ := hO7.form
          clear hmem
          go_wp2_with fail
          refine (refAt_any _ ((ks.take k).map KeyP.col) xc _ (RdS.of_own (by simpa using hO7))).mono ?_
          rintro e w9 ⟨rfl, rfl⟩
          obtain ⟨pB, hpB⟩ : ∃ n, n = posF 0 ((ks.take k).map KeyP.col) xc := ⟨_, rfl⟩
          rw [← hpB]
          have HPB := Lib.hid hpB
          clear hpB
          cases tt
          · have hno : xc ∉ (ks.take k).map KeyP.col := of_decide_eq_false HTM.out.symm
            have hpb : pB = -1 := by rw [HPB.out, posF_none hno]
            have HNN := Lib.hid (HN2.out HM.out rfl)
            subst hpb
            clear hno
            go_wp2_with (at_builtin; refine wpList_push rfl _ _ _ rfl w4.heap.size 9 i0 _ 16 Tryd.underlying26 hi0 hz0 hz1 hz2 rfl (by omega) (.slice nA k nc) k _ (.string xc) rfl hO7 rfl rfl (by omega) hB7.size ?_; intro v5 w5 hown5 hg5 hat5)
            exact ⟨⟨k + 1, by omega, by go_num, HNN.out, by rw [HSV.out]; exact hown5, below_grown hB7 hg5 (fun g hg => (hO7.lt g hg).1) hB7.size⟩, by simp [intOf]; omega⟩
          · have hyes : xc ∈ (ks.take k).map KeyP.col := of_decide_eq_true HTM.out.symm
            have hpb : 0 ≤ pB := by rw [HPB.out]; exact (posF_some hyes 0).1
            have hpb2 : ¬ pB < 0 := by omega
            have dpb : decide (0 ≤ pB) = true := decide_eq_true hpb
            have hy := HN1.out HM.out rfl
            subst hy
            clear hyes
            go_wp2
            exact HR.out _ _ ⟨rfl, bw7⟩
        · have hpn : pA = -1 := by rw [HPA.out, posF_none hmem]
          have hy := HN0.out hmem
          subst hy
          subst hpn
          clear hmem
          go_wp2
          exact HR.out _ _ ⟨rfl, bw7⟩
      · obtain rfl : k = ks.length := by omega
        have hy : Y = (ks.length, 0) := by rw [← HN.out, List.drop_length, keyF]
        subst hy
        clear hlt
        go_wp2
        exact HR.out _ _ ⟨rfl, bw⟩
  · have dne : ((ca2 : Int) != 0) = true := by rw [bne_iff_ne]; omega
    have hy := HY.out
    rw [if_pos (by simpa using h0)] at hy
    subst hy
    clear h0
    go_wp2
    exact HR.out _ _ ⟨rfl, b3⟩
end Go.Proofs.YtgiemhooeoakmaaDoor


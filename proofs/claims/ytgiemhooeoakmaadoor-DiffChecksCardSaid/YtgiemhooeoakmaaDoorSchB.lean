/- Layer 18, the reference: Names, Check; the law's Ref. -/
import Derived.Test.YtgiemhooeoakmaaDoorSchA
import Derived.Test.YtgiemhooeoakmaaDoorUtfM
import Derived.Deep.RegionHeld3
namespace Go.Proofs.YtgiemhooeoakmaaDoor
open Go.RowKit Go.ChangeShapes Go.WideShapes
set_option linter.unusedVariables false
set_option linter.unusedSimpArgs false

set_option maxHeartbeats 1000000 in
theorem refNames_any (v : Value) (l : List Col) (w : World) (h : RdRC w w.heap.size v l) (hl : l.length ≤ 100000) :
    Calls Tryd.prog 65 #[v] w fun e w' => ∃ o, e = .returned o ∧ Own w' w.heap.size 9 1 o l.length (strV (namesC l)) ∧ Below w.heap.size w w' := by
  refine cps fun R HR => ?_
  obtain ⟨i0, hi0, hz0, hz1, hz2⟩ := info_parts str_info
  have h0 := h
  obtain ⟨A, c, rfl, -⟩ := h.is
  clear h
  go_enter Tryd.func65, Tryd.ntmps65
  go_wp2
  go_loopw [3, 8] (fun o i wr => ∃ k : Nat, k ≤ l.length ∧ i = .int .i64 k ∧ Own wr w.heap.size 9 1 o k (strV (namesC (l.take k))) ∧ Below w.heap.size w wr) (fun _ i _ => l.length - (intOf i).toNat)
  case atStart => exact ⟨0, Nat.zero_le _, rfl, Own.nil_ _ _ _ _, Below.refl _ _⟩
  case round =>
    obtain ⟨k, hk, rfl, hO, hB⟩ := hrel
    by_cases hlt : k < l.length
    · obtain ⟨a, c3, hv, q0, q1, q2⟩ := RdRC.at (h0.below hB) hlt
      injection hv with hA _ hcc
      subst hA
      subst hcc
      have hs1 := namesC_snoc hlt
      obtain ⟨x, hx⟩ : ∃ x, x = l[k] := ⟨_, rfl⟩
      rw [← hx] at q0 q1 q2 hs1
      have S1 := Lib.hid hs1
      clear hx hs1
      have dk : decide ((k : Int) < l.length) = true := decide_eq_true (by omega)
      have hOw := hO.below ((Below.refl wr.heap.size wr).alloc (Nat.le_refl _) (.cells #[.string x.name, .int .i64 x.kind, .int .i64 (nullI x.null)] 120)) (Nat.le_refl _)
      have hBw := hB.alloc hB.size (.cells #[.string x.name, .int .i64 x.kind, .int .i64 (nullI x.null)] 120)
      go_wp2_with (at_builtin; refine wpList_push rfl _ _ _ rfl w.heap.size 9 i0 _ 16 Tryd.underlying26 hi0 hz0 hz1 hz2 rfl (by omega) u3 k _ (.string x.name) rfl hOw (by simp [Act.eval]) rfl (by omega) hBw.size ?_; intro v5 w5 hown5 hg5 hat5)
      exact ⟨⟨k + 1, by omega, by go_num, by rw [S1.out, strV_snoc]; exact hown5, below_grown hBw hg5 (fun g hg => (hO.lt g hg).1) hBw.size⟩, by simp [intOf]; omega⟩
    · obtain rfl : k = l.length := by omega
      rw [List.take_length] at hO
      clear hlt
      go_wp2
      exact HR.out _ _ ⟨_, rfl, hO, hB⟩
theorem keepS {W ws w' : World} {p : Addr} {u : Value} (hb : Below ws.heap.size ws w') (hc : ws.cell? p = some u) (hB : Below W.heap.size W ws) : w'.cell? p = some u ∧ Below W.heap.size W w' :=
  ⟨(hb.cell (World.block_lt_of_cell? ws _ hc)).trans hc, hB.trans (hb.mono hB.size)⟩
set_option maxHeartbeats 2000000 in
theorem refCheck_any (v : Value) (l : List Col) (w : World) (h : RdRC w w.heap.size v l) (hl : l.length ≤ 100000) (hs : ∀ c ∈ l, c.name.size ≤ 100000) :
    Calls Tryd.prog 63 #[v] w fun e w' => e = .returned (.tuple #[.int .i64 (chkC l).1, .int .i64 (chkC l).2]) ∧ Below w.heap.size w w' := by
  refine cps fun R HR => ?_
  have h0 := h
  obtain ⟨A, c, rfl, -⟩ := h.is
  have hfew := RdF.few h0
  clear h
  obtain ⟨Y, hY⟩ : ∃ Y, Y = chkC l := ⟨_, rfl⟩
  rw [← hY] at HR
  unfold chkC at hY
  have HY := Lib.hid hY; have HS := Lib.hid hs
  clear hY hs
  go_enter Tryd.func63, Tryd.ntmps63
  by_cases hn : l = []
  · subst hn
    have hy2 := HY.out
    rw [if_pos rfl] at hy2
    subst hy2
    go_wp2
    exact HR.out _ _ ⟨rfl, Below.refl _ _⟩
  · have hpos : 0 < l.length := List.length_pos_iff.2 hn
    have d : ((l.length : Int) == 0) = false := by rw [beq_eq_false_iff_ne]; omega
    have HY2 := Lib.hid (show Y = chkF 0 [] l by rw [HY.out, if_neg hn])
    clear HY hn
    go_wp2
    go_loopw [11] (fun i wr => ∃ k : Nat, k ≤ l.length ∧ i = .int .i64 k ∧ chkF k (namesC (l.take k)) (l.drop k) = Y ∧ Below w.heap.size w wr) (fun i _ => l.length - (intOf i).toNat)
    case atStart => exact ⟨0, Nat.zero_le _, rfl, HY2.out.symm, Below.refl _ _⟩
    case round =>
      obtain ⟨k, hk, rfl, hN, hB⟩ := hrel
      have HN := Lib.hid hN
      clear hN
      by_cases hlt : k < l.length
      · obtain ⟨a, c3, hv, q0, q1, q2⟩ := RdRC.at (h0.below hB) hlt
        injection hv with hA _ hcc
        subst hA
        subst hcc
        have hs1 := namesC_snoc hlt
        have hs2 : l.drop k = l[k] :: l.drop (k + 1) := List.drop_eq_getElem_cons hlt
        have hs4 : l[k].name.size ≤ 100000 := HS.out _ (List.getElem_mem hlt)
        obtain ⟨x, hx⟩ : ∃ x, x = l[k] := ⟨_, rfl⟩
        rw [← hx] at q0 q1 q2 hs1 hs2 hs4
        have S1 := Lib.hid hs1; have S2 := Lib.hid hs2
        clear hx hs1 hs2
        have dk : decide ((k : Int) < l.length) = true := decide_eq_true (by omega)
        by_cases hkb : kindB x = true
        · have hy2 := HN.out
          rw [S2.out, chkF, if_pos hkb] at hy2
          subst hy2
          unfold kindB at hkb
          by_cases h1 : x.kind < 1
          · have d1 : decide (x.kind < 1) = true := decide_eq_true h1
            clear hkb h1
            go_wp2
            exact HR.out _ _ ⟨rfl, hB.alloc hB.size _⟩
          · have d1 : decide (x.kind < 1) = false := decide_eq_false h1
            have d2 : decide (3 < x.kind) = true := by rw [d1] at hkb; simpa using hkb
            clear hkb h1
            go_wp2
            exact HR.out _ _ ⟨rfl, hB.alloc hB.size _⟩
        · have hkb2 := hkb
          unfold kindB at hkb2
          have d1 : decide (x.kind < 1) = false := by rw [Bool.eq_false_iff]; intro h; exact hkb2 (by rw [h]; rfl)
          have d2 : decide (3 < x.kind) = false := by rw [Bool.eq_false_iff]; intro h; exact hkb2 (by rw [h]; simp)
          have HKB := Lib.hid hkb
          clear hkb hkb2
          obtain ⟨w2, hw2⟩ : ∃ w2, w2 = wr.alloc (.cells #[.string x.name, .int .i64 x.kind, .int .i64 (nullI x.null)] 120) := ⟨_, rfl⟩
          have hB2 : Below w.heap.size w w2 := by rw [hw2]; exact hB.alloc hB.size _
          have b0 : w2.cell? ⟨wr.heap.size, 0, none⟩ = some (.string x.name) := by rw [hw2]; exact (Box.new wr 120 #[.string x.name, .int .i64 x.kind, .int .i64 (nullI x.null)]).cell 0
          have k0 := cell_regrown b0
          have hwl := whole_len x.name.data.toList
          have hxl : x.name.data.toList.length = x.name.size := by rw [Array.length_toList]; rfl
          rw [hxl] at hwl
          obtain ⟨wl, hwl2⟩ : ∃ wl, wl = wholeR x.name.data.toList := ⟨_, rfl⟩
          have hval := valid_law x.name.data.toList
          rw [hxl] at hval
          rw [← hwl2] at hval hwl
          have gW : ∀ dn os, Calls Tryd.prog 103 #[.string x.name] (Go.Sort.grow (redrawn w2 dn) os) fun e w'' => e = .returned (.int .i64 wl) ∧ ∃ p : Regrown, w'' = Go.Sort.grow (redrawn w2 p.d) p.os := fun dn os => Calls.regrown_of (by
            rw [hwl2]
            exact whole_any x.name _ (by unfold maxLen; omega))
          have HVAL := Lib.hid hval; have HWL := Lib.hid hwl2
          clear hval hwl2 hxl
          have hle2 : wr.heap.size + 1 = w2.heap.size := by rw [hw2]; simp
          have HLE := Lib.hid hle2
          have HB0 := Lib.hid b0
          clear hle2 b0
          go_wp2
          rw [← hw2]
          have HW2 := Lib.hid hw2
          clear hw2
          refine wp_region_quiet_below (by kernel_rfl) (by kernel_rfl) ?_
          repeat (go_big_quiet_step ((go_at_call 103; with_reducible exact gW _ _)))
          refine wpQuiet_nil ?_
          intro w9 hw9
          have bel2 : Below w2.heap.size w2 w9 := by obtain ⟨p, rfl⟩ := hw9; exact below_regrown _ p.d p.os
          clear hw9 gW k0
          have hB9 := hB2.trans (bel2.mono hB2.size)
          by_cases hlw : wl < x.name.size
          · have hy2 := HN.out
            rw [S2.out, chkF, if_neg HKB.out, if_pos (by rw [HVAL.out]; exact decide_eq_false (by omega))] at hy2
            subst hy2
            have d3 : decide (wl < x.name.size) = true := decide_eq_true hlw
            have d4 : decide ((wl : Int) < x.name.size) = true := decide_eq_true (by omega)
            go_wp2
            exact HR.out _ _ ⟨rfl, hB9⟩
          · have d3 : decide (wl < x.name.size) = false := decide_eq_false hlw
            have d4 : decide ((wl : Int) < x.name.size) = false := decide_eq_false (by omega)
            have hva : ¬ validF x.name.data.toList = false := by rw [HVAL.out, decide_eq_true (show wl = x.name.size by omega)]; simp
            have HVA := Lib.hid hva
            clear hva
            have hcap := RdF.cap h0
            have hkc : k ≤ c := by omega
            have hc0 : ¬ c = 0 := by omega
            have hltk : (l.take k).length ≤ 100000 := by rw [List.length_take]; omega
            have hle9 := HLE.out
            have b9 : w9.cell? ⟨wr.heap.size, 0, none⟩ = some (.string x.name) := by
              rw [bel2.cell (p := ⟨wr.heap.size, 0, none⟩) (by show wr.heap.size < _; omega)]
              exact HB0.out
            clear hle9
            have TK := Lib.hid (RdF.take (RdF.next h0 hB9) rcolV_len (k := k) (by omega))
            have HLT := Lib.hid hltk
            clear hltk
            obtain ⟨gc, hgc⟩ : ∃ gc, gc = wr.heap.size := ⟨_, rfl⟩
            rw [← hgc] at b9
            go_wp2
            rw [← hgc]
            clear hgc
            have hBx := Below.refl w9.heap.size w9
            go_region_held3 (fun w' => w'.cell? ⟨gc, 0, none⟩ = some (.string x.name) ∧ Below w9.heap.size w9 w') (first | (exact ⟨b9, hBx.drew⟩) | (go_split_ands; exact keepS (by assumption) (by assumption) (by assumption)) | go_keep) (first | (go_at_call 65; go_split_ands; refine (refNames_any _ (l.take k) _ (RdF.next TK.out (by assumption)) HLT.out).mono ?_; rintro e w' ⟨o, rfl, ho, bh⟩) | (go_at_call 64; refine (refAt_any _ (namesC (l.take k)) x.name _ (RdS.of_own (by assumption))).mono ?_; rintro e w' ⟨rfl, rfl⟩))
            obtain ⟨-, hb9⟩ : w'.cell? ⟨gc, 0, none⟩ = some (.string x.name) ∧ Below w9.heap.size w9 w' := by assumption
            have hBf := hB9.trans (hb9.mono hB9.size)
            have dge := posF_ge (namesC (l.take k)) x.name
            clear ho bh
            by_cases hin : x.name ∈ namesC (l.take k)
            · have hy2 := HN.out
              rw [S2.out, chkF, if_neg HKB.out, if_neg HVA.out, if_pos hin] at hy2
              subst hy2
              have h0p := posF_some hin 0
              have hpn : 0 ≤ posF 0 (namesC (l.take k)) x.name := by omega
              have hpm : ¬ posF 0 (namesC (l.take k)) x.name < 0 := by omega
              clear hin h0p dge
              go_wp2
              exact HR.out _ _ ⟨rfl, hBf⟩
            · have hn1 : chkF (k + 1) (namesC (l.take (k + 1))) (l.drop (k + 1)) = Y := by
                have h := HN.out
                rw [S2.out, chkF, if_neg HKB.out, if_neg HVA.out, if_neg hin, ← S1.out] at h
                exact h
              have N1 := Lib.hid hn1
              have hpe := posF_none hin 0
              have hpn : ¬ 0 ≤ posF 0 (namesC (l.take k)) x.name := by omega
              have hpm : posF 0 (namesC (l.take k)) x.name < 0 := by omega
              clear hn1 hin hpe dge
              go_wp2
              exact ⟨⟨k + 1, by omega, by go_num, N1.out, hBf⟩, by simp [intOf]; omega⟩
      · obtain rfl : k = l.length := by omega
        have hy2 := HN.out
        rw [List.drop_length, chkF] at hy2
        subst hy2
        clear hlt
        go_wp2
        exact HR.out _ _ ⟨rfl, hB⟩
set_option maxHeartbeats 1000000 in
theorem refCols_any (v : Value) (l : List Col) (w : World) (h : RdC w w.heap.size v l) (hl : l.length ≤ 100000) :
    Calls Tryd.prog 21 #[v] w fun e w' => ∃ o, e = .returned o ∧ Own w' w.heap.size 120 3 o l.length (l.flatMap rcolV) ∧ Below w.heap.size w w' := by
  refine cps fun R HR => ?_
  obtain ⟨i0, hi0, hz0, hz1, hz2⟩ := info_parts rcol_info
  have h0 := h
  obtain ⟨A, c, rfl, -⟩ := h.is
  clear h
  go_enter Tryd.func21, Tryd.ntmps21
  go_wp2
  go_loopw [3, 9] (fun o i wr => ∃ k : Nat, k ≤ l.length ∧ i = .int .i64 k ∧ Own wr w.heap.size 120 3 o k ((l.take k).flatMap rcolV) ∧ Below w.heap.size w wr) (fun _ i _ => l.length - (intOf i).toNat)
  case atStart => exact ⟨0, Nat.zero_le _, rfl, Own.nil_ _ _ _ _, Below.refl _ _⟩
  case round =>
    obtain ⟨k, hk, rfl, hO, hB⟩ := hrel
    by_cases hlt : k < l.length
    · obtain ⟨a, c3, hv, q0, q1, q2⟩ := RdC.at (h0.below hB) hlt
      injection hv with hA _ hcc
      subst hA
      subst hcc
      have hs1 : (l.take (k + 1)).flatMap rcolV = (l.take k).flatMap rcolV ++ rcolV l[k] := by rw [List.take_succ_eq_append_getElem hlt, rcol_snoc]
      obtain ⟨x, hx⟩ : ∃ x, x = l[k] := ⟨_, rfl⟩
      rw [← hx] at q0 q1 q2 hs1
      obtain ⟨xn, xk, xu⟩ := x
      have S1 := Lib.hid hs1
      clear hx hs1
      have dk : decide ((k : Int) < l.length) = true := decide_eq_true (by omega)
      obtain ⟨n1, hn1⟩ : ∃ n1, n1 = nullI xu := ⟨_, rfl⟩
      obtain ⟨wb, hwb⟩ : ∃ wb, wb = (wr.alloc (.cells #[.string xn, .int .i64 xk, .bool xu] 99)).alloc (.cells #[.string xn, .int .i64 xk, .int .i64 n1] 120) := ⟨_, rfl⟩
      have hOw : Own wb w.heap.size 120 3 u3 k ((l.take k).flatMap rcolV) := by
        rw [hwb]
        exact (hO.below ((Below.refl wr.heap.size wr).alloc (Nat.le_refl _) _) (Nat.le_refl _)).below ((Below.refl _ _).alloc (Nat.le_refl _) _) (Nat.le_refl _)
      have hBw : Below w.heap.size w wb := by rw [hwb]; exact (hB.alloc hB.size _).alloc (by have := hB.size; simp; omega) _
      have hsz : wb.heap.size = wr.heap.size + 1 + 1 := by rw [hwb]; simp
      rw [hwb] at hOw hBw
      have HOW := Lib.hid hOw; have HBW := Lib.hid hBw
      clear hsz hOw hBw hwb
      subst hn1
      cases xu
      · have e0 : nullI false = 0 := rfl
        have E0 := Lib.hid (show rcolV ⟨xn, xk, false⟩ = (#[.string xn, .int .i64 xk, .int .i64 0] : Array Value).toList from rfl)
        have O1 := Lib.hid (show ∀ u ∈ (#[.string xn, .int .i64 xk, .int .i64 0] : Array Value).toList, u.oneCell' = true from rcol_one ⟨xn, xk, false⟩)
        rw [e0] at HOW HBW
        clear e0
        go_wp2_with (at_builtin; refine wpList_pushF rfl _ _ _ rfl w.heap.size 120 i0 _ 3 32 Tryd.underlying36 hi0 hz0 hz1 hz2 rfl (by omega) (by omega) u3 k _ #[.string xn, .int .i64 xk, .int .i64 0] rfl rfl HOW.out (by simp [Act.eval]) O1.out (by omega) HBW.out.size ?_; intro v5 w5 hown5 hg5 hat5)
        exact ⟨⟨k + 1, by omega, by go_num, by rw [S1.out, E0.out]; exact hown5, below_grown HBW.out hg5 (fun g hg => (hO.lt g hg).1) HBW.out.size⟩, by simp [intOf]; omega⟩
      · have e0 : nullI true = 1 := rfl
        have E0 := Lib.hid (show rcolV ⟨xn, xk, true⟩ = (#[.string xn, .int .i64 xk, .int .i64 1] : Array Value).toList from rfl)
        have O1 := Lib.hid (show ∀ u ∈ (#[.string xn, .int .i64 xk, .int .i64 1] : Array Value).toList, u.oneCell' = true from rcol_one ⟨xn, xk, true⟩)
        rw [e0] at HOW HBW
        clear e0
        go_wp2_with (at_builtin; refine wpList_pushF rfl _ _ _ rfl w.heap.size 120 i0 _ 3 32 Tryd.underlying36 hi0 hz0 hz1 hz2 rfl (by omega) (by omega) u3 k _ #[.string xn, .int .i64 xk, .int .i64 1] rfl rfl HOW.out (by simp [Act.eval]) O1.out (by omega) HBW.out.size ?_; intro v5 w5 hown5 hg5 hat5)
        exact ⟨⟨k + 1, by omega, by go_num, by rw [S1.out, E0.out]; exact hown5, below_grown HBW.out hg5 (fun g hg => (hO.lt g hg).1) HBW.out.size⟩, by simp [intOf]; omega⟩
    · obtain rfl : k = l.length := by omega
      rw [List.take_length] at hO
      clear hlt
      go_wp2
      exact HR.out _ _ ⟨_, rfl, hO, hB⟩
end Go.Proofs.YtgiemhooeoakmaaDoor

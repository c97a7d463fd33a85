/- Layer 23, the law: why it may not be. -/
import Derived.Test.YtgiemhooeoakmaaDoorKL
import Derived.Test.YtgiemhooeoakmaaDoorKJ
namespace Go.Proofs.YtgiemhooeoakmaaDoor
open Go.RowKit Go.ChangeShapes Go.WideShapes
set_option linter.unusedVariables false
set_option linter.unusedSimpArgs false

set_option maxHeartbeats 8000000 in
set_option maxRecDepth 100000 in
theorem wrong_any (v1 u1 v2 u2 z : Value) (kind : Int) (la lb : List Col) (ta tb : VTab) (on : List OnP) (W : World) (h1 : RdC W W.heap.size v1 la) (h2 : RdVT W W.heap.size u1 ta) (h3 : RdC W W.heap.size v2 lb) (h4 : RdVT W W.heap.size u2 tb) (hu : RdOn W W.heap.size z on)
    (hla : la.length ≤ 12) (hlb : lb.length ≤ 12) (hk : on.length ≤ 12) (hta : ta.length ≤ 100000) (htb : tb.length ≤ 100000) (hca : ∀ c ∈ la, c.name.size ≤ 100000) (hcb : ∀ c ∈ lb, c.name.size ≤ 100000) :
    Calls Tryd.prog 27 #[.agg #[v1, u1, v2, u2, z, .int .i64 kind]] W fun e w' => e = .returned (.int .i64 (joinE la lb ta tb on kind)) ∧ Below W.heap.size W w' := by
  refine cps fun R HR => ?_
  have g1 := h1; have g2 := h2; have g3 := h3; have g4 := h4; have hu0 := hu
  obtain ⟨A1, c1, rfl, -⟩ := h1.is
  obtain ⟨A2, c2, vs, rfl, -, -⟩ := h2.is
  obtain ⟨A3, c3, rfl, -⟩ := h3.is
  obtain ⟨A4, c4, vs', rfl, -, -⟩ := h4.is
  obtain ⟨A5, c5, rfl, -⟩ := hu.is
  clear h1 h2 h3 h4 hu
  obtain ⟨w0, hw0⟩ : ∃ w0, w0 = W.alloc (.cells #[.slice A1 la.length c1, .slice A2 ta.length c2, .slice A3 lb.length c3, .slice A4 tb.length c4, .slice A5 on.length c5, .int .i64 kind] 52) := ⟨_, rfl⟩
  have bw0 : Below W.heap.size W w0 := by rw [hw0]; exact (Below.refl _ _).alloc (Nat.le_refl _) _
  have X := Box.new W 52 #[.slice A1 la.length c1, .slice A2 ta.length c2, .slice A3 lb.length c3, .slice A4 tb.length c4, .slice A5 on.length c5, .int .i64 kind]
  rw [← hw0] at X
  obtain ⟨g, hg⟩ : ∃ g, g = W.heap.size := ⟨_, rfl⟩
  rw [← hg] at X
  have cells : ∀ w' : World, Below w0.heap.size w0 w' → w'.cell? ⟨g, 0, none⟩ = some (.slice A1 la.length c1) ∧ w'.cell? ⟨g, 1, none⟩ = some (.slice A2 ta.length c2) ∧ w'.cell? ⟨g, 2, none⟩ = some (.slice A3 lb.length c3) ∧ w'.cell? ⟨g, 3, none⟩ = some (.slice A4 tb.length c4) ∧ w'.cell? ⟨g, 4, none⟩ = some (.slice A5 on.length c5) ∧ w'.cell? ⟨g, 5, none⟩ = some (.int .i64 kind) := fun w' hb => by
    have X2 := X.below hb X.lt
    exact ⟨X2.cell 0, X2.cell 1, X2.cell 2, X2.cell 3, X2.cell 4, X2.cell 5⟩
  obtain ⟨x0, x1, x2, x3, x4, x5⟩ := cells w0 (Below.refl _ _)
  have CELLS := Lib.hid cells; have HW0 := Lib.hid hw0; have HB0 := Lib.hid bw0; have HG := Lib.hid hg
  have HCA := Lib.hid hca; have HCB := Lib.hid hcb
  obtain ⟨Y, hY⟩ : ∃ Y, Y = jchk la lb on kind := ⟨_, rfl⟩
  obtain ⟨E, hE⟩ : ∃ E, E = joinE la lb ta tb on kind := ⟨_, rfl⟩
  rw [← hE] at HR
  have HY := Lib.hid hY; have HE := Lib.hid hE
  clear X hw0 bw0 cells hca hcb hY hE
  go_enter Tryd.func27, Tryd.ntmps27
  go_wp2
  rw [← HW0.out, ← hg]
  clear hg
  have mk : ∀ w', Below w0.heap.size w0 w' → w'.cell? ⟨g, 0, none⟩ = some (.slice A1 la.length c1) ∧ w'.cell? ⟨g, 1, none⟩ = some (.slice A2 ta.length c2) ∧ w'.cell? ⟨g, 2, none⟩ = some (.slice A3 lb.length c3) ∧ w'.cell? ⟨g, 3, none⟩ = some (.slice A4 tb.length c4) ∧ w'.cell? ⟨g, 4, none⟩ = some (.slice A5 on.length c5) ∧ w'.cell? ⟨g, 5, none⟩ = some (.int .i64 kind) ∧ Below w0.heap.size w0 w' := fun w' hb => by
    obtain ⟨y0, y1, y2, y3, y4, y5⟩ := CELLS.out w' ((Below.refl w0.heap.size w0).trans (hb.mono (Below.refl w0.heap.size w0).size))
    exact ⟨y0, y1, y2, y3, y4, y5, hb⟩
  have MK := Lib.hid mk
  clear mk x0 x1 x2 x3 x4 x5
  go_wp2
  go_region_held3 (fun w' => w'.cell? ⟨g, 0, none⟩ = some (.slice A1 la.length c1) ∧ w'.cell? ⟨g, 1, none⟩ = some (.slice A2 ta.length c2) ∧ w'.cell? ⟨g, 2, none⟩ = some (.slice A3 lb.length c3) ∧ w'.cell? ⟨g, 3, none⟩ = some (.slice A4 tb.length c4) ∧ w'.cell? ⟨g, 4, none⟩ = some (.slice A5 on.length c5) ∧ w'.cell? ⟨g, 5, none⟩ = some (.int .i64 kind) ∧ Below w0.heap.size w0 w') (first | (exact MK.out _ (Below.drew (Below.refl _ _))) | (go_split_ands; exact MK.out _ (by assumption)) | (go_split_ands; exact MK.out _ (keepB (by assumption) (by assumption))) | (go_split_ands; exact MK.out _ (Below.alloc (by assumption) (Below.size (by assumption)) _)) | go_keep) (first | (have second10 := firstMark10; go_at_call 21; go_split_ands; refine (refCols_any _ lb _ (RdF.next g3 (HB0.out.trans (Below.mono (by assumption) HB0.out.size))) (by omega)).mono ?_; rintro e w11 ⟨q11, rfl, hq11, b11⟩) | (go_at_call 21; go_split_ands; refine (refCols_any _ la _ (RdF.next g1 (HB0.out.trans (Below.mono (by assumption) HB0.out.size))) (by omega)).mono ?_; rintro e w10 ⟨q10, rfl, hq10, b10⟩; have firstMark10 : True := trivial) | (go_at_call 37; go_split_ands; refine (lawOn_any _ on _ (RdF.next hu0 (HB0.out.trans (Below.mono (by assumption) HB0.out.size))) (by omega)).mono ?_; rintro e w12 ⟨q12, rfl, hq12, b12⟩) | (go_at_call 36; go_split_ands; refine (rjcheck_any _ _ _ la lb on kind _ (RdF.next (RdF.next (RdF.of_own rcolV_len (by omega) hq10) b11) b12) (RdF.next (RdF.of_own rcolV_len (by omega) hq11) b12) (RdF.of_own onV_len (by omega) hq12) (by omega) (by omega) (by omega) HCA.out HCB.out).mono ?_; rintro e w13 ⟨rfl, b13⟩; have cb13 := keepB b13 (by assumption)))
  rw [← HY.out]
  have bw2 := HB0.out.trans (cb13.mono HB0.out.size)
  obtain ⟨x0, x1, x2, x3, x4, x5⟩ := CELLS.out w13 cb13
  obtain ⟨Y1, Y2⟩ := Y
  by_cases hz : Y2 = 0
  · subst hz
    have he : E = if (fitsB la.length ta && fitsB lb.length tb) = true then 0 else 10 := by rw [HE.out]; unfold joinE; rw [← HY.out, if_neg (by simp)]
    have HEE := Lib.hid he
    have hXb := Box.new w13 25 #[.slice A1 la.length c1, .slice A2 ta.length c2, .slice A3 lb.length c3, .slice A4 tb.length c4]
    obtain ⟨w14, hw14⟩ : ∃ w14, w14 = w13.alloc (.cells #[.slice A1 la.length c1, .slice A2 ta.length c2, .slice A3 lb.length c3, .slice A4 tb.length c4] 25) := ⟨_, rfl⟩
    have b14 : Below w13.heap.size w13 w14 := by rw [hw14]; exact (Below.refl _ _).alloc (Nat.le_refl _) _
    rw [← hw14] at hXb
    obtain ⟨gb, hgb⟩ : ∃ gb, gb = w13.heap.size := ⟨_, rfl⟩
    rw [← hgb] at hXb
    have bw14 := bw2.trans (b14.mono bw2.size)
    have HXB := Lib.hid hXb; have HW14 := Lib.hid hw14
    clear hXb hw14 he
    go_wp2
    rw [← HW14.out, ← hgb]
    clear hgb
    go_loopw [35] (fun i wr => ∃ k : Nat, k ≤ 2 ∧ i = .int .i64 k ∧ ((1 ≤ k → ∀ r ∈ ta, r.length = la.length) ∧ (2 ≤ k → ∀ r ∈ tb, r.length = lb.length)) ∧ Below w14.heap.size w14 wr) (fun i _ => 2 - (intOf i).toNat)
    case atStart => exact ⟨0, Nat.zero_le _, rfl, ⟨fun h => by omega, fun h => by omega⟩, Below.refl _ _⟩
    case round =>
      obtain ⟨k, hk2, rfl, hF, bwr⟩ := hrel
      obtain ⟨w15, rfl⟩ : ∃ w15 : World, w15 = wr := ⟨_, rfl⟩
      have bW := bw14.trans (bwr.mono bw14.size)
      have BX := HXB.out.below bwr HXB.out.lt
      have HF := Lib.hid hF
      clear hF
      match k, hk2 with
      | 0, _ =>
        have y0 := BX.cell 0
        have y1 := BX.cell 1
        simp at y0 y1
        obtain ⟨wb, hwb⟩ : ∃ wb, wb = w15.alloc (.cells #[.slice A1 la.length c1, .slice A2 ta.length c2] 25) := ⟨_, rfl⟩
        have bwb : Below w15.heap.size w15 wb := by rw [hwb]; exact (Below.refl _ _).alloc (Nat.le_refl _) _
        have Z := Box.new w15 25 #[.slice A1 la.length c1, .slice A2 ta.length c2]
        rw [← hwb] at Z
        have bwz := bwr.trans (bwb.mono bwr.size)
        have bWz := bW.trans (bwb.mono bW.size)
        have z0 := Z.cell 0
        have z1 := Z.cell 1
        simp at z0 z1
        have HZ := Lib.hid Z; have HWB := Lib.hid hwb
        have dk2 : decide (((0 : Nat) : Int) < 2) = true := by decide
        clear Z hwb
        go_wp2
        rw [← HWB.out]
        go_loopw [42] (fun i wq => ∃ m : Nat, m ≤ ta.length ∧ i = .int .i64 m ∧ (∀ r ∈ ta.take m, r.length = la.length) ∧ Below wb.heap.size wb wq) (fun i _ => ta.length - (intOf i).toNat)
        case atStart => exact ⟨0, Nat.zero_le _, rfl, (fun r hr => by simp at hr), Below.refl _ _⟩
        case round =>
          obtain ⟨m, hm, rfl, hN, hBq⟩ := hrel
          have HN := Lib.hid hN
          clear hN
          have bWq := bWz.trans (hBq.mono bWz.size)
          have bq := bwz.trans (hBq.mono bwz.size)
          have Zq := HZ.out.below hBq HZ.out.lt
          have z0 := Zq.cell 0
          simp at z0
          by_cases hlt : m < ta.length
          · obtain ⟨p, c9, vr, hv, hcrw, hrdw⟩ := g2.at hlt
            have hcr := (bWq.cell (World.block_lt_of_cell? W _ hcrw)).trans hcrw
            injection hv with hAA hln hcc
            subst hAA
            subst hcc
            clear hln hcrw
            have hs1 : ta.take (m + 1) = ta.take m ++ [ta[m]] := List.take_succ_eq_append_getElem hlt
            have hmem := List.getElem_mem hlt
            obtain ⟨r, hr⟩ : ∃ r, r = ta[m] := ⟨_, rfl⟩
            rw [← hr] at hrdw hs1 hmem
            clear hr
            have S1 := Lib.hid hs1; have HM := Lib.hid hmem
            have dk : decide ((m : Int) < ta.length) = true := decide_eq_true (by omega)
            obtain ⟨rA, rc, rfl, -⟩ := hrdw.is
            clear hrdw hs1 hmem
            by_cases hrl : r.length = la.length
            · have dn : ((r.length : Int) != (la.length : Int)) = false := by rw [hrl]; simp
              have hn : ∀ y ∈ ta.take (m + 1), y.length = la.length := by
                rw [S1.out]
                intro y hy
                rcases List.mem_append.1 hy with hy | hy
                · exact HN.out y hy
                · rw [List.mem_singleton.1 hy]; exact hrl
              have HNN := Lib.hid hn
              clear hn hrl
              go_wp2
              exact ⟨⟨m + 1, by omega, by go_num, HNN.out, hBq⟩, by simp [intOf]; omega⟩
            · have dn : ((r.length : Int) != (la.length : Int)) = true := by rw [bne_iff_ne]; omega
              have hno : fitsB la.length ta = false := by
                rw [← Bool.not_eq_true, fitsB_iff]
                exact fun h => hrl (h r HM.out)
              have he : E = 10 := by rw [HEE.out, hno]; simp
              clear hrl hno
              subst he
              go_wp2
              exact HR.out _ _ ⟨rfl, bWq⟩
          · have hall : ∀ r ∈ ta, r.length = la.length := by
              have := HN.out
              rw [List.take_of_length_le (by omega)] at this
              exact this
            have HALL := Lib.hid hall
            clear hall
            go_wp2
            exact ⟨⟨1, by omega, by rfl, ⟨fun _ => HALL.out, fun h => by omega⟩, bq⟩, by simp [intOf]⟩
      | 1, _ =>
        have y2 := BX.cell 2
        have y3 := BX.cell 3
        simp at y2 y3
        obtain ⟨wb, hwb⟩ : ∃ wb, wb = w15.alloc (.cells #[.slice A3 lb.length c3, .slice A4 tb.length c4] 25) := ⟨_, rfl⟩
        have bwb : Below w15.heap.size w15 wb := by rw [hwb]; exact (Below.refl _ _).alloc (Nat.le_refl _) _
        have Z := Box.new w15 25 #[.slice A3 lb.length c3, .slice A4 tb.length c4]
        rw [← hwb] at Z
        have bwz := bwr.trans (bwb.mono bwr.size)
        have bWz := bW.trans (bwb.mono bW.size)
        have z0 := Z.cell 0
        have z1 := Z.cell 1
        simp at z0 z1
        have HZ := Lib.hid Z; have HWB := Lib.hid hwb
        have dk2 : decide (((1 : Nat) : Int) < 2) = true := by decide
        clear Z hwb
        go_wp2
        rw [← HWB.out]
        go_loopw [42] (fun i wq => ∃ m : Nat, m ≤ tb.length ∧ i = .int .i64 m ∧ (∀ r ∈ tb.take m, r.length = lb.length) ∧ Below wb.heap.size wb wq) (fun i _ => tb.length - (intOf i).toNat)
        case atStart => exact ⟨0, Nat.zero_le _, rfl, (fun r hr => by simp at hr), Below.refl _ _⟩
        case round =>
          obtain ⟨m, hm, rfl, hN, hBq⟩ := hrel
          have HN := Lib.hid hN
          clear hN
          have bWq := bWz.trans (hBq.mono bWz.size)
          have bq := bwz.trans (hBq.mono bwz.size)
          have Zq := HZ.out.below hBq HZ.out.lt
          have z0 := Zq.cell 0
          simp at z0
          by_cases hlt : m < tb.length
          · obtain ⟨p, c9, vr, hv, hcrw, hrdw⟩ := g4.at hlt
            have hcr := (bWq.cell (World.block_lt_of_cell? W _ hcrw)).trans hcrw
            injection hv with hAA hln hcc
            subst hAA
            subst hcc
            clear hln hcrw
            have hs1 : tb.take (m + 1) = tb.take m ++ [tb[m]] := List.take_succ_eq_append_getElem hlt
            have hmem := List.getElem_mem hlt
            obtain ⟨r, hr⟩ : ∃ r, r = tb[m] := ⟨_, rfl⟩
            rw [← hr] at hrdw hs1 hmem
            clear hr
            have S1 := Lib.hid hs1; have HM := Lib.hid hmem
            have dk : decide ((m : Int) < tb.length) = true := decide_eq_true (by omega)
            obtain ⟨rA, rc, rfl, -⟩ := hrdw.is
            clear hrdw hs1 hmem
            by_cases hrl : r.length = lb.length
            · have dn : ((r.length : Int) != (lb.length : Int)) = false := by rw [hrl]; simp
              have hn : ∀ y ∈ tb.take (m + 1), y.length = lb.length := by
                rw [S1.out]
                intro y hy
                rcases List.mem_append.1 hy with hy | hy
                · exact HN.out y hy
                · rw [List.mem_singleton.1 hy]; exact hrl
              have HNN := Lib.hid hn
              clear hn hrl
              go_wp2
              exact ⟨⟨m + 1, by omega, by go_num, HNN.out, hBq⟩, by simp [intOf]; omega⟩
            · have dn : ((r.length : Int) != (lb.length : Int)) = true := by rw [bne_iff_ne]; omega
              have hno : fitsB lb.length tb = false := by
                rw [← Bool.not_eq_true, fitsB_iff]
                exact fun h => hrl (h r HM.out)
              have he : E = 10 := by rw [HEE.out, hno]; simp
              clear hrl hno
              subst he
              go_wp2
              exact HR.out _ _ ⟨rfl, bWq⟩
          · have hall : ∀ r ∈ tb, r.length = lb.length := by
              have := HN.out
              rw [List.take_of_length_le (by omega)] at this
              exact this
            have HALL := Lib.hid hall
            clear hall
            go_wp2
            exact ⟨⟨2, by omega, by rfl, ⟨fun _ => HF.out.1 (by omega), fun _ => HALL.out⟩, bq⟩, by simp [intOf]⟩
      | 2, _ =>
        have he : E = 0 := by rw [HEE.out, if_pos (by rw [Bool.and_eq_true, fitsB_iff, fitsB_iff]; exact ⟨HF.out.1 (by omega), HF.out.2 (by omega)⟩)]
        subst he
        have dk2 : decide (((2 : Nat) : Int) < 2) = false := by decide
        go_wp2
        exact HR.out _ _ ⟨rfl, bW⟩
  · have he : E = Y2 := by rw [HE.out]; unfold joinE; rw [← HY.out, if_pos hz]
    have dne : ((Y2 : Int) != 0) = true := by rw [bne_iff_ne]; omega
    subst he
    go_wp2
    exact HR.out _ _ ⟨rfl, bw2⟩
end Go.Proofs.YtgiemhooeoakmaaDoor


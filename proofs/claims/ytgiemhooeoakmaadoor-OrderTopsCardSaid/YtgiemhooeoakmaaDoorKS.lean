/- Layer 22, the reference: the order of values, of rows. Layer 22, the law: why rows can't be in order; all as the reference has it. Layer 22: order.Compare; the reference's Compare. Layer 22, plain: the order of rows turned round. -/
import Derived.Test.YtgiemhooeoakmaaDoorKQ
import Derived.Test.YtgiemhooeoakmaaDoorKR
import Derived.Test.YtgiemhooeoakmaaDoorKE
import Derived.Test.YtgiemhooeoakmaaDoorKH
namespace Go.Proofs.YtgiemhooeoakmaaDoor
open Go.RowKit Go.ChangeShapes Go.WideShapes Go.Op
set_option linter.unusedVariables false
set_option linter.unusedSimpArgs false

theorem less_any (b : Bool) (n : Int) (w : World) (hn : n = if b = true then -1 else 1) : Calls Tryd.prog 122 #[.bool b] w fun e w' => e = .returned (.int .i64 n) ∧ w' = w := by
  refine cps fun R HR => ?_
  go_enter Tryd.func122, Tryd.ntmps122
  cases b
  · have hn1 : n = 1 := by rw [hn]; rfl
    subst hn1
    clear hn
    go_wp2
    exact HR.out _ _ ⟨rfl, rfl⟩
  · have hn1 : n = -1 := by rw [hn]; rfl
    subst hn1
    clear hn
    go_wp2
    exact HR.out _ _ ⟨rfl, rfl⟩
theorem bytesLess_cmp : ∀ a b : List UInt8, bytesLess a b = decide (Lib.compareBytes a b < 0)
  | [], [] => by simp [bytesLess, Lib.compareBytes]
  | [], _ :: _ => by simp [bytesLess, Lib.compareBytes]
  | _ :: _, [] => by simp [bytesLess, Lib.compareBytes]
  | a :: x, b :: y => by
    rw [bytesLess, Lib.compareBytes]
    by_cases h1 : a < b
    · simp [h1]
    · by_cases h2 : b < a
      · have hne : ¬ a = b := fun e => by subst e; exact h1 h2
        simp [h1, h2, hne]
      · have he : a = b := UInt8.le_antisymm (UInt8.not_lt.1 h2) (UInt8.not_lt.1 h1)
        subst he
        simp [h1, bytesLess_cmp x y]
theorem str_lt (a b : ByteArray) : bytesLess a.toList b.toList = decide (cmpS a b < 0) := by
  rw [bytesLess_cmp]
  unfold cmpS
  rw [ByteArray.toList_eq, ByteArray.toList_eq]
theorem orI_step (a : Int) (l : List Int) : orI (a :: l) = if a = 0 then orI l else a := by rfl
theorem cmpI_less {a b : Int} (h : a ≠ b) : cmpI a b = if decide (a < b) = true then -1 else 1 := by
  unfold cmpI
  by_cases h1 : a < b
  · simp [h1]
  · have h2 : b < a := by omega
    simp [h1, h2]
theorem cmpS_less {a b : ByteArray} (h : a ≠ b) : cmpS a b = if bytesLess a.toList b.toList = true then -1 else 1 := by
  rw [str_lt]
  have h0 : cmpS a b ≠ 0 := fun e => h (cmpS_zero.1 e)
  have h1 : cmpS a b = -1 ∨ cmpS a b = 0 ∨ cmpS a b = 1 := compareBytes_small a.data.toList b.data.toList
  rcases h1 with e | e | e
  · rw [e]; rfl
  · exact absurd e h0
  · rw [e]; rfl
theorem cmpB_less {a b : Bool} (h : a ≠ b) : cmpB a b = if decide (nullI a < nullI b) = true then -1 else 1 := by
  cases a <;> cases b <;> first | exact absurd rfl h | rfl
set_option maxHeartbeats 4000000 in
set_option maxRecDepth 100000 in
theorem rcmp_any (ak bk an bn ai bi Y : Int) (sa sb : ByteArray) (ab bb : Bool) (w : World) (hai : ai = nullI ab) (hbi : bi = nullI bb) (hY : Y = cmpV ⟨ak, sa, an, ab⟩ ⟨bk, sb, bn, bb⟩) :
    Calls Tryd.prog 93 #[.agg #[.int .i64 ak, .string sa, .int .i64 an, .int .i64 ai], .agg #[.int .i64 bk, .string sb, .int .i64 bn, .int .i64 bi]] w fun e w' => e = .returned (.int .i64 Y) ∧ Below w.heap.size w w' := by
  refine cps fun R HR => ?_
  have hYY : Y = orI [cmpI ak bk, cmpS sa sb, cmpI an bn, cmpB ab bb] := hY
  rw [orI_step, orI_step, orI_step, orI_step] at hYY
  have y1 : ak ≠ bk → Y = if decide (ak < bk) = true then -1 else 1 := fun h => by
    rw [hYY, if_neg (fun e => h (cmpI_zero.1 e)), cmpI_less h]
  have y2 : ak = bk → sa ≠ sb → Y = if bytesLess sa.toList sb.toList = true then -1 else 1 := fun h h2 => by
    rw [hYY, if_pos (cmpI_zero.2 h), if_neg (fun e => h2 (cmpS_zero.1 e)), cmpS_less h2]
  have y3 : ak = bk → sa = sb → an ≠ bn → Y = if decide (an < bn) = true then -1 else 1 := fun h h2 h3 => by
    rw [hYY, if_pos (cmpI_zero.2 h), if_pos (cmpS_zero.2 h2), if_neg (fun e => h3 (cmpI_zero.1 e)), cmpI_less h3]
  have y4 : ak = bk → sa = sb → an = bn → ab ≠ bb → Y = if decide (ai < bi) = true then -1 else 1 := fun h h2 h3 h4 => by
    rw [hYY, if_pos (cmpI_zero.2 h), if_pos (cmpS_zero.2 h2), if_pos (cmpI_zero.2 h3), if_neg (fun e => h4 (cmpB_zero.1 e)), cmpB_less h4, hai, hbi]
  have y5 : ak = bk → sa = sb → an = bn → ab = bb → Y = 0 := fun h h2 h3 h4 => by
    rw [hYY, if_pos (cmpI_zero.2 h), if_pos (cmpS_zero.2 h2), if_pos (cmpI_zero.2 h3), if_pos (cmpB_zero.2 h4)]
    rfl
  have e4 : ab ≠ bb → ai ≠ bi := fun h e => h (nullI_inj (by rw [← hai, ← hbi, e]))
  have e5 : ab = bb → ai = bi := fun h => by rw [hai, hbi, h]
  have bw : Below w.heap.size w ((w.alloc (.cells #[.int .i64 ak, .string sa, .int .i64 an, .int .i64 ai] 112)).alloc (.cells #[.int .i64 bk, .string sb, .int .i64 bn, .int .i64 bi] 112)) := ((Below.refl _ _).alloc (Nat.le_refl _) _).alloc (by simp) _
  have H1 := Lib.hid y1; have H2 := Lib.hid y2; have H3 := Lib.hid y3; have H4 := Lib.hid y4; have H5 := Lib.hid y5; have HB := Lib.hid bw
  clear hYY hY hai hbi y1 y2 y3 y4 y5 bw
  go_enter Tryd.func93, Tryd.ntmps93
  by_cases c1 : ak = bk
  · have d1 : (ak != bk) = false := by rw [bne_eq_false_iff_eq]; exact c1
    by_cases c2 : sa = sb
    · have d2 : (sa.toList == sb.toList) = true := by rw [str_eq]; exact decide_eq_true c2
      by_cases c3 : an = bn
      · have d3 : (an != bn) = false := by rw [bne_eq_false_iff_eq]; exact c3
        by_cases c4 : ab = bb
        · have d4 : (ai != bi) = false := by rw [bne_eq_false_iff_eq]; exact e5 c4
          have hy := H5.out c1 c2 c3 c4
          have hab := e5 c4
          subst hy c1 c2 c3 hab
          go_wp2
          exact HR.out _ _ ⟨rfl, HB.out⟩
        · have d4 : (ai != bi) = true := by rw [bne_iff_ne]; exact e4 c4
          have hy := H4.out c1 c2 c3 c4
          subst c1 c2 c3
          clear c4
          go_wp2_with fail
          refine (less_any _ Y _ hy).mono ?_
          rintro e w1 ⟨rfl, rfl⟩
          clear hy
          go_wp2
          exact HR.out _ _ ⟨rfl, HB.out⟩
      · have d3 : (an != bn) = true := by rw [bne_iff_ne]; exact c3
        have hy := H3.out c1 c2 c3
        subst c1 c2
        clear c3
        go_wp2_with fail
        refine (less_any _ Y _ hy).mono ?_
        rintro e w1 ⟨rfl, rfl⟩
        clear hy
        go_wp2
        exact HR.out _ _ ⟨rfl, HB.out⟩
    · have d2 : (sa.toList == sb.toList) = false := by rw [str_eq]; exact decide_eq_false c2
      have hy := H2.out c1 c2
      subst c1
      clear c2
      go_wp2_with fail
      refine (less_any _ Y _ hy).mono ?_
      rintro e w1 ⟨rfl, rfl⟩
      clear hy
      go_wp2
      exact HR.out _ _ ⟨rfl, HB.out⟩
  · have d1 : (ak != bk) = true := by rw [bne_iff_ne]; exact c1
    have hy := H1.out c1
    clear c1
    go_wp2_with fail
    refine (less_any _ Y _ hy).mono ?_
    rintro e w1 ⟨rfl, rfl⟩
    clear hy
    go_wp2
    exact HR.out _ _ ⟨rfl, HB.out⟩
end Go.Proofs.YtgiemhooeoakmaaDoor

namespace Go.Proofs.YtgiemhooeoakmaaDoor
open Go.RowKit Go.ChangeShapes Go.WideShapes
set_option linter.unusedVariables false
set_option linter.unusedSimpArgs false

set_option maxHeartbeats 8000000 in
set_option maxRecDepth 100000 in
theorem bad22_any (vk vl vr : Value) (ks : List KeyP) (l : List Col) (t : VTab) (W : World) (h1 : RdKey W W.heap.size vk ks) (h2 : RdC W W.heap.size vl l) (h3 : RdVT W W.heap.size vr t) (hk : ks.length ≤ 12) (hla : l.length ≤ 12) (hca : ∀ c ∈ l, c.name.size ≤ 100000) :
    Calls Tryd.prog 47 #[.agg #[vk, vl, vr]] W fun e w' => e = .returned (.int .i64 (byE l ks t)) ∧ Below W.heap.size W w' := by
  refine cps fun R HR => ?_
  have g1 := h1; have g2 := h2; have g3 := h3
  obtain ⟨A1, c1, rfl, -⟩ := h1.is
  obtain ⟨A2, c2, rfl, -⟩ := h2.is
  obtain ⟨A3, c3, vs, rfl, -, -⟩ := h3.is
  clear h1 h2 h3
  obtain ⟨w0, hw0⟩ : ∃ w0, w0 = W.alloc (.cells #[.slice A1 ks.length c1, .slice A2 l.length c2, .slice A3 t.length c3] 75) := ⟨_, rfl⟩
  have bw0 : Below W.heap.size W w0 := by rw [hw0]; exact (Below.refl _ _).alloc (Nat.le_refl _) _
  have X := Box.new W 75 #[.slice A1 ks.length c1, .slice A2 l.length c2, .slice A3 t.length c3]
  rw [← hw0] at X
  obtain ⟨g, hg⟩ : ∃ g, g = W.heap.size := ⟨_, rfl⟩
  rw [← hg] at X
  have cells : ∀ w' : World, Below w0.heap.size w0 w' → w'.cell? ⟨g, 0, none⟩ = some (.slice A1 ks.length c1) ∧ w'.cell? ⟨g, 1, none⟩ = some (.slice A2 l.length c2) ∧ w'.cell? ⟨g, 2, none⟩ = some (.slice A3 t.length c3) := fun w' hb => by
    have X2 := X.below hb X.lt
    exact ⟨X2.cell 0, X2.cell 1, X2.cell 2⟩
  obtain ⟨x0, x1, x2⟩ := cells w0 (Below.refl _ _)
  have HX := Lib.hid X
  have CELLS := Lib.hid cells; have HW0 := Lib.hid hw0; have HB0 := Lib.hid bw0; have HG := Lib.hid hg
  have HCA := Lib.hid hca
  have hfew := g3.few
  obtain ⟨Y, hY⟩ : ∃ Y, Y = kchk l ks := ⟨_, rfl⟩
  obtain ⟨E, hE⟩ : ∃ E, E = byE l ks t := ⟨_, rfl⟩
  rw [← hE] at HR
  unfold byE at hE
  rw [← hY] at hE
  have HY := Lib.hid hY; have HE := Lib.hid hE
  clear X hw0 bw0 cells hca hY hE
  go_enter Tryd.func47, Tryd.ntmps47
  go_wp2
  rw [← HW0.out, ← hg]
  clear hg
  have mk : ∀ w', Below w0.heap.size w0 w' → w'.cell? ⟨g, 0, none⟩ = some (.slice A1 ks.length c1) ∧ w'.cell? ⟨g, 1, none⟩ = some (.slice A2 l.length c2) ∧ w'.cell? ⟨g, 2, none⟩ = some (.slice A3 t.length c3) ∧ Below w0.heap.size w0 w' := fun w' hb => by
    obtain ⟨y0, y1, y2⟩ := CELLS.out w' ((Below.refl w0.heap.size w0).trans (hb.mono (Below.refl w0.heap.size w0).size))
    exact ⟨y0, y1, y2, hb⟩
  have MK := Lib.hid mk
  clear mk x0 x1 x2
  go_wp2
  go_region_held3 (fun w' => w'.cell? ⟨g, 0, none⟩ = some (.slice A1 ks.length c1) ∧ w'.cell? ⟨g, 1, none⟩ = some (.slice A2 l.length c2) ∧ w'.cell? ⟨g, 2, none⟩ = some (.slice A3 t.length c3) ∧ Below w0.heap.size w0 w') (first | (exact MK.out _ (Below.drew (Below.refl _ _))) | (go_split_ands; exact MK.out _ (by assumption)) | (go_split_ands; exact MK.out _ (keepB (by assumption) (by assumption))) | (go_split_ands; exact MK.out _ (Below.alloc (by assumption) (Below.size (by assumption)) _)) | go_keep) (first | (go_at_call 45; go_split_ands; refine (lawKeys_any _ ks _ (RdF.next g1 (HB0.out.trans (Below.mono (by assumption) HB0.out.size))) (by omega)).mono ?_; rintro e w10 ⟨q10, rfl, hq10, b10⟩) | (go_at_call 21; go_split_ands; refine (refCols_any _ l _ (RdF.next g2 (HB0.out.trans (Below.mono (by assumption) HB0.out.size))) (by omega)).mono ?_; rintro e w11 ⟨q11, rfl, hq11, b11⟩) | (go_at_call 44; go_split_ands; refine (rocheck_any _ _ ks l _ (RdF.next (RdF.of_own rkeyV_len (by omega) hq10) b11) (RdF.of_own rcolV_len (by omega) hq11) (by omega) (by omega) HCA.out).mono ?_; rintro e w12 ⟨rfl, b12⟩; have cb12 := keepB b12 (by assumption)))
  rw [← HY.out]
  have bw2 := HB0.out.trans (cb12.mono HB0.out.size)
  obtain ⟨x0, x1, x2⟩ := CELLS.out w12 cb12
  obtain ⟨Y1, Y2⟩ := Y
  by_cases hz : Y2 = 0
  · subst hz
    have he := HE.out
    rw [if_neg (by simp)] at he
    have HE2 := Lib.hid he
    clear he
    obtain ⟨w13, rfl⟩ : ∃ w13 : World, w13 = w12 := ⟨_, rfl⟩
    go_wp2
    go_loopw [23] (fun i wr => ∃ m : Nat, m ≤ t.length ∧ i = .int .i64 m ∧ (∀ r ∈ t.take m, r.length = l.length) ∧ wr = w13) (fun i _ => t.length - (intOf i).toNat)
    case atStart => exact ⟨0, Nat.zero_le _, rfl, (fun r hr => by simp at hr), rfl⟩
    case round =>
      obtain ⟨m, hm, rfl, hN, rfl⟩ := hrel
      have HN := Lib.hid hN
      clear hN
      by_cases hlt : m < t.length
      · obtain ⟨p, c9, vr, hv, hcrw, hrdw⟩ := g3.at hlt
        have hcr := (bw2.cell (World.block_lt_of_cell? W _ hcrw)).trans hcrw
        injection hv with hAA hln hcc
        subst hAA
        subst hcc
        clear hln hcrw
        have hs1 : t.take (m + 1) = t.take m ++ [t[m]] := List.take_succ_eq_append_getElem hlt
        have hmem := List.getElem_mem hlt
        obtain ⟨r, hr⟩ : ∃ r, r = t[m] := ⟨_, rfl⟩
        rw [← hr] at hrdw hs1 hmem
        clear hr
        have S1 := Lib.hid hs1; have HM := Lib.hid hmem
        have dk : decide ((m : Int) < t.length) = true := decide_eq_true (by omega)
        obtain ⟨rA, rc, rfl, -⟩ := hrdw.is
        clear hrdw hs1 hmem
        by_cases hrl : r.length = l.length
        · have dn : ((r.length : Int) != (l.length : Int)) = false := by rw [hrl]; simp
          have hn : ∀ y ∈ t.take (m + 1), y.length = l.length := by
            rw [S1.out]
            intro y hy
            rcases List.mem_append.1 hy with hy | hy
            · exact HN.out y hy
            · rw [List.mem_singleton.1 hy]; exact hrl
          have HNN := Lib.hid hn
          clear hn hrl
          go_wp2
          exact ⟨⟨m + 1, by omega, by go_num, HNN.out, trivial⟩, by simp [intOf]; omega⟩
        · have dn : ((r.length : Int) != (l.length : Int)) = true := by rw [bne_iff_ne]; omega
          have hno : ¬ fitsB l.length t = true := by
            rw [fitsB_iff]
            exact fun h => hrl (h r HM.out)
          have he : E = 10 := by rw [HE2.out, if_neg hno]
          clear hrl hno
          subst he
          go_wp2
          exact HR.out _ _ ⟨rfl, bw2⟩
      · have hall : ∀ r ∈ t, r.length = l.length := by
          have := HN.out
          rw [List.take_of_length_le (by omega)] at this
          exact this
        have he : E = 0 := by rw [HE2.out, if_pos (fitsB_iff.2 hall)]
        clear hall
        subst he
        go_wp2
        exact HR.out _ _ ⟨rfl, bw2⟩
  · have he : E = Y2 := by rw [HE.out, if_pos (by simpa using hz)]
    have dne : ((Y2 : Int) != 0) = true := by rw [bne_iff_ne]; omega
    subst he
    clear hz
    go_wp2
    exact HR.out _ _ ⟨rfl, bw2⟩
set_option maxHeartbeats 8000000 in
set_option maxRecDepth 100000 in
theorem refs22_any (vk vl vr : Value) (ks : List KeyP) (l : List Col) (t : VTab) (W : World) (h1 : RdKey W W.heap.size vk ks) (h2 : RdC W W.heap.size vl l) (h3 : RdVT W W.heap.size vr t) (hk : ks.length ≤ 12) (hla : l.length ≤ 12) (hta : t.length ≤ 12) (hra : ∀ r ∈ t, r.length ≤ 100000) :
    Calls Tryd.prog 48 #[.agg #[vk, vl, vr]] W fun e w' => (∃ a b c, e = .returned (.tuple #[a, b, c]) ∧ RdRKey w' w'.heap.size a ks ∧ RdRC w' w'.heap.size b l ∧ RdRVT w' w'.heap.size c t) ∧ Below W.heap.size W w' := by
  refine cps fun R HR => ?_
  have g1 := h1; have g2 := h2; have g3 := h3
  obtain ⟨A1, c1, rfl, -⟩ := h1.is
  obtain ⟨A2, c2, rfl, -⟩ := h2.is
  obtain ⟨A3, c3, vs, rfl, -, -⟩ := h3.is
  clear h1 h2 h3
  obtain ⟨w0, hw0⟩ : ∃ w0, w0 = W.alloc (.cells #[.slice A1 ks.length c1, .slice A2 l.length c2, .slice A3 t.length c3] 75) := ⟨_, rfl⟩
  have bw0 : Below W.heap.size W w0 := by rw [hw0]; exact (Below.refl _ _).alloc (Nat.le_refl _) _
  have X := Box.new W 75 #[.slice A1 ks.length c1, .slice A2 l.length c2, .slice A3 t.length c3]
  rw [← hw0] at X
  obtain ⟨g, hg⟩ : ∃ g, g = W.heap.size := ⟨_, rfl⟩
  rw [← hg] at X
  have cells : ∀ w' : World, Below w0.heap.size w0 w' → w'.cell? ⟨g, 0, none⟩ = some (.slice A1 ks.length c1) ∧ w'.cell? ⟨g, 1, none⟩ = some (.slice A2 l.length c2) ∧ w'.cell? ⟨g, 2, none⟩ = some (.slice A3 t.length c3) := fun w' hb => by
    have X2 := X.below hb X.lt
    exact ⟨X2.cell 0, X2.cell 1, X2.cell 2⟩
  obtain ⟨x0, x1, x2⟩ := cells w0 (Below.refl _ _)
  have HX := Lib.hid X
  have CELLS := Lib.hid cells; have HW0 := Lib.hid hw0; have HB0 := Lib.hid bw0; have HG := Lib.hid hg
  have HRA := Lib.hid hra
  clear X hw0 bw0 cells hra
  go_enter Tryd.func48, Tryd.ntmps48
  go_wp2
  rw [← HW0.out, ← hg]
  clear hg
  have mk : ∀ w', Below w0.heap.size w0 w' → w'.cell? ⟨g, 0, none⟩ = some (.slice A1 ks.length c1) ∧ w'.cell? ⟨g, 1, none⟩ = some (.slice A2 l.length c2) ∧ w'.cell? ⟨g, 2, none⟩ = some (.slice A3 t.length c3) ∧ Below w0.heap.size w0 w' := fun w' hb => by
    obtain ⟨y0, y1, y2⟩ := CELLS.out w' ((Below.refl w0.heap.size w0).trans (hb.mono (Below.refl w0.heap.size w0).size))
    exact ⟨y0, y1, y2, hb⟩
  have MK := Lib.hid mk
  clear mk x0 x1 x2
  go_wp2
  go_region_held3 (fun w' => w'.cell? ⟨g, 0, none⟩ = some (.slice A1 ks.length c1) ∧ w'.cell? ⟨g, 1, none⟩ = some (.slice A2 l.length c2) ∧ w'.cell? ⟨g, 2, none⟩ = some (.slice A3 t.length c3) ∧ Below w0.heap.size w0 w') (first | (exact MK.out _ (Below.drew (Below.refl _ _))) | (go_split_ands; exact MK.out _ (by assumption)) | (go_split_ands; exact MK.out _ (keepB (by assumption) (by assumption))) | (go_split_ands; exact MK.out _ (Below.alloc (by assumption) (Below.size (by assumption)) _)) | go_keep) (first | (go_at_call 45; go_split_ands; refine (lawKeys_any _ ks _ (RdF.next g1 (HB0.out.trans (Below.mono (by assumption) HB0.out.size))) (by omega)).mono ?_; rintro e w10 ⟨q10, rfl, hq10, b10⟩) | (go_at_call 21; go_split_ands; refine (refCols_any _ l _ (RdF.next g2 (HB0.out.trans (Below.mono (by assumption) HB0.out.size))) (by omega)).mono ?_; rintro e w11 ⟨q11, rfl, hq11, b11⟩) | (go_at_call 30; go_split_ands; refine (refRows_any _ t _ (RdE.next (RdF.stays valV 4) g3 (HB0.out.trans (Below.mono (by assumption) HB0.out.size))) (by omega) HRA.out).mono ?_; rintro e w12 ⟨q12, rfl, hq12, b12⟩; have cb12 := keepB b12 (by assumption)))
  have bw2 := HB0.out.trans (cb12.mono HB0.out.size)
  have r1 := RdF.next (RdF.next (RdF.of_own rkeyV_len (by omega) hq10) b11) b12
  have r2 := RdF.next (RdF.of_own rcolV_len (by omega) hq11) b12
  have r3 := TabY.rd rvalV_len (by omega) hq12
  have H1 := Lib.hid r1; have H2 := Lib.hid r2; have H3 := Lib.hid r3
  clear r1 r2 r3 hq10 hq11 hq12
  go_wp2
  refine bodyPost_ret (v := .tuple #[q10, q11, q12]) (by simp [results, Tryd.results48, go_sem]) rfl (HR.out _ _ ⟨⟨_, _, _, rfl, H1.out, H2.out, H3.out⟩, bw2⟩)
end Go.Proofs.YtgiemhooeoakmaaDoor

namespace Go.Proofs.YtgiemhooeoakmaaDoor
open Go.RowKit Go.ChangeShapes Go.WideShapes
set_option linter.unusedVariables false
set_option linter.unusedSimpArgs false

set_option maxHeartbeats 4000000 in
set_option maxRecDepth 100000 in
theorem ocompare_any (vk vl vx vy : Value) (ks : List KeyP) (l : List Col) (x y : VRow) (w : World) (hk : RdKey w w.heap.size vk ks) (hl : RdC w w.heap.size vl l) (hx : RdV w w.heap.size vx x) (hy : RdV w w.heap.size vy y) (hll : l.length ≤ 100000) (hca : ∀ c ∈ l, c.name.size ≤ 100000) (hT : Tab w) :
    Calls Tryd.prog 50 #[vk, vl, vx, vy] w fun e w' => e = .returned (.tuple #[.int .i64 (if byE l ks [x, y] = 0 then cmpK l ks x y else 0), .int .i64 (byE l ks [x, y])]) ∧ Below w.heap.size w w' := by
  refine cps fun R HR => ?_
  have hk0 := hk; have hl0 := hl; have hx0 := hx; have hy0 := hy
  obtain ⟨A1, c1, rfl, -⟩ := hk.is
  obtain ⟨A2, c2, rfl, -⟩ := hl.is
  obtain ⟨A3, c3, rfl, -⟩ := hx.is
  obtain ⟨A4, c4, rfl, -⟩ := hy.is
  clear hk hl hx hy
  obtain ⟨E, hE⟩ : ∃ E, E = byE l ks [x, y] := ⟨_, rfl⟩
  rw [← hE] at HR
  have HE := Lib.hid hE
  clear hE
  have bw0 := (Below.refl w.heap.size w).alloc (Nat.le_refl _) (.cells #[.slice A3 x.length c3, .slice A4 y.length c4] 61)
  have hrr := RdE.new2 (RdF.stays valV 4) w _ _ x y 61 hx0 hy0
  have HB0 := Lib.hid bw0; have HRR := Lib.hid hrr
  clear bw0 hrr
  go_enter Tryd.func50, Tryd.ntmps50
  go_wp2_with fail
  refine (by_any _ _ _ ks l [x, y] _ (RdF.next hk0 HB0.out) (RdF.next hl0 HB0.out) HRR.out hll hca (hT.below HB0.out)).mono ?_
  rintro e w1 ⟨⟨f, rfl, hf⟩, b1⟩
  rw [← HE.out] at hf
  rw [← HE.out]
  have bw1 := HB0.out.trans (b1.mono HB0.out.size)
  by_cases hz : E = 0
  · subst hz
    obtain ⟨gk, gl, rfl, hgk, hgl, -, -⟩ := hf rfl
    have hok := byE_ok HE.out.symm
    have hcall := by2_any gk gl _ _ _ _ ks l x y w1 hgk hgl (RdF.next hk0 bw1) (RdF.next hl0 bw1) (RdF.next hx0 bw1) (RdF.next hy0 bw1) (kchk_mem hok.1) (hok.2 x (by simp)) (hok.2 y (by simp))
    obtain ⟨N, hN⟩ : ∃ N, N = cmpK l ks x y := ⟨_, rfl⟩
    rw [← hN] at hcall
    have HN := Lib.hid hN; have HC := Lib.hid hcall
    clear hf hok hgk hgl hN hcall
    go_wp2_with fail
    refine HC.out.mono ?_
    rintro e w2 ⟨rfl, b2⟩
    have bw2 := bw1.trans (b2.mono bw1.size)
    go_wp2
    exact HR.out _ _ ⟨by rw [if_pos trivial, ← HN.out]; try rfl, bw2⟩
  · have dne : ((E : Int) != 0) = true := by rw [bne_iff_ne]; omega
    have HZ := Lib.hid hz
    clear hf hz
    go_wp2
    exact HR.out _ _ ⟨by rw [if_neg HZ.out]; try rfl, bw1⟩
set_option maxHeartbeats 8000000 in
set_option maxRecDepth 100000 in
theorem rcompare_any (vk vl vx vy : Value) (ks : List KeyP) (l : List Col) (x y : VRow) (w : World) (hk : RdRKey w w.heap.size vk ks) (hl : RdRC w w.heap.size vl l) (hx : RdRV w w.heap.size vx x) (hy : RdRV w w.heap.size vy y)
    (hll : l.length ≤ 100000) (hm : ∀ k ∈ ks, k.col ∈ namesC l) (hxl : x.length = l.length) (hyl : y.length = l.length) :
    Calls Tryd.prog 51 #[vk, vl, vx, vy] w fun e w' => e = .returned (.int .i64 (cmpK l ks x y)) ∧ Below w.heap.size w w' := by
  refine cps fun R HR => ?_
  have hk0 := hk; have hl0 := hl; have hx0 := hx; have hy0 := hy
  obtain ⟨A1, c1, rfl, -⟩ := hk.is
  obtain ⟨A2, c2, rfl, -⟩ := hl.is
  obtain ⟨A3, c3, rfl, -⟩ := hx.is
  obtain ⟨A4, c4, rfl, -⟩ := hy.is
  clear hk hl hx hy
  have hfk := RdF.few hk0
  obtain ⟨Y, hY⟩ : ∃ Y, Y = cmpK l ks x y := ⟨_, rfl⟩
  rw [← hY] at HR
  have HY := Lib.hid hY; have HM := Lib.hid hm; have HXL := Lib.hid hxl; have HYL := Lib.hid hyl
  clear hY hm hxl hyl
  go_enter Tryd.func51, Tryd.ntmps51
  go_wp2
  go_loopw [15] (fun i wr => ∃ k : Nat, k ≤ ks.length ∧ i = .int .i64 k ∧ cmpK l (ks.drop k) x y = Y ∧ Below w.heap.size w wr) (fun i _ => ks.length - (intOf i).toNat)
  case atStart => exact ⟨0, Nat.zero_le _, rfl, HY.out.symm, Below.refl _ _⟩
  case round =>
    obtain ⟨k, hk, rfl, hN, hB⟩ := hrel
    have HN := Lib.hid hN
    clear hN
    by_cases hlt : k < ks.length
    · obtain ⟨p, c6, hv, q0, q1⟩ := RdRKey.at (RdF.next hk0 hB) hlt
      injection hv with hA hln hcc
      subst hA
      subst hcc
      clear hln
      have hs2 : ks.drop k = ks[k] :: ks.drop (k + 1) := List.drop_eq_getElem_cons hlt
      have hmem := HM.out _ (List.getElem_mem hlt)
      obtain ⟨o, hoe⟩ : ∃ o, o = ks[k] := ⟨_, rfl⟩
      rw [← hoe] at q0 q1 hs2 hmem
      obtain ⟨xc, xd⟩ := o
      dsimp only at q0 q1 hmem
      obtain ⟨kd, hkd⟩ : ∃ n, n = nullI xd := ⟨_, rfl⟩
      rw [← hkd] at q1
      obtain ⟨N, hN⟩ : ∃ N, N = key1 l ⟨xc, xd⟩ x y := ⟨_, rfl⟩
      have hn0 : N = 0 → cmpK l (ks.drop (k + 1)) x y = Y := fun h => by
        have h2 := HN.out
        rw [hs2, cmpK, ← hN, if_pos h] at h2
        exact h2
      have hn1 : N ≠ 0 → Y = N := fun h => by
        have h2 := HN.out
        rw [hs2, cmpK, ← hN, if_neg h] at h2
        exact h2.symm
      have hia := atC_lt hmem
      rw [namesC_len] at hia
      have hpa := posF_in hmem
      obtain ⟨ws, hws⟩ : ∃ ws, ws = wr.alloc (.cells #[.string xc, .int .i64 kd] 151) := ⟨_, rfl⟩
      have bws : Below wr.heap.size wr ws := by rw [hws]; exact (Below.refl _ _).alloc (Nat.le_refl _) _
      have Z := Box.new wr 151 #[.string xc, .int .i64 kd]
      rw [← hws] at Z
      have hBs := hB.trans (bws.mono hB.size)
      have mk0 : ∀ w', Below ws.heap.size ws w' → w'.cell? ⟨wr.heap.size, 0, none⟩ = some (.string xc) ∧ Below ws.heap.size ws w' := fun w' hb => ⟨(Z.below hb Z.lt).cell 0, hb⟩
      obtain ⟨na, hna⟩ : ∃ n, n = atC (namesC l) xc := ⟨_, rfl⟩
      rw [← hna] at hia hpa
      have hix : na < x.length := by rw [HXL.out]; exact hia
      have hiy : na < y.length := by rw [HYL.out]; exact hia
      have hNN : N = if xd = true then -cmpV x[na] y[na] else cmpV x[na] y[na] := by rw [hN]; unfold key1; dsimp only; rw [← hna, getD_at hix, getD_at hiy]
      obtain ⟨ax, dx, hvx, e0, e1, e2, e3⟩ := RdRV.at hx0 hix
      injection hvx with hA hln hcc
      subst hA
      subst hcc
      clear hln
      obtain ⟨ay, dy, hvy, f0, f1, f2, f3⟩ := RdRV.at hy0 hiy
      injection hvy with hA hln hcc
      subst hA
      subst hcc
      clear hln
      obtain ⟨xx, hxx⟩ : ∃ z, z = x[na] := ⟨_, rfl⟩
      obtain ⟨yy, hyy⟩ : ∃ z, z = y[na] := ⟨_, rfl⟩
      rw [← hxx] at e0 e1 e2 e3
      rw [← hyy] at f0 f1 f2 f3
      rw [← hxx, ← hyy] at hNN
      have hsm := cmpV_small xx yy
      have dk : decide ((k : Int) < ks.length) = true := decide_eq_true (by omega)
      have iix : (na : Int) < x.length := by omega
      have iiy : (na : Int) < y.length := by omega
      obtain ⟨xk, xs, xn, xb⟩ := xx
      obtain ⟨yk, ys, yn, yb⟩ := yy
      obtain ⟨xi, hxi⟩ : ∃ n, n = nullI xb := ⟨_, rfl⟩
      obtain ⟨yi, hyi⟩ : ∃ n, n = nullI yb := ⟨_, rfl⟩
      dsimp only at e0 e1 e2 e3 f0 f1 f2 f3
      rw [← hxi] at e3
      rw [← hyi] at f3
      obtain ⟨M, hM⟩ : ∃ M, M = cmpV ⟨xk, xs, xn, xb⟩ ⟨yk, ys, yn, yb⟩ := ⟨_, rfl⟩
      rw [← hM] at hNN hsm
      have CC : ∀ wq : World, Calls Tryd.prog 93 #[.agg #[.int .i64 xk, .string xs, .int .i64 xn, .int .i64 xi], .agg #[.int .i64 yk, .string ys, .int .i64 yn, .int .i64 yi]] wq fun e w' => e = .returned (.int .i64 M) ∧ Below wq.heap.size wq w' := fun wq => rcmp_any xk yk xn yn xi yi M xs ys xb yb wq hxi hyi hM
      have cells : ∀ w' : World, Below w.heap.size w w' → w'.cell? (ax.add (na * 4)) = some (.int .i64 xk) ∧ w'.cell? ⟨(ax.add (na * 4)).block, (ax.add (na * 4)).off + 1, none⟩ = some (.string xs) ∧ w'.cell? ⟨(ax.add (na * 4)).block, (ax.add (na * 4)).off + 2, none⟩ = some (.int .i64 xn) ∧ w'.cell? ⟨(ax.add (na * 4)).block, (ax.add (na * 4)).off + 3, none⟩ = some (.int .i64 xi) ∧ w'.cell? (ay.add (na * 4)) = some (.int .i64 yk) ∧ w'.cell? ⟨(ay.add (na * 4)).block, (ay.add (na * 4)).off + 1, none⟩ = some (.string ys) ∧ w'.cell? ⟨(ay.add (na * 4)).block, (ay.add (na * 4)).off + 2, none⟩ = some (.int .i64 yn) ∧ w'.cell? ⟨(ay.add (na * 4)).block, (ay.add (na * 4)).off + 3, none⟩ = some (.int .i64 yi) := fun w' hbw =>
        ⟨(hbw.cell (World.block_lt_of_cell? w _ e0)).trans e0, (hbw.cell (World.block_lt_of_cell? w _ e1)).trans e1, (hbw.cell (World.block_lt_of_cell? w _ e2)).trans e2, (hbw.cell (World.block_lt_of_cell? w _ e3)).trans e3, (hbw.cell (World.block_lt_of_cell? w _ f0)).trans f0, (hbw.cell (World.block_lt_of_cell? w _ f1)).trans f1, (hbw.cell (World.block_lt_of_cell? w _ f2)).trans f2, (hbw.cell (World.block_lt_of_cell? w _ f3)).trans f3⟩
      have HCE := Lib.hid cells
      have HN0 := Lib.hid hn0; have HN1 := Lib.hid hn1; have HWS := Lib.hid hws; have HPA := Lib.hid hpa; have HNN := Lib.hid hNN; have HSM := Lib.hid hsm; have HZ := Lib.hid Z; have MK0 := Lib.hid mk0; have HCC := Lib.hid CC; have HKD := Lib.hid hkd
      clear hoe hs2 hN hn0 hn1 hws hpa hna hNN hsm Z hmem hia hix hiy hxx hyy mk0 CC cells e0 e1 e2 e3 f0 f1 f2 f3 hxi hyi hM hkd
      go_wp2
      rw [← HWS.out]
      go_region_held3 (fun w' => w'.cell? ⟨wr.heap.size, 0, none⟩ = some (.string xc) ∧ Below ws.heap.size ws w') (first | (exact MK0.out _ (Below.drew (Below.refl _ _))) | (go_split_ands; exact MK0.out _ (by assumption)) | (go_split_ands; exact MK0.out _ (keepB (by assumption) (by assumption))) | go_keep)
        (first | (go_at_call 65; go_split_ands; refine (refNames_any _ l _ (RdF.next hl0 (hBs.trans (Below.mono (by assumption) hBs.size))) hll).mono ?_; rintro e w7 ⟨o7, rfl, ho7, b7⟩; have cb : Below ws.heap.size ws w7 := keepB b7 (by assumption); obtain ⟨o7A, o7c, rfl, -⟩ := ho7.form) | (go_at_call 64; go_split_ands; refine (refAt_any _ (namesC l) xc _ (RdS.of_own ho7)).mono ?_; rintro e w9 ⟨rfl, rfl⟩; rw [HPA.out]))
      have hB7 := hBs.trans (cb.mono hBs.size)
      have Z7 := HZ.out.below cb HZ.out.lt
      have HZ7 := Lib.hid Z7
      have mk : ∀ w', Below w9.heap.size w9 w' → w'.cell? (ax.add (na * 4)) = some (.int .i64 xk) ∧ w'.cell? ⟨(ax.add (na * 4)).block, (ax.add (na * 4)).off + 1, none⟩ = some (.string xs) ∧ w'.cell? ⟨(ax.add (na * 4)).block, (ax.add (na * 4)).off + 2, none⟩ = some (.int .i64 xn) ∧ w'.cell? ⟨(ax.add (na * 4)).block, (ax.add (na * 4)).off + 3, none⟩ = some (.int .i64 xi) ∧ w'.cell? (ay.add (na * 4)) = some (.int .i64 yk) ∧ w'.cell? ⟨(ay.add (na * 4)).block, (ay.add (na * 4)).off + 1, none⟩ = some (.string ys) ∧ w'.cell? ⟨(ay.add (na * 4)).block, (ay.add (na * 4)).off + 2, none⟩ = some (.int .i64 yn) ∧ w'.cell? ⟨(ay.add (na * 4)).block, (ay.add (na * 4)).off + 3, none⟩ = some (.int .i64 yi) ∧ Below w9.heap.size w9 w' := fun w' hb => by
        obtain ⟨y0, y1, y2, y3, y4, y5, y6, y7⟩ := HCE.out w' (hB7.trans (hb.mono hB7.size))
        exact ⟨y0, y1, y2, y3, y4, y5, y6, y7, hb⟩
      have MK := Lib.hid mk
      clear mk Z7 ho7
      go_wp2
      go_region_held3 (fun w' => w'.cell? (ax.add (na * 4)) = some (.int .i64 xk) ∧ w'.cell? ⟨(ax.add (na * 4)).block, (ax.add (na * 4)).off + 1, none⟩ = some (.string xs) ∧ w'.cell? ⟨(ax.add (na * 4)).block, (ax.add (na * 4)).off + 2, none⟩ = some (.int .i64 xn) ∧ w'.cell? ⟨(ax.add (na * 4)).block, (ax.add (na * 4)).off + 3, none⟩ = some (.int .i64 xi) ∧ w'.cell? (ay.add (na * 4)) = some (.int .i64 yk) ∧ w'.cell? ⟨(ay.add (na * 4)).block, (ay.add (na * 4)).off + 1, none⟩ = some (.string ys) ∧ w'.cell? ⟨(ay.add (na * 4)).block, (ay.add (na * 4)).off + 2, none⟩ = some (.int .i64 yn) ∧ w'.cell? ⟨(ay.add (na * 4)).block, (ay.add (na * 4)).off + 3, none⟩ = some (.int .i64 yi) ∧ Below w9.heap.size w9 w') (first | (exact MK.out _ (Below.drew (Below.refl _ _))) | (go_split_ands; exact MK.out _ (by assumption)) | (go_split_ands; exact MK.out _ (keepB (by assumption) (by assumption))) | go_keep)
        (first | (go_at_call 93; go_split_ands; refine (HCC.out _).mono ?_; rintro e w10 ⟨rfl, b10⟩; have cb10 : Below w9.heap.size w9 w10 := keepB b10 (by assumption)))
      have Z10 := HZ7.out.below cb10 HZ7.out.lt
      have z1 := Z10.cell 1
      simp at z1
      have hB10 := hB7.trans (cb10.mono hB7.size)
      obtain ⟨w11, rfl⟩ : ∃ w11 : World, w11 = w10 := ⟨_, rfl⟩
      clear Z10
      by_cases hz : M = 0
      · have hnm : N = 0 := by rw [HNN.out, hz]; cases xd <;> rfl
        have HV := Lib.hid (HN0.out hnm)
        subst hz
        clear hnm
        go_wp2
        exact ⟨⟨k + 1, by omega, by go_num, HV.out, hB10⟩, by simp [intOf]; omega⟩
      · have dne : (M != 0) = true := by rw [bne_iff_ne]; exact hz
        cases xd
        · have hk0' : kd = 0 := HKD.out
          have hnm : N = M := by rw [HNN.out]; rfl
          have hy : Y = M := by rw [HN1.out (by rw [hnm]; exact hz), hnm]
          subst hy hk0'
          clear hnm
          go_wp2
          exact HR.out _ _ ⟨rfl, hB10⟩
        · have hk0' : kd = 1 := HKD.out
          have hnm : N = -M := by rw [HNN.out]; rfl
          have hy : Y = -M := by rw [HN1.out (by rw [hnm]; omega), hnm]
          subst hk0'
          rcases HSM.out with hM1 | hM1 | hM1
          · subst hM1
            have hy1 : Y = 1 := by rw [hy]; rfl
            subst hy1
            clear hnm hy
            go_wp2
            exact HR.out _ _ ⟨rfl, hB10⟩
          · exact absurd hM1 hz
          · subst hM1
            subst hy
            clear hnm
            go_wp2
            exact HR.out _ _ ⟨rfl, hB10⟩
    · obtain rfl : k = ks.length := by omega
      have hy : Y = 0 := by rw [← HN.out, List.drop_length, cmpK]
      subst hy
      clear hlt
      go_wp2
      exact HR.out _ _ ⟨rfl, hB⟩
end Go.Proofs.YtgiemhooeoakmaaDoor

namespace Go.Proofs.YtgiemhooeoakmaaDoor
set_option linter.unusedVariables false
set_option linter.unusedSimpArgs false

theorem cmpI_turn (a b : Int) : cmpI b a = -cmpI a b := by
  unfold cmpI
  by_cases h1 : a < b
  · have h2 : ¬ b < a := by omega
    simp [h1, h2]
  · by_cases h2 : b < a
    · simp [h1, h2]
    · simp [h1, h2]
theorem compareBytes_turn : ∀ a b : List UInt8, Lib.compareBytes b a = -Lib.compareBytes a b
  | [], [] => by simp [Lib.compareBytes]
  | [], _ :: _ => by simp [Lib.compareBytes]
  | _ :: _, [] => by simp [Lib.compareBytes]
  | x :: a, y :: b => by
    rw [Lib.compareBytes, Lib.compareBytes]
    by_cases h1 : x < y
    · have h2 : ¬ y < x := fun h => absurd (UInt8.lt_trans h h1) (UInt8.lt_irrefl _)
      simp [h1, h2]
    · by_cases h2 : y < x
      · simp [h1, h2]
      · simp only [h1, h2, if_false]
        exact compareBytes_turn a b
theorem cmpB_turn (a b : Bool) : cmpB b a = -cmpB a b := by cases a <;> cases b <;> rfl
theorem cmpV_turn (a b : Val) : cmpV b a = -cmpV a b := by
  have h1 := cmpI_turn a.kind b.kind
  have h2 : cmpS b.s a.s = -cmpS a.s b.s := compareBytes_turn _ _
  have h3 := cmpI_turn a.n b.n
  have h4 := cmpB_turn a.b b.b
  unfold cmpV
  rw [h1, h2, h3, h4]
  have key : ∀ l : List Int, orI (l.map fun x => -x) = -orI l := fun l => by
    induction l with
    | nil => rfl
    | cons x r ih =>
      rw [List.map_cons, orI_step, orI_step, ih]
      by_cases h : x = 0
      · subst h; simp
      · rw [if_neg h, if_neg (by omega)]
  exact key [cmpI a.kind b.kind, cmpS a.s b.s, cmpI a.n b.n, cmpB a.b b.b]
theorem key1_turn (l : List Col) (k : KeyP) (x y : VRow) : key1 l k y x = -key1 l k x y := by
  unfold key1
  split
  · rw [cmpV_turn]
  · rw [cmpV_turn]
theorem cmpK_turn (l : List Col) (x y : VRow) : ∀ ks : List KeyP, cmpK l ks y x = -cmpK l ks x y
  | [] => rfl
  | k :: r => by
    rw [cmpK, cmpK, key1_turn, cmpK_turn l x y r]
    by_cases h : key1 l k x y = 0
    · rw [if_pos h, if_pos (by omega)]
    · rw [if_neg h, if_neg (by omega)]
theorem byE_two (l : List Col) (ks : List KeyP) (x y : VRow) : byE l ks [y, x] = byE l ks [x, y] := by
  unfold byE
  have : fitsB l.length [y, x] = fitsB l.length [x, y] := by
    rw [Bool.eq_iff_iff, fitsB_iff, fitsB_iff]
    constructor <;> intro h r hr <;> exact h r (by simp at hr ⊢; exact hr.symm)
  rw [this]
theorem cmpK_small (l : List Col) (x y : VRow) : ∀ ks : List KeyP, cmpK l ks x y = -1 ∨ cmpK l ks x y = 0 ∨ cmpK l ks x y = 1
  | [] => by simp [cmpK]
  | k :: r => by
    rw [cmpK]
    split
    · exact cmpK_small l x y r
    · unfold key1
      have h := cmpV_small (x.getD (atC (namesC l) k.col) val0) (y.getD (atC (namesC l) k.col) val0)
      split <;> omega
end Go.Proofs.YtgiemhooeoakmaaDoor


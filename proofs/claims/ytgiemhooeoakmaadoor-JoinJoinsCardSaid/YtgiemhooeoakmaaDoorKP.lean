/- Layer 23, the reference: Rows. -/
import Derived.Test.YtgiemhooeoakmaaDoorKO
import Derived.Test.YtgiemhooeoakmaaDoorKL
namespace Go.Proofs.YtgiemhooeoakmaaDoor
open Go.RowKit Go.ChangeShapes Go.WideShapes
set_option linter.unusedVariables false
set_option linter.unusedSimpArgs false

theorem RdF.sl_ {α : Type} {f : α → List Value} {s : Nat} {w : World} {B : Nat} {A : Option Addr} {c : Nat} {l : List α} (h : RdF f s w B (.slice A l.length c) l) : Sl w B s A l.length c (l.flatMap f) := by
  obtain ⟨A', c', h1, h2⟩ := h.is
  injection h1 with q1 _ q3
  subst q1
  subst q3
  exact h2
theorem rvalF_one (l : VRow) : ∀ u ∈ l.flatMap rvalV, u.oneCell' = true := fun u hu => by
  obtain ⟨x, -, hx⟩ := List.mem_flatMap.1 hu
  exact rval_one x u hx
theorem sideO_snoc (on : List OnP) (x y : VRow) (b : List Col) {m : Nat} (hm : m < b.length) : sideP (othF on 0 (b.take (m + 1))) x y = sideP (othF on 0 (b.take m)) x y ++ (if rightB on b[m].name = true then [] else [y.getD m val0]) := by
  rw [List.take_succ_eq_append_getElem hm, othF_snoc]
  unfold sideP
  rw [List.map_append, List.append_assoc]
  congr 2
  split
  · rfl
  · simp [List.length_take, Nat.min_eq_left (Nat.le_of_lt hm)]
theorem sideO_len (on : List OnP) (x y : VRow) (b : List Col) (m : Nat) : (sideP (othF on 0 (b.take m)) x y).length ≤ x.length + b.length := by
  unfold sideP
  rw [List.length_append, List.length_map]
  have := othF_len on (b.take m) 0
  rw [List.length_take] at this
  omega
def inD (wd : Bool) (ps : List (Int × Int)) (rest : List Int) (tb : VTab) (x : VRow) (m : Nat) : VTab := if wd = true then outJ ps rest (tb.take m) x else []
theorem inD_snoc (wd : Bool) (ps : List (Int × Int)) (rest : List Int) (tb : VTab) (x : VRow) {k : Nat} (hk : k < tb.length) : inD wd ps rest tb x (k + 1) = inD wd ps rest tb x k ++ if wd = true ∧ matchP ps x tb[k] = true then [sideP rest x tb[k]] else [] := by
  unfold inD
  cases wd
  · simp
  · rw [if_pos rfl, if_pos rfl, outJ_snoc ps rest tb x hk]
    simp
theorem inD_len (wd : Bool) (ps : List (Int × Int)) (rest : List Int) (tb : VTab) (x : VRow) (m : Nat) : (inD wd ps rest tb x m).length ≤ tb.length := by
  unfold inD
  split
  · have := outJ_len ps rest (tb.take m) x
    rw [List.length_take] at this
    omega
  · exact Nat.zero_le _
theorem outJ_none {ps : List (Int × Int)} {rest : List Int} {tb : VTab} {x : VRow} (h : tb.any (matchP ps x) = false) : outJ ps rest tb x = [] := by
  unfold outJ
  rw [List.map_eq_nil_iff, List.filter_eq_nil_iff]
  intro y hy hm
  have := List.any_eq_false.1 h y hy
  exact this hm
theorem outJ_some {ps : List (Int × Int)} {rest : List Int} {tb : VTab} {x : VRow} (h : tb.any (matchP ps x) = true) : 0 < (outJ ps rest tb x).length := by
  obtain ⟨y, hy, hm⟩ := List.any_eq_true.1 h
  unfold outJ
  rw [List.length_map]
  exact List.length_pos_iff.2 fun e => by
    have := List.mem_filter.2 ⟨hy, hm⟩
    rw [e] at this
    cases this
theorem rowJ_end (ps : List (Int × Int)) (rest : List Int) (tb : VTab) (x : VRow) (s : Bool) (hs : s = tb.any (matchP ps x)) :
    rowJ ps rest tb x 1 = inD true ps rest tb x tb.length ∧ rowJ ps rest tb x 2 = (inD true ps rest tb x tb.length ++ if s = true then [] else [sideP rest x []]) ∧ rowJ ps rest tb x 3 = (if s = true then [x] else []) ∧ rowJ ps rest tb x 4 = (if s = true then [] else [x]) := by
  unfold inD
  rw [List.take_length]
  cases s
  · have h := outJ_none (rest := rest) hs.symm
    unfold rowJ
    rw [h]
    simp [wideB]
  · have h := outJ_some (rest := rest) hs.symm
    have hn : ¬ (outJ ps rest tb x).length = 0 := by omega
    have hn2 : ¬ outJ ps rest tb x = [] := fun e => by rw [e] at h; simp at h
    unfold rowJ
    simp [wideB, h, hn, hn2]
theorem rowsJ_snoc (a b : List Col) (ta tb : VTab) (on : List OnP) (kind : Int) {k : Nat} (hk : k < ta.length) : rowsJ a b (ta.take (k + 1)) tb on kind = rowsJ a b (ta.take k) tb on kind ++ rowJ (psJ a b on) (othF on 0 b) tb ta[k] kind := by
  unfold rowsJ
  rw [List.take_succ_eq_append_getElem hk, List.flatMap_append, List.flatMap_cons, List.flatMap_nil, List.append_nil]
theorem rowsJ_few (a b : List Col) (ta tb : VTab) (on : List OnP) (kind : Int) (k : Nat) : (rowsJ a b (ta.take k) tb on kind).length ≤ k * (tb.length + 1) := by
  have : ∀ t : VTab, (rowsJ a b t tb on kind).length ≤ t.length * (tb.length + 1) := fun t => by
    unfold rowsJ
    induction t with
    | nil => simp
    | cons x r ih =>
      have h := rowJ_len (psJ a b on) (othF on 0 b) tb x kind
      rw [List.flatMap_cons, List.length_append, List.length_cons, Nat.succ_mul]
      omega
  refine Nat.le_trans (this _) (Nat.mul_le_mul_right _ ?_)
  rw [List.length_take]
  omega
set_option maxHeartbeats 16000000 in
set_option maxRecDepth 100000 in
theorem rrows_any (va ua vb ub vo : Value) (a b : List Col) (ta tb : VTab) (on : List OnP) (kind : Int) (w : World) (ha : RdRC w w.heap.size va a) (hta : RdRVT w w.heap.size ua ta) (hb : RdRC w w.heap.size vb b) (htb : RdRVT w w.heap.size ub tb) (ho : RdOn w w.heap.size vo on)
    (hla : a.length ≤ 1000) (hlb : b.length ≤ 1000) (hlta : ta.length ≤ 1000) (hltb : tb.length ≤ 1000) (hmem : ∀ o ∈ on, o.left ∈ namesC a ∧ o.right ∈ namesC b) (hfa : ∀ x ∈ ta, x.length = a.length) (hfb : ∀ y ∈ tb, y.length = b.length) (hk1 : 1 ≤ kind) (hk4 : kind ≤ 4) :
    Calls Tryd.prog 40 #[.agg #[va, ua], .agg #[vb, ub], vo, .int .i64 kind] w fun e w' => ∃ o, e = .returned o ∧ TabRV w' w.heap.size o (rowsJ a b ta tb on kind) ∧ Below w.heap.size w w' := by
  refine cps fun R HR => ?_
  obtain ⟨i0, hi0, hz0, hz1, hz2⟩ := info_parts rval_info
  obtain ⟨j0, hj0, hy0, hy1, hy2⟩ := info_parts rvrow_info
  have ha0 := ha; have hb0 := hb; have ho0 := ho; have hta0 := hta; have htb0 := htb
  obtain ⟨A1, c1, rfl, -⟩ := ha.is
  obtain ⟨A2, c2, rfl, -⟩ := hb.is
  obtain ⟨A3, c3, rfl, -⟩ := ho.is
  obtain ⟨A6, c6, vs6, rfl, -, -⟩ := hta.is
  obtain ⟨A7, c7, vs7, rfl, -, -⟩ := htb.is
  clear ha hb ho hta htb
  obtain ⟨wd, hwde⟩ : ∃ wd, wd = wideB kind := ⟨_, rfl⟩
  have hwd : decide (2 < kind) = !wd := by
    rw [hwde]
    unfold wideB
    rw [Bool.eq_iff_iff]
    simp only [Bool.not_eq_true', Bool.or_eq_false_iff, decide_eq_true_iff, decide_eq_false_iff_not]
    omega
  obtain ⟨g, hg⟩ : ∃ g, g = w.heap.size := ⟨_, rfl⟩
  obtain ⟨w0, hw0⟩ : ∃ w0, w0 = (w.alloc (.cells #[.slice A1 a.length c1, .slice A6 ta.length c6] 39)).alloc (.cells #[.slice A2 b.length c2, .slice A7 tb.length c7] 39) := ⟨_, rfl⟩
  have b0 : Below w.heap.size w w0 := by rw [hw0]; exact ((Below.refl _ _).alloc (Nat.le_refl _) _).alloc (by simp) _
  have X := (Box.new w 39 #[.slice A1 a.length c1, .slice A6 ta.length c6]).alloc (.cells #[.slice A2 b.length c2, .slice A7 tb.length c7] 39)
  have Z := Box.new (w.alloc (.cells #[.slice A1 a.length c1, .slice A6 ta.length c6] 39)) 39 #[.slice A2 b.length c2, .slice A7 tb.length c7]
  rw [← hw0] at X Z
  simp only [hsz] at Z
  rw [← hg] at X Z
  have cells : ∀ w', Below w0.heap.size w0 w' → w'.cell? ⟨g, 0, none⟩ = some (.slice A1 a.length c1) ∧ w'.cell? ⟨g, 1, none⟩ = some (.slice A6 ta.length c6) ∧ w'.cell? ⟨g + 1, 0, none⟩ = some (.slice A2 b.length c2) ∧ w'.cell? ⟨g + 1, 1, none⟩ = some (.slice A7 tb.length c7) := fun w' hb => by
    have X2 := X.below hb X.lt
    have Z2 := Z.below hb Z.lt
    exact ⟨X2.cell 0, X2.cell 1, Z2.cell 0, Z2.cell 1⟩
  obtain ⟨x0, x1, x2, x3⟩ := cells w0 (Below.refl _ _)
  have HC := Lib.hid cells; have HW0 := Lib.hid hw0; have HB0 := Lib.hid b0; have HMEM := Lib.hid hmem; have HFA := Lib.hid hfa; have HFB := Lib.hid hfb; have HWD := Lib.hid hwde
  obtain ⟨PS, hPS⟩ : ∃ PS, PS = psJ a b on := ⟨_, rfl⟩
  obtain ⟨RS, hRS⟩ : ∃ RS, RS = othF on 0 b := ⟨_, rfl⟩
  have HPS := Lib.hid hPS; have HRS := Lib.hid hRS
  clear X Z hw0 b0 hmem hfa hfb hwde hPS hRS cells
  go_enter Tryd.func40, Tryd.ntmps40
  go_wp2
  rw [← HW0.out, ← hg]
  clear hg
  go_loopw [9, 24] (fun o i wr => ∃ k : Nat, k ≤ ta.length ∧ i = .int .i64 k ∧ TabRV wr w0.heap.size o (rowsJ a b (ta.take k) tb on kind) ∧ Below w0.heap.size w0 wr) (fun _ i _ => ta.length - (intOf i).toNat)
  case atStart => exact ⟨0, Nat.zero_le _, rfl, TabY.none_ _ _, Below.refl _ _⟩
  case round =>
    obtain ⟨k, hk, rfl, hT, hB⟩ := hrel
    have bw := HB0.out.trans (hB.mono HB0.out.size)
    clear x0 x1 x2 x3
    obtain ⟨x0, x1, x2, x3⟩ := HC.out wr hB
    by_cases hlt : k < ta.length
    · obtain ⟨p, d6, vx, hv, hcw, hrw⟩ := hta0.at hlt
      have hc := (bw.cell (World.block_lt_of_cell? w _ hcw)).trans hcw
      injection hv with hA hln hcc
      subst hA
      subst hcc
      clear hln hcw
      have hs1 := rowsJ_snoc a b ta tb on kind hlt
      have hfew := rowsJ_few a b ta tb on kind k
      have hfew2 : k * (tb.length + 1) ≤ 1000 * 1001 := Nat.mul_le_mul (by omega) (by omega)
      have hxl := HFA.out _ (List.getElem_mem hlt)
      obtain ⟨x, hx⟩ : ∃ x, x = ta[k] := ⟨_, rfl⟩
      rw [← hx] at hrw hs1 hxl
      rw [← HPS.out, ← HRS.out] at hs1
      obtain ⟨M, hM⟩ : ∃ M, M = rowsJ a b (ta.take k) tb on kind := ⟨_, rfl⟩
      rw [← hM] at hs1 hfew hT
      have hMl : M.length ≤ 1001000 := by omega
      have S1 := Lib.hid hs1; have HXL := Lib.hid hxl
      have dk : decide ((k : Int) < ta.length) = true := decide_eq_true (by omega)
      have hrw0 := hrw
      obtain ⟨A8, c8, rfl, -⟩ := hrw.is
      clear hx hs1 hM hrw hfew hfew2 hxl
      obtain ⟨wz, rfl⟩ : ∃ wz : World, wz = wr := ⟨_, rfl⟩
      have HT := Lib.hid hT; have HBZ := Lib.hid hB; have HBWZ := Lib.hid bw
      clear hT hB bw
      have hxl2 : x.length ≤ 1000 := by rw [HXL.out]; omega
      go_wp2
      go_loopw [9, 12, 31] (fun o s i wr => ∃ m : Nat, m ≤ tb.length ∧ i = .int .i64 m ∧ s = .bool ((tb.take m).any (matchP PS x)) ∧ TabRV wr w0.heap.size o (M ++ inD wd PS RS tb x m) ∧ Below w0.heap.size w0 wr) (fun _ _ i _ => tb.length - (intOf i).toNat)
      case atStart => exact ⟨0, Nat.zero_le _, rfl, rfl, by unfold inD outJ; simpa using HT.out, HBZ.out⟩
      case round =>
        obtain ⟨m, hm, rfl, rfl, hT, hB⟩ := hrel
        have bw := HB0.out.trans (hB.mono HB0.out.size)
        clear x0 x1 x2 x3
        obtain ⟨x0, x1, x2, x3⟩ := HC.out wr hB
        obtain ⟨sm, hsm⟩ : ∃ sm, sm = (tb.take m).any (matchP PS x) := ⟨_, rfl⟩
        rw [← hsm]
        have HSM := Lib.hid hsm
        have hil := inD_len wd PS RS tb x m
        clear hsm
        by_cases hltm : m < tb.length
        · obtain ⟨p', d7, vy, hv, hcw, hrw⟩ := htb0.at hltm
          have hcy := (bw.cell (World.block_lt_of_cell? w _ hcw)).trans hcw
          injection hv with hA hln hcc
          subst hA
          subst hcc
          clear hln hcw
          have hs3 := any_take (matchP PS x) tb hltm
          have hs4 := inD_snoc wd PS RS tb x hltm
          have hyl := HFB.out _ (List.getElem_mem hltm)
          obtain ⟨y, hy⟩ : ∃ y, y = tb[m] := ⟨_, rfl⟩
          rw [← hy] at hrw hs3 hs4 hyl
          obtain ⟨I, hI⟩ : ∃ I, I = inD wd PS RS tb x m := ⟨_, rfl⟩
          rw [← hI] at hs4 hil hT
          obtain ⟨t, ht⟩ : ∃ t, t = matchP PS x y := ⟨_, rfl⟩
          rw [← ht] at hs3 hs4
          rw [← HSM.out] at hs3
          have S3 := Lib.hid hs3; have S4 := Lib.hid hs4; have HYL := Lib.hid hyl; have HTT := Lib.hid ht
          have dm : decide ((m : Int) < tb.length) = true := decide_eq_true (by omega)
          have hrd0 := hrw
          obtain ⟨A9, c9, rfl, -⟩ := hrw.is
          have hbx := RdF.next hrw0 bw
          clear hy hs3 hs4 hI ht hrw hyl hc
          go_wp2_with fail
          have r1 := RdF.next ha0 bw
          have r2 := RdF.next hb0 bw
          have r3 := RdF.next ho0 bw
          have r4 := RdF.next hrd0 bw
          have r5 : a.length ≤ 100000 := by omega
          have r6 : b.length ≤ 100000 := by omega
          have hcall := rmatches_any (.slice A1 a.length c1) (.slice A2 b.length c2) (.slice A3 on.length c3) (.slice A8 x.length c8) (.slice A9 y.length c9) (some p) (some p') ta.length c6 tb.length c7 a b on x y wr r1 r2 r3 hbx r4 r5 r6 HMEM.out HXL.out HYL.out
          clear r1 r2 r3 r4 r5 r6
          refine hcall.mono ?_
          clear hcall
          rintro e w2 ⟨rfl, b2⟩
          rw [← HPS.out, ← HTT.out]
          have hB2 := hB.trans (b2.mono hB.size)
          have bw2 := bw.trans (b2.mono bw.size)
          have hT2 := hT.keep b2
          clear x0 x1 x2 x3 hcy
          obtain ⟨x0, x1, x2, x3⟩ := HC.out w2 hB2
          cases t
          · have HS3 := Lib.hid (show (tb.take (m + 1)).any (matchP PS x) = sm by rw [S3.out, Bool.or_false])
            have HS4 := Lib.hid (show inD wd PS RS tb x (m + 1) = I by rw [S4.out, if_neg (by simp), List.append_nil])
            go_wp2
            exact ⟨⟨m + 1, by omega, by go_num, by rw [HS3.out], by rw [HS4.out]; exact hT2, hB2⟩, by simp [intOf]; omega⟩
          · have HS3 := Lib.hid (show (tb.take (m + 1)).any (matchP PS x) = true by rw [S3.out, Bool.or_true])
            cases wd
            · have HS4 := Lib.hid (show inD false PS RS tb x (m + 1) = I by rw [S4.out, if_neg (by simp), List.append_nil])
              have hwd2 : decide (2 < kind) = true := hwd
              go_wp2
              exact ⟨⟨m + 1, by omega, by go_num, by rw [HS3.out], by rw [HS4.out]; exact hT2, hB2⟩, by simp [intOf]; omega⟩
            · have HS4 := Lib.hid (show inD true PS RS tb x (m + 1) = I ++ [sideP RS x y] by rw [S4.out, if_pos ⟨rfl, rfl⟩])
              have hwd2 : decide (2 < kind) = false := hwd
              have hbx2 := RdF.next hrw0 bw2
              have hsx := hbx2.sl_
              obtain ⟨w3, rfl⟩ : ∃ w3 : World, w3 = w2 := ⟨_, rfl⟩
              go_wp2_with (at_builtin; refine wpList_append_Own _ rfl _ _ _ rfl w3.heap.size 112 i0 _ 4 40 Tryd.underlying63 hi0 hz0 hz1 hz2 rfl (by omega) (by omega) (.slice none 0 0) 0 [] rfl (Own.nil_ _ _ _ _) w3.heap.size A8 x.length c8 (x.flatMap rvalV) rfl hsx (rvalF_one x) (by simp only [maxLen]; omega) (by omega) (Nat.le_refl _) ?_; intro v1 w4 hown1 hg1 hat1; obtain ⟨v1A, v1c, rfl, -⟩ := hown1.form; have b4 : Below w3.heap.size w3 w4 := below_grown (Below.refl _ _) hg1 (fun g hg => by simp [Value.ownBlock] at hg) (Nat.le_refl _); obtain ⟨y0, y1, y2, y3⟩ := HC.out w4 (hB2.trans (b4.mono hB2.size)))
              go_loopw [15, 50] (fun r i wq => ∃ q : Nat, q ≤ b.length ∧ i = .int .i64 q ∧ Own wq w3.heap.size 112 4 r (sideP (othF on 0 (b.take q)) x y).length ((sideP (othF on 0 (b.take q)) x y).flatMap rvalV) ∧ Below w3.heap.size w3 wq) (fun _ i _ => b.length - (intOf i).toNat)
              case atStart =>
                have h0 : sideP (othF on 0 (b.take 0)) x y = x := by rw [List.take_zero]; unfold othF sideP; simp
                exact ⟨0, Nat.zero_le _, rfl, by rw [h0]; simpa using hown1, b4⟩
              case round =>
                obtain ⟨q, hq, rfl, hO, hBq⟩ := hrel
                have hBzq := hB2.trans (hBq.mono hB2.size)
                have bwq := bw2.trans (hBq.mono bw2.size)
                clear x0 x1 x2 x3 y0 y1 y2 y3
                obtain ⟨x0, x1, x2, x3⟩ := HC.out _ hBzq
                by_cases hltq : q < b.length
                · obtain ⟨pb, e7, hv, r0, r1, r2⟩ := RdRC.at (RdF.next hb0 bwq) hltq
                  injection hv with hA hln hcc
                  subst hA
                  subst hcc
                  clear hln
                  have hs5 := sideO_snoc on x y b hltq
                  have hLl := sideO_len on x y b q
                  obtain ⟨cc, hcc⟩ : ∃ cc, cc = b[q] := ⟨_, rfl⟩
                  rw [← hcc] at r0 r1 r2 hs5
                  obtain ⟨L, hL⟩ : ∃ L, L = sideP (othF on 0 (b.take q)) x y := ⟨_, rfl⟩
                  rw [← hL] at hs5 hLl hO
                  obtain ⟨cs, ck, cb⟩ := cc
                  obtain ⟨cn, hcn⟩ : ∃ n, n = nullI cb := ⟨_, rfl⟩
                  dsimp only at r0 r1 r2 hs5
                  rw [← hcn] at r2
                  obtain ⟨tr, htr⟩ : ∃ t, t = rightB on cs := ⟨_, rfl⟩
                  rw [← htr] at hs5
                  have S5 := Lib.hid hs5; have HTR := Lib.hid htr
                  have dq : decide ((q : Int) < b.length) = true := decide_eq_true (by omega)
                  clear hcc hL hcn htr hs5
                  obtain ⟨w5, hw5⟩ : ∃ w5, w5 = wr.alloc (.cells #[.string cs, .int .i64 ck, .int .i64 cn] 120) := ⟨_, rfl⟩
                  have b5 : Below wr.heap.size wr w5 := by rw [hw5]; exact (Below.refl _ _).alloc (Nat.le_refl _) _
                  have bw5 := bwq.trans (b5.mono bwq.size)
                  have HW5 := Lib.hid hw5
                  clear hw5
                  go_wp2_with fail
                  rw [← HW5.out]
                  refine (refRight_any _ on cs _ (RdF.next ho0 bw5)).mono ?_
                  rintro e w6 ⟨rfl, b6⟩
                  rw [← HTR.out]
                  have b56 := b5.trans (b6.mono b5.size)
                  have hB6 := hBq.trans (b56.mono hBq.size)
                  have bw6 := bw5.trans (b6.mono bw5.size)
                  have hO6 := hO.below b56 (Nat.le_refl _)
                  cases tr
                  · have hq1 : q < y.length := by rw [HYL.out]; exact hltq
                    obtain ⟨p8, e8, hv8, q0, q1, q2, q3⟩ := RdRV.at (RdF.next hrd0 bw6) hq1
                    injection hv8 with hA hln hcc
                    subst hA
                    subst hcc
                    clear hln
                    have hget : y.getD q val0 = y[q] := getD_at hq1
                    obtain ⟨yy, hyy⟩ : ∃ yy, yy = y[q] := ⟨_, rfl⟩
                    rw [← hyy] at q0 q1 q2 q3 hget
                    obtain ⟨yk, ys, yn, yb⟩ := yy
                    obtain ⟨ym, hym⟩ : ∃ m, m = nullI yb := ⟨_, rfl⟩
                    dsimp only at q0 q1 q2 q3
                    rw [← hym] at q3
                    have S6 := Lib.hid (show sideP (othF on 0 (b.take (q + 1))) x y = L ++ [⟨yk, ys, yn, yb⟩] by rw [S5.out, if_neg (by simp), hget])
                    have S6b := Lib.hid (show (L ++ [(⟨yk, ys, yn, yb⟩ : Val)]).flatMap rvalV = L.flatMap rvalV ++ (#[.int .i64 yk, .string ys, .int .i64 yn, .int .i64 ym] : Array Value).toList by rw [rval_snoc, hym]; rfl)
                    have hon : ∀ u ∈ (#[.int .i64 yk, .string ys, .int .i64 yn, .int .i64 ym] : Array Value).toList, u.oneCell' = true := by rw [hym]; exact rval_one ⟨yk, ys, yn, yb⟩
                    have HON := Lib.hid hon
                    have hqI : (q : Int) < y.length := by omega
                    clear hon hget hyy hym
                    go_wp2_with (at_builtin; refine wpList_pushF rfl _ _ _ rfl w3.heap.size 112 i0 _ 4 40 Tryd.underlying63 hi0 hz0 hz1 hz2 rfl (by omega) (by omega) u15 L.length _ #[.int .i64 yk, .string ys, .int .i64 yn, .int .i64 ym] rfl rfl hO6 (by simp [Act.eval]) HON.out (by omega) hB6.size ?_; intro v9 w9 hown9 hg9 hat9)
                    exact ⟨⟨q + 1, by omega, by go_num, by rw [S6.out, List.length_append, S6b.out]; exact hown9, below_grown hB6 hg9 (fun g hg => (hO6.lt g hg).1) hB6.size⟩, by simp [intOf]; omega⟩
                  · have S6 := Lib.hid (show sideP (othF on 0 (b.take (q + 1))) x y = L by rw [S5.out, if_pos rfl, List.append_nil])
                    go_wp2
                    exact ⟨⟨q + 1, by omega, by go_num, by rw [S6.out]; exact hO6, hB6⟩, by simp [intOf]; omega⟩
                · obtain rfl : q = b.length := by omega
                  have hse : sideP (othF on 0 (b.take b.length)) x y = sideP RS x y := by rw [List.take_length, HRS.out]
                  rw [hse] at hO
                  clear hltq hse
                  have hTq := hT2.keep hBq
                  have hlt1 := hT2.lt
                  have hMI : (M ++ I).length ≤ 1002000 := by rw [List.length_append]; omega
                  obtain ⟨vs2, ho3, he3⟩ := hTq.is
                  have hu0 := hO
                  obtain ⟨uA, uc, rfl, -⟩ := hO.form
                  clear hO
                  go_wp2_with (at_builtin; refine wpList_push rfl _ _ _ rfl w0.heap.size 63 j0 _ 24 Tryd.underlying37 hj0 hy0 hy1 hy2 rfl (by omega) u9 (M ++ I).length _ (.slice uA (sideP RS x y).length uc) rfl ho3 rfl rfl (by omega) hBzq.size ?_; intro v7 w7 hown7 hg7 hat7)
                  have hn := TabY.push (t := (M ++ I)) hown7 he3 hu0 hB2.size (fun g hg => (hlt1 g hg).2) hg7 hat7
                  have hB7 := below_grown hBzq hg7 (fun g hg => (hTq.lt g hg).1) hBzq.size
                  rw [List.append_assoc, ← HS4.out] at hn
                  exact ⟨⟨m + 1, by omega, by go_num, by rw [HS3.out], hn, hB7⟩, by simp [intOf]; omega⟩
        · obtain rfl : m = tb.length := by omega
          have hre := rowJ_end PS RS tb x sm (by rw [HSM.out, List.take_length])
          obtain ⟨I, hI⟩ : ∃ I, I = inD wd PS RS tb x tb.length := ⟨_, rfl⟩
          rw [← hI] at hT hil
          have HRE := Lib.hid hre; have HI := Lib.hid hI
          have hsx := (RdF.next hrw0 bw).sl_
          obtain ⟨w3, rfl⟩ : ∃ w3 : World, w3 = wr := ⟨_, rfl⟩
          clear hre hI hltm hc
          have hT2 := hT
          have hB2 := hB
          have hlt1 := hT2.lt
          have hMI : (M ++ I).length ≤ 1002000 := by rw [List.length_append]; omega
          have hkk : kind = 1 ∨ kind = 2 ∨ kind = 3 ∨ kind = 4 := by omega
          rcases hkk with rfl | rfl | rfl | rfl
          · go_wp2_with (at_builtin; refine wpList_append_Own _ rfl _ _ _ rfl w3.heap.size 112 i0 _ 4 40 Tryd.underlying63 hi0 hz0 hz1 hz2 rfl (by omega) (by omega) (.slice none 0 0) 0 [] rfl (Own.nil_ _ _ _ _) w3.heap.size A8 x.length c8 (x.flatMap rvalV) rfl hsx (rvalF_one x) (by simp only [maxLen]; omega) (by omega) (Nat.le_refl _) ?_; intro v1 w4 hown1 hg1 hat1; obtain ⟨v1A, v1c, rfl, -⟩ := hown1.form; have b4 : Below w3.heap.size w3 w4 := below_grown (Below.refl _ _) hg1 (fun g hg => by simp [Value.ownBlock] at hg) (Nat.le_refl _); obtain ⟨y0, y1, y2, y3⟩ := HC.out w4 (hB2.trans (b4.mono hB2.size)))
            have hTq := hT2.keep b4
            have hn : rowsJ a b (ta.take (k + 1)) tb on 1 = M ++ I := by rw [S1.out, HRE.out.1, HI.out, HWD.out]; rfl
            have HN := Lib.hid hn
            have hB4 := hB2.trans (b4.mono hB2.size)
            clear hn
            go_wp2
            exact ⟨⟨k + 1, by omega, by go_num, by rw [HN.out]; exact hTq, hB4⟩, by simp [intOf]; omega⟩
          · cases sm
            · go_wp2_with (at_builtin; refine wpList_append_Own _ rfl _ _ _ rfl w3.heap.size 112 i0 _ 4 40 Tryd.underlying63 hi0 hz0 hz1 hz2 rfl (by omega) (by omega) (.slice none 0 0) 0 [] rfl (Own.nil_ _ _ _ _) w3.heap.size A8 x.length c8 (x.flatMap rvalV) rfl hsx (rvalF_one x) (by simp only [maxLen]; omega) (by omega) (Nat.le_refl _) ?_; intro v1 w4 hown1 hg1 hat1; obtain ⟨v1A, v1c, rfl, -⟩ := hown1.form; have b4 : Below w3.heap.size w3 w4 := below_grown (Below.refl _ _) hg1 (fun g hg => by simp [Value.ownBlock] at hg) (Nat.le_refl _); obtain ⟨y0, y1, y2, y3⟩ := HC.out w4 (hB2.trans (b4.mono hB2.size)))
              go_loopw [18, 102] (fun r i wq => ∃ q : Nat, q ≤ b.length ∧ i = .int .i64 q ∧ Own wq w3.heap.size 112 4 r (sideP (othF on 0 (b.take q)) x []).length ((sideP (othF on 0 (b.take q)) x []).flatMap rvalV) ∧ Below w3.heap.size w3 wq) (fun _ i _ => b.length - (intOf i).toNat)
              case atStart =>
                have h0 : sideP (othF on 0 (b.take 0)) x [] = x := by rw [List.take_zero]; unfold othF sideP; simp
                exact ⟨0, Nat.zero_le _, rfl, by rw [h0]; simpa using hown1, b4⟩
              case round =>
                obtain ⟨q, hq, rfl, hO, hBq⟩ := hrel
                have hBzq := hB2.trans (hBq.mono hB2.size)
                have bwq := bw.trans (hBq.mono bw.size)
                clear x0 x1 x2 x3 y0 y1 y2 y3
                obtain ⟨x0, x1, x2, x3⟩ := HC.out _ hBzq
                by_cases hltq : q < b.length
                · obtain ⟨pb, e7, hv, r0, r1, r2⟩ := RdRC.at (RdF.next hb0 bwq) hltq
                  injection hv with hA hln hcc
                  subst hA
                  subst hcc
                  clear hln
                  have hs5 := sideO_snoc on x [] b hltq
                  have hLl := sideO_len on x [] b q
                  obtain ⟨cc, hcc⟩ : ∃ cc, cc = b[q] := ⟨_, rfl⟩
                  rw [← hcc] at r0 r1 r2 hs5
                  obtain ⟨L, hL⟩ : ∃ L, L = sideP (othF on 0 (b.take q)) x [] := ⟨_, rfl⟩
                  rw [← hL] at hs5 hLl hO
                  obtain ⟨cs, ck, cb⟩ := cc
                  obtain ⟨cn, hcn⟩ : ∃ n, n = nullI cb := ⟨_, rfl⟩
                  dsimp only at r0 r1 r2 hs5
                  rw [← hcn] at r2
                  obtain ⟨tr, htr⟩ : ∃ t, t = rightB on cs := ⟨_, rfl⟩
                  rw [← htr] at hs5
                  have S5 := Lib.hid hs5; have HTR := Lib.hid htr
                  have dq : decide ((q : Int) < b.length) = true := decide_eq_true (by omega)
                  clear hcc hL hcn htr hs5
                  obtain ⟨w5, hw5⟩ : ∃ w5, w5 = wr.alloc (.cells #[.string cs, .int .i64 ck, .int .i64 cn] 120) := ⟨_, rfl⟩
                  have b5 : Below wr.heap.size wr w5 := by rw [hw5]; exact (Below.refl _ _).alloc (Nat.le_refl _) _
                  have bw5 := bwq.trans (b5.mono bwq.size)
                  have HW5 := Lib.hid hw5
                  clear hw5
                  go_wp2_with fail
                  rw [← HW5.out]
                  refine (refRight_any _ on cs _ (RdF.next ho0 bw5)).mono ?_
                  rintro e w6 ⟨rfl, b6⟩
                  rw [← HTR.out]
                  have b56 := b5.trans (b6.mono b5.size)
                  have hB6 := hBq.trans (b56.mono hBq.size)
                  have bw6 := bw5.trans (b6.mono bw5.size)
                  have hO6 := hO.below b56 (Nat.le_refl _)
                  cases tr
                  · have S6 := Lib.hid (show sideP (othF on 0 (b.take (q + 1))) x [] = L ++ [val0] by rw [S5.out, if_neg (by simp)]; rfl)
                    have S6b := Lib.hid (show (L ++ [val0]).flatMap rvalV = L.flatMap rvalV ++ (#[.int .i64 0, .string ⟨#[]⟩, .int .i64 0, .int .i64 0] : Array Value).toList by rw [rval_snoc]; rfl)
                    have hon : ∀ u ∈ (#[.int .i64 0, .string ⟨#[]⟩, .int .i64 0, .int .i64 0] : Array Value).toList, u.oneCell' = true := rval_one val0
                    have HON := Lib.hid hon
                    clear hon
                    go_wp2_with (at_builtin; refine wpList_pushF rfl _ _ _ rfl w3.heap.size 112 i0 _ 4 40 Tryd.underlying63 hi0 hz0 hz1 hz2 rfl (by omega) (by omega) u18 L.length _ #[.int .i64 0, .string ⟨#[]⟩, .int .i64 0, .int .i64 0] rfl rfl hO6 (by simp [Act.eval]) HON.out (by omega) hB6.size ?_; intro v9 w9 hown9 hg9 hat9)
                    exact ⟨⟨q + 1, by omega, by go_num, by rw [S6.out, List.length_append, S6b.out]; exact hown9, below_grown hB6 hg9 (fun g hg => (hO6.lt g hg).1) hB6.size⟩, by simp [intOf]; omega⟩
                  · have S6 := Lib.hid (show sideP (othF on 0 (b.take (q + 1))) x [] = L by rw [S5.out, if_pos rfl, List.append_nil])
                    go_wp2
                    exact ⟨⟨q + 1, by omega, by go_num, by rw [S6.out]; exact hO6, hB6⟩, by simp [intOf]; omega⟩
                · obtain rfl : q = b.length := by omega
                  have hse : sideP (othF on 0 (b.take b.length)) x [] = sideP RS x [] := by rw [List.take_length, HRS.out]
                  rw [hse] at hO
                  clear hltq hse
                  have hTq := hT2.keep hBq
                  obtain ⟨vs2, ho3, he3⟩ := hTq.is
                  have hu0 := hO
                  obtain ⟨uA, uc, rfl, -⟩ := hO.form
                  clear hO
                  go_wp2_with (at_builtin; refine wpList_push rfl _ _ _ rfl w0.heap.size 63 j0 _ 24 Tryd.underlying37 hj0 hy0 hy1 hy2 rfl (by omega) u9 (M ++ I).length _ (.slice uA (sideP RS x []).length uc) rfl ho3 rfl rfl (by omega) hBzq.size ?_; intro v7 w7 hown7 hg7 hat7)
                  have hn := TabY.push (t := (M ++ I)) hown7 he3 hu0 hB2.size (fun g hg => (hlt1 g hg).2) hg7 hat7
                  have hB7 := below_grown hBzq hg7 (fun g hg => (hTq.lt g hg).1) hBzq.size
                  have hn2 : rowsJ a b (ta.take (k + 1)) tb on 2 = M ++ I ++ [sideP RS x []] := by rw [S1.out, HRE.out.2.1, HI.out, HWD.out]; simp [inD, wideB]
                  exact ⟨⟨k + 1, by omega, by go_num, by rw [hn2]; exact hn, hB7⟩, by simp [intOf]; omega⟩
            · go_wp2_with (at_builtin; refine wpList_append_Own _ rfl _ _ _ rfl w3.heap.size 112 i0 _ 4 40 Tryd.underlying63 hi0 hz0 hz1 hz2 rfl (by omega) (by omega) (.slice none 0 0) 0 [] rfl (Own.nil_ _ _ _ _) w3.heap.size A8 x.length c8 (x.flatMap rvalV) rfl hsx (rvalF_one x) (by simp only [maxLen]; omega) (by omega) (Nat.le_refl _) ?_; intro v1 w4 hown1 hg1 hat1; obtain ⟨v1A, v1c, rfl, -⟩ := hown1.form; have b4 : Below w3.heap.size w3 w4 := below_grown (Below.refl _ _) hg1 (fun g hg => by simp [Value.ownBlock] at hg) (Nat.le_refl _); obtain ⟨y0, y1, y2, y3⟩ := HC.out w4 (hB2.trans (b4.mono hB2.size)))
              have hTq := hT2.keep b4
              have hn : rowsJ a b (ta.take (k + 1)) tb on 2 = M ++ I := by rw [S1.out, HRE.out.2.1, HI.out, HWD.out]; simp [inD, wideB]
              have HN := Lib.hid hn
              have hB4 := hB2.trans (b4.mono hB2.size)
              clear hn
              go_wp2
              exact ⟨⟨k + 1, by omega, by go_num, by rw [HN.out]; exact hTq, hB4⟩, by simp [intOf]; omega⟩
          · cases sm
            · go_wp2_with (at_builtin; refine wpList_append_Own _ rfl _ _ _ rfl w3.heap.size 112 i0 _ 4 40 Tryd.underlying63 hi0 hz0 hz1 hz2 rfl (by omega) (by omega) (.slice none 0 0) 0 [] rfl (Own.nil_ _ _ _ _) w3.heap.size A8 x.length c8 (x.flatMap rvalV) rfl hsx (rvalF_one x) (by simp only [maxLen]; omega) (by omega) (Nat.le_refl _) ?_; intro v1 w4 hown1 hg1 hat1; obtain ⟨v1A, v1c, rfl, -⟩ := hown1.form; have b4 : Below w3.heap.size w3 w4 := below_grown (Below.refl _ _) hg1 (fun g hg => by simp [Value.ownBlock] at hg) (Nat.le_refl _); obtain ⟨y0, y1, y2, y3⟩ := HC.out w4 (hB2.trans (b4.mono hB2.size)))
              have hTq := hT2.keep b4
              have hn : rowsJ a b (ta.take (k + 1)) tb on 3 = M ++ I := by rw [S1.out, HRE.out.2.2.1, HI.out, HWD.out]; simp [inD, wideB]
              have HN := Lib.hid hn
              have hB4 := hB2.trans (b4.mono hB2.size)
              clear hn
              go_wp2
              exact ⟨⟨k + 1, by omega, by go_num, by rw [HN.out]; exact hTq, hB4⟩, by simp [intOf]; omega⟩
            · go_wp2_with (first | (at_builtin; refine wpList_push rfl _ _ _ rfl w0.heap.size 63 j0 _ 24 Tryd.underlying37 hj0 hy0 hy1 hy2 rfl (by omega) u9 (M ++ I).length _ (.slice v1A x.length v1c) rfl ho3 (by simp [Act.eval]) rfl (by omega) hBzq.size ?_; intro v7 w7 hown7 hg7 hat7) | (at_builtin; refine wpList_append_Own _ rfl _ _ _ rfl w3.heap.size 112 i0 _ 4 40 Tryd.underlying63 hi0 hz0 hz1 hz2 rfl (by omega) (by omega) (.slice none 0 0) 0 [] rfl (Own.nil_ _ _ _ _) w3.heap.size A8 x.length c8 (x.flatMap rvalV) rfl hsx (rvalF_one x) (by simp only [maxLen]; omega) (by omega) (Nat.le_refl _) ?_; intro v1 w4 hown1 hg1 hat1; obtain ⟨v1A, v1c, rfl, -⟩ := hown1.form; have b4 : Below w3.heap.size w3 w4 := below_grown (Below.refl _ _) hg1 (fun g hg => by simp [Value.ownBlock] at hg) (Nat.le_refl _); obtain ⟨y0, y1, y2, y3⟩ := HC.out w4 (hB2.trans (b4.mono hB2.size)); have hTq := hT2.keep b4; have hBzq := hB2.trans (b4.mono hB2.size); obtain ⟨vs2, ho3, he3⟩ := hTq.is; have hO2 : Own w4 w3.heap.size 112 4 (.slice v1A (0 + x.length) v1c) x.length (x.flatMap rvalV) := (by simpa using hown1); (try simp only [Nat.zero_add] at hO2)))
              have hn := TabY.push (t := M ++ I) hown7 he3 hO2 hB2.size (fun g hg => (hlt1 g hg).2) hg7 hat7
              have hB7 := below_grown hBzq hg7 (fun g hg => (hTq.lt g hg).1) hBzq.size
              have hn2 : rowsJ a b (ta.take (k + 1)) tb on 3 = M ++ I ++ [x] := by rw [S1.out, HRE.out.2.2.1, HI.out, HWD.out]; simp [inD, wideB]
              exact ⟨⟨k + 1, by omega, by go_num, by rw [hn2]; exact hn, hB7⟩, by simp [intOf]; omega⟩
          · cases sm
            · go_wp2_with (first | (at_builtin; refine wpList_push rfl _ _ _ rfl w0.heap.size 63 j0 _ 24 Tryd.underlying37 hj0 hy0 hy1 hy2 rfl (by omega) u9 (M ++ I).length _ (.slice v1A x.length v1c) rfl ho3 (by simp [Act.eval]) rfl (by omega) hBzq.size ?_; intro v7 w7 hown7 hg7 hat7) | (at_builtin; refine wpList_append_Own _ rfl _ _ _ rfl w3.heap.size 112 i0 _ 4 40 Tryd.underlying63 hi0 hz0 hz1 hz2 rfl (by omega) (by omega) (.slice none 0 0) 0 [] rfl (Own.nil_ _ _ _ _) w3.heap.size A8 x.length c8 (x.flatMap rvalV) rfl hsx (rvalF_one x) (by simp only [maxLen]; omega) (by omega) (Nat.le_refl _) ?_; intro v1 w4 hown1 hg1 hat1; obtain ⟨v1A, v1c, rfl, -⟩ := hown1.form; have b4 : Below w3.heap.size w3 w4 := below_grown (Below.refl _ _) hg1 (fun g hg => by simp [Value.ownBlock] at hg) (Nat.le_refl _); obtain ⟨y0, y1, y2, y3⟩ := HC.out w4 (hB2.trans (b4.mono hB2.size)); have hTq := hT2.keep b4; have hBzq := hB2.trans (b4.mono hB2.size); obtain ⟨vs2, ho3, he3⟩ := hTq.is; have hO2 : Own w4 w3.heap.size 112 4 (.slice v1A (0 + x.length) v1c) x.length (x.flatMap rvalV) := (by simpa using hown1); (try simp only [Nat.zero_add] at hO2)))
              have hn := TabY.push (t := M ++ I) hown7 he3 hO2 hB2.size (fun g hg => (hlt1 g hg).2) hg7 hat7
              have hB7 := below_grown hBzq hg7 (fun g hg => (hTq.lt g hg).1) hBzq.size
              have hn2 : rowsJ a b (ta.take (k + 1)) tb on 4 = M ++ I ++ [x] := by rw [S1.out, HRE.out.2.2.2, HI.out, HWD.out]; simp [inD, wideB]
              exact ⟨⟨k + 1, by omega, by go_num, by rw [hn2]; exact hn, hB7⟩, by simp [intOf]; omega⟩
            · go_wp2_with (at_builtin; refine wpList_append_Own _ rfl _ _ _ rfl w3.heap.size 112 i0 _ 4 40 Tryd.underlying63 hi0 hz0 hz1 hz2 rfl (by omega) (by omega) (.slice none 0 0) 0 [] rfl (Own.nil_ _ _ _ _) w3.heap.size A8 x.length c8 (x.flatMap rvalV) rfl hsx (rvalF_one x) (by simp only [maxLen]; omega) (by omega) (Nat.le_refl _) ?_; intro v1 w4 hown1 hg1 hat1; obtain ⟨v1A, v1c, rfl, -⟩ := hown1.form; have b4 : Below w3.heap.size w3 w4 := below_grown (Below.refl _ _) hg1 (fun g hg => by simp [Value.ownBlock] at hg) (Nat.le_refl _); obtain ⟨y0, y1, y2, y3⟩ := HC.out w4 (hB2.trans (b4.mono hB2.size)))
              have hTq := hT2.keep b4
              have hn : rowsJ a b (ta.take (k + 1)) tb on 4 = M ++ I := by rw [S1.out, HRE.out.2.2.2, HI.out, HWD.out]; simp [inD, wideB]
              have HN := Lib.hid hn
              have hB4 := hB2.trans (b4.mono hB2.size)
              clear hn
              go_wp2
              exact ⟨⟨k + 1, by omega, by go_num, by rw [HN.out]; exact hTq, hB4⟩, by simp [intOf]; omega⟩
    · obtain rfl : k = ta.length := by omega
      rw [List.take_length] at hT
      have hT0 := hT.mono HB0.out.size
      clear hlt
      go_wp2
      exact HR.out _ _ ⟨_, rfl, hT0, bw⟩
end Go.Proofs.YtgiemhooeoakmaaDoor


/- Layer 23: side, row. Layer 23: row. Layer 23: find. Layer 23: Join. Steps of a drawn region that is walked by hand. Layer 23: Join. -/
import Derived.Deep.RegionHeld3
import Derived.RegionTactic
import Derived.BigCall
import Derived.Test.YtgiemhooeoakmaaDoorKI
import Derived.Test.YtgiemhooeoakmaaDoorKE
import Derived.Test.YtgiemhooeoakmaaDoorKA
import Derived.Test.YtgiemhooeoakmaaDoorKG
namespace Go.Proofs.YtgiemhooeoakmaaDoor
open Go.RowKit Go.ChangeShapes Go.WideShapes
set_option linter.unusedVariables false
set_option linter.unusedSimpArgs false

/-- A row, and other values behind it. -/
def sideP (rest : List Int) (x y : VRow) : VRow := x ++ rest.map fun i => y.getD i.toNat val0
theorem val0_cells : (valV val0) = [.int .i64 0, .string ⟨#[]⟩, .int .i64 0, .bool false] := rfl
set_option maxHeartbeats 4000000 in
set_option maxRecDepth 100000 in
theorem side_any (A1 A2 A3 : Option Addr) (n1 c1 n2 c2 n3 c3 : Nat) (vr vx vy : Value) (rest : List Int) (x y : VRow) (w : World) (hr : RdI w w.heap.size vr rest) (hx : RdV w w.heap.size vx x) (hy : RdV w w.heap.size vy y) (hl : x.length ≤ 100000) (hrl : rest.length ≤ 100000)
    (h0 : ∀ p ∈ rest, 0 ≤ p) (hb : vy = .slice none 0 0 ∨ ∀ p ∈ rest, p < y.length) :
    Calls Tryd.prog 109 #[.agg #[.slice A1 n1 c1, .slice A2 n2 c2, .slice A3 n3 c3, vr], vx, vy] w fun e w' => ∃ o, e = .returned o ∧ Own w' w.heap.size 96 4 o (sideP rest x y).length ((sideP rest x y).flatMap valV) ∧ Below w.heap.size w w' := by
  refine cps fun R HR => ?_
  obtain ⟨i0, hi0, hz0, hz1, hz2⟩ := info_parts val_info
  have hr0 := hr; have hx0 := hx; have hy0 := hy
  obtain ⟨A4, c4, rfl, -⟩ := hr.is
  obtain ⟨A5, c5, rfl, -⟩ := hx.is
  obtain ⟨A6, c6, rfl, hsy⟩ := hy.is
  have hyA : A6 = none → y = [] ∧ c6 = c6 := fun h => ⟨List.eq_nil_of_length_eq_zero (hsy.nil h), rfl⟩
  have hbb : ∀ ad, A6 = some ad → ∀ p ∈ rest, p < y.length := fun ad h => by
    rcases hb with hb | hb
    · injection hb with hb _ _; rw [h] at hb; cases hb
    · exact hb
  clear hr hx hy hsy hb
  obtain ⟨w0, hw0⟩ : ∃ w0, w0 = w.alloc (.cells #[.slice A1 n1 c1, .slice A2 n2 c2, .slice A3 n3 c3, .slice A4 rest.length c4] 130) := ⟨_, rfl⟩
  have b0 : Below w.heap.size w w0 := by rw [hw0]; exact (Below.refl _ _).alloc (Nat.le_refl _) _
  have X := Box.new w 130 #[.slice A1 n1 c1, .slice A2 n2 c2, .slice A3 n3 c3, .slice A4 rest.length c4]
  rw [← hw0] at X
  have HX := Lib.hid X; have HW0 := Lib.hid hw0; have HB0 := Lib.hid b0; have H0 := Lib.hid h0; have HBB := Lib.hid hbb; have HYA := Lib.hid hyA
  clear X hw0 b0 h0 hbb hyA
  have heq := fun (A : Option Addr) w' => Lib.run_eql_slice_nil (P := Tryd.prog) w' 61 96 A y.length c6 0 0 Tryd.underlying61
  go_enter Tryd.func109, Tryd.ntmps109
  go_wp2_with fail
  rw [← HW0.out]
  refine (cloneV_any _ x _ (RdF.next hx0 HB0.out) hl).mono ?_
  rintro e w1 ⟨o, rfl, ho1, b1⟩
  have bw1 := HB0.out.trans (b1.mono HB0.out.size)
  have X1 := HX.out.below b1 HX.out.lt
  have x3 := X1.cell 3
  simp at x3
  have hO1 := ho1.mono HB0.out.size
  have hfr := hr0.few
  clear X1 ho1
  go_wp2
  go_loopw [7, 15] (fun o i wr => ∃ k : Nat, k ≤ rest.length ∧ i = .int .i64 k ∧ Own wr w.heap.size 96 4 o (x.length + k) ((sideP (rest.take k) x y).flatMap valV) ∧ Below w.heap.size w wr) (fun _ i _ => rest.length - (intOf i).toNat)
  case atStart => exact ⟨0, Nat.zero_le _, rfl, by unfold sideP; simpa using hO1, bw1⟩
  case round =>
    obtain ⟨m, hm, rfl, hO, hB6⟩ := hrel
    by_cases hltm : m < rest.length
    · obtain ⟨p, c7, hv, hcm⟩ := (hr0.below hB6).at hltm
      injection hv with hA hln hcc
      subst hA
      subst hcc
      clear hln
      have hp0 := H0.out _ (List.getElem_mem hltm)
      have hp1 := fun ad h => HBB.out ad h _ (List.getElem_mem hltm)
      have hs3 := List.take_succ_eq_append_getElem hltm
      obtain ⟨z, hz⟩ : ∃ z, z = rest[m] := ⟨_, rfl⟩
      rw [← hz] at hcm hp0 hp1 hs3
      obtain ⟨q, rfl⟩ := Int.eq_ofNat_of_zero_le hp0
      have hs4 : sideP (rest.take (m + 1)) x y = sideP (rest.take m) x y ++ [y.getD q val0] := by
        unfold sideP
        rw [hs3, List.map_append, List.append_assoc]
        rfl
      obtain ⟨M, hM⟩ : ∃ M, M = sideP (rest.take m) x y := ⟨_, rfl⟩
      rw [← hM] at hs4 hO
      have S4 := Lib.hid hs4
      have dm : decide ((m : Int) < rest.length) = true := decide_eq_true (by omega)
      have HLT := Lib.hid hO.lt
      clear hz hs3 hp0 hs4 hM
      cases A6 with
      | none =>
        have hyn := (HYA.out rfl).1
        have S5 := Lib.hid (show (sideP (rest.take (m + 1)) x y).flatMap valV = M.flatMap valV ++ (#[.int .i64 0, .string ⟨#[]⟩, .int .i64 0, .bool false] : Array Value).toList by rw [S4.out, hyn, val_snoc]; rfl)
        have hon : ∀ u ∈ (#[.int .i64 0, .string ⟨#[]⟩, .int .i64 0, .bool false] : Array Value).toList, u.oneCell' = true := val_one val0
        have HON := Lib.hid hon
        subst hyn
        have hq := heq none
        simp only [Option.isNone_none, List.length_nil] at hq
        clear hon heq hp1
        go_wp2_with (at_builtin; refine wpList_pushF rfl _ _ _ rfl w.heap.size 96 i0 _ 4 40 Tryd.underlying61 hi0 hz0 hz1 hz2 rfl (by omega) (by omega) u7 (x.length + m) _ _ rfl rfl hO (by simp [Act.eval]) HON.out (by omega) hB6.size ?_; intro v9 w9 hown9 hg9 hat9)
        exact ⟨⟨_, _, _, ⟨m + 1, by omega, rfl, by rw [S5.out]; exact hown9, below_grown hB6 hg9 (fun g hg => (HLT.out g hg).1) hB6.size⟩, rfl, rfl, by go_num⟩, by simp [intOf]; omega⟩
      | some ad =>
        have hq1 : q < y.length := by have := hp1 ad rfl; omega
        obtain ⟨p8, c8, hv8, q0, q1, q2, q3⟩ := RdV.at (hy0.below hB6) hq1
        injection hv8 with hA hln hcc
        injection hA with hA
        subst hA
        subst hcc
        clear hln
        have hget : y.getD q val0 = y[q] := getD_at hq1
        obtain ⟨yy, hyy⟩ : ∃ yy, yy = y[q] := ⟨_, rfl⟩
        rw [← hyy] at q0 q1 q2 q3 hget
        obtain ⟨yk, ys, yn, yb⟩ := yy
        dsimp only at q0 q1 q2 q3
        have S5 := Lib.hid (show (sideP (rest.take (m + 1)) x y).flatMap valV = M.flatMap valV ++ (#[.int .i64 yk, .string ys, .int .i64 yn, .bool yb] : Array Value).toList by rw [S4.out, hget, val_snoc]; rfl)
        have hon : ∀ u ∈ (#[.int .i64 yk, .string ys, .int .i64 yn, .bool yb] : Array Value).toList, u.oneCell' = true := val_one ⟨yk, ys, yn, yb⟩
        have HON := Lib.hid hon
        have hq := heq (some ad)
        simp only [Option.isNone_some] at hq
        have hqI : (q : Int) < y.length := by omega
        clear hon heq hp1 hget hyy
        go_wp2_with (at_builtin; refine wpList_pushF rfl _ _ _ rfl w.heap.size 96 i0 _ 4 40 Tryd.underlying61 hi0 hz0 hz1 hz2 rfl (by omega) (by omega) u7 (x.length + m) _ _ rfl rfl hO (by simp [Act.eval]) HON.out (by omega) hB6.size ?_; intro v9 w9 hown9 hg9 hat9)
        exact ⟨⟨m + 1, by omega, by go_num, by rw [S5.out]; exact hown9, below_grown hB6 hg9 (fun g hg => (HLT.out g hg).1) hB6.size⟩, by simp [intOf]; omega⟩
    · obtain rfl : m = rest.length := by omega
      have hfl : x.length + rest.length = (sideP rest x y).length := by unfold sideP; rw [List.length_append, List.length_map]
      rw [List.take_length, hfl] at hO
      clear hltm hfl
      go_wp2
      exact HR.out _ _ ⟨_, rfl, hO, hB6⟩
end Go.Proofs.YtgiemhooeoakmaaDoor

namespace Go.Proofs.YtgiemhooeoakmaaDoor
open Go.RowKit Go.ChangeShapes Go.WideShapes
set_option linter.unusedVariables false
set_option linter.unusedSimpArgs false

abbrev TabV (w : World) (base : Nat) (v : Value) (t : VTab) : Prop := TabY valV 4 96 61 w base v t
/-- The rows that match, each with the other values behind it. -/
def outJ (ps : List (Int × Int)) (rest : List Int) (tb : VTab) (x : VRow) : VTab := (tb.filter (matchP ps x)).map (sideP rest x)
/-- What comes out of a row. -/
def rowJ (ps : List (Int × Int)) (rest : List Int) (tb : VTab) (x : VRow) (kind : Int) : VTab :=
  if kind = 2 ∧ (outJ ps rest tb x).length = 0 then [sideP rest x []] else if (kind = 3 ∧ 0 < (outJ ps rest tb x).length) ∨ (kind = 4 ∧ (outJ ps rest tb x).length = 0) then [x] else if wideB kind = true then outJ ps rest tb x else []
theorem outJ_snoc (ps : List (Int × Int)) (rest : List Int) (tb : VTab) (x : VRow) {k : Nat} (hk : k < tb.length) : outJ ps rest (tb.take (k + 1)) x = outJ ps rest (tb.take k) x ++ if matchP ps x tb[k] = true then [sideP rest x tb[k]] else [] := by
  unfold outJ
  rw [List.take_succ_eq_append_getElem hk, List.filter_append, List.map_append]
  congr 1
  by_cases h : matchP ps x tb[k] = true
  · rw [if_pos h]; simp [h]
  · rw [if_neg h]; simp [h]
theorem outJ_len (ps : List (Int × Int)) (rest : List Int) (tb : VTab) (x : VRow) : (outJ ps rest tb x).length ≤ tb.length := by
  unfold outJ
  rw [List.length_map]
  exact List.length_filter_le _ _
theorem vval_len (x : VRow) : (x.flatMap valV).length = x.length * 4 := flat_len valV_len
/-- A table of one row, that was just made. -/
theorem TabV.one {w : World} {base : Nat} {u : Value} {x : VRow} (hu : Own w base 96 4 u x.length (x.flatMap valV)) (hb : base ≤ w.heap.size) : TabV (w.alloc (.cells #[u] 61)) base (.slice (some ⟨w.heap.size, 0, none⟩) 1 1) [x] := by
  have b0 : Below w.heap.size w (w.alloc (.cells #[u] 61)) := (Below.refl _ _).alloc (Nat.le_refl _) _
  refine ⟨[u], ⟨⟨rfl, Nat.le_of_ble_eq_true rfl⟩, .inr ⟨w.heap.size, 1, #[u], (0, 0), rfl, hb, heap_alloc_new w _, fun j _ hj => by omega, Nat.le_refl _, by unfold maxLen; omega, rfl, rfl⟩⟩, Each.nil.cons ⟨hu.below b0 (Nat.le_refl _), ?_⟩⟩
  cases hq : u.ownBlock with
  | none => exact .inl rfl
  | some g =>
    right
    intro e
    have := (hu.lt g hq).2
    simp [Value.ownBlock] at e
    omega
set_option maxHeartbeats 8000000 in
set_option maxRecDepth 100000 in
theorem row_any (A1 : Option Addr) (n1 c1 : Nat) (vb va vr vx : Value) (tb : VTab) (ps : List (Int × Int)) (rest : List Int) (x : VRow) (kind : Int) (w : World) (hb : RdVT w w.heap.size vb tb) (ha : RdPr w w.heap.size va ps) (hr : RdI w w.heap.size vr rest) (hx : RdV w w.heap.size vx x)
    (hl : x.length ≤ 100000) (hrl : rest.length ≤ 100000) (htl : tb.length ≤ 100000) (h0 : ∀ p ∈ rest, 0 ≤ p) (h1 : ∀ y ∈ tb, ∀ p ∈ rest, p < y.length) (h2 : ∀ y ∈ tb, ∀ p ∈ ps, (0 ≤ p.1 ∧ p.1 < x.length) ∧ 0 ≤ p.2 ∧ p.2 < y.length) :
    Calls Tryd.prog 76 #[.agg #[.slice A1 n1 c1, vb, va, vr], vx, .int .i64 kind] w fun e w' => ∃ o, e = .returned o ∧ TabV w' w.heap.size o (rowJ ps rest tb x kind) ∧ Below w.heap.size w w' := by
  refine cps fun R HR => ?_
  obtain ⟨i0, hi0, hz0, hz1, hz2⟩ := info_parts vrow_info
  have hb0 := hb; have ha0 := ha; have hr0 := hr; have hx0 := hx
  obtain ⟨A2, c2, vs, rfl, -, -⟩ := hb.is
  obtain ⟨A3, c3, rfl, -⟩ := ha.is
  obtain ⟨A4, c4, rfl, -⟩ := hr.is
  obtain ⟨A5, c5, rfl, -⟩ := hx.is
  clear hb ha hr hx
  obtain ⟨Y, hY⟩ : ∃ Y, Y = rowJ ps rest tb x kind := ⟨_, rfl⟩
  rw [← hY] at HR
  unfold rowJ at hY
  obtain ⟨O, hO⟩ : ∃ O, O = outJ ps rest tb x := ⟨_, rfl⟩
  have hOl : O.length ≤ tb.length := by rw [hO]; exact outJ_len _ _ _ _
  rw [← hO] at hY
  obtain ⟨w0, hw0⟩ : ∃ w0, w0 = w.alloc (.cells #[.slice A1 n1 c1, .slice A2 tb.length c2, .slice A3 ps.length c3, .slice A4 rest.length c4] 130) := ⟨_, rfl⟩
  have b0 : Below w.heap.size w w0 := by rw [hw0]; exact (Below.refl _ _).alloc (Nat.le_refl _) _
  have X := Box.new w 130 #[.slice A1 n1 c1, .slice A2 tb.length c2, .slice A3 ps.length c3, .slice A4 rest.length c4]
  rw [← hw0] at X
  obtain ⟨g, hg⟩ : ∃ g, g = w.heap.size := ⟨_, rfl⟩
  have hg0 : g < w0.heap.size := by rw [hg]; exact X.lt
  have cells : ∀ w', Below (g + 1) w0 w' → w'.cell? ⟨g, 0, none⟩ = some (.slice A1 n1 c1) ∧ w'.cell? ⟨g, 1, none⟩ = some (.slice A2 tb.length c2) ∧ w'.cell? ⟨g, 2, none⟩ = some (.slice A3 ps.length c3) ∧ w'.cell? ⟨g, 3, none⟩ = some (.slice A4 rest.length c4) := fun w' hk => by
    have X2 := X.below hk (by rw [hg]; exact Nat.lt_succ_self _)
    rw [hg]
    exact ⟨X2.cell 0, X2.cell 1, X2.cell 2, X2.cell 3⟩
  obtain ⟨x0, x1, x2, x3⟩ := cells w0 (Below.refl _ _)
  have hs0 : w0.heap.size = g + 1 := by rw [hw0, hg]; simp
  have HC := Lib.hid cells; have HW0 := Lib.hid hw0; have HB0 := Lib.hid b0; have H0 := Lib.hid h0; have H1 := Lib.hid h1; have H2 := Lib.hid h2; have HY := Lib.hid hY; have HO := Lib.hid hO; have HG := Lib.hid hg; have HS0 := Lib.hid hs0
  clear X cells hw0 b0 h0 h1 h2 hY hO hs0
  go_enter Tryd.func76, Tryd.ntmps76
  go_wp2
  rw [← HW0.out, ← hg]
  clear hg
  go_loopw [7, 14] (fun o i wr => ∃ k : Nat, k ≤ tb.length ∧ i = .int .i64 k ∧ TabV wr w0.heap.size o (outJ ps rest (tb.take k) x) ∧ Below w0.heap.size w0 wr) (fun _ i _ => tb.length - (intOf i).toNat)
  case atStart => exact ⟨0, Nat.zero_le _, rfl, TabY.none_ _ _, Below.refl _ _⟩
  case round =>
    obtain ⟨k, hk, rfl, hT, hB⟩ := hrel
    have bw := HB0.out.trans (hB.mono HB0.out.size)
    clear x0 x1 x2 x3
    obtain ⟨x0, x1, x2, x3⟩ := HC.out wr (by rw [← HS0.out]; exact hB)
    by_cases hlt : k < tb.length
    · obtain ⟨p, c6, vy, hv, hcw, hrw⟩ := hb0.at hlt
      have hc := (bw.cell (World.block_lt_of_cell? w _ hcw)).trans hcw
      injection hv with hA hln hcc
      subst hA
      subst hcc
      clear hln hcw
      have hs1 := outJ_snoc ps rest tb x hlt
      have hm := List.getElem_mem hlt
      have hll : (outJ ps rest (tb.take k) x).length ≤ k := by have := outJ_len ps rest (tb.take k) x; rw [List.length_take] at this; omega
      obtain ⟨y, hy⟩ : ∃ y, y = tb[k] := ⟨_, rfl⟩
      rw [← hy] at hrw hs1 hm
      obtain ⟨L, hL⟩ : ∃ L, L = outJ ps rest (tb.take k) x := ⟨_, rfl⟩
      rw [← hL] at hs1 hll hT
      obtain ⟨t, ht⟩ : ∃ t, t = matchP ps x y := ⟨_, rfl⟩
      rw [← ht] at hs1
      have S1 := Lib.hid hs1; have HM := Lib.hid hm; have HT := Lib.hid ht
      have dk : decide ((k : Int) < tb.length) = true := decide_eq_true (by omega)
      have hrw0 := hrw
      obtain ⟨A6, c7, rfl, -⟩ := hrw.is
      clear hy hs1 hm hL ht hrw
      go_wp2_with fail
      refine (matches_any _ _ _ _ _ _ _ _ _ _ _ _ ps x y _ (RdF.next ha0 bw) (RdF.next hx0 bw) (RdF.next hrw0 bw) (H2.out y HM.out)).mono ?_
      rintro e w1 ⟨rfl, b1⟩
      rw [← HT.out]
      have hB1 := hB.trans (b1.mono hB.size)
      have bw1 := bw.trans (b1.mono bw.size)
      have hT1 := hT.keep b1
      clear x0 x1 x2 x3
      obtain ⟨x0, x1, x2, x3⟩ := HC.out w1 (by rw [← HS0.out]; exact hB1)
      cases t
      · have hs : outJ ps rest (tb.take (k + 1)) x = L := by rw [S1.out, if_neg (by simp), List.append_nil]
        have S2 := Lib.hid hs
        clear hs
        go_wp2
        exact ⟨⟨k + 1, by omega, by go_num, by rw [S2.out]; exact hT1, hB1⟩, by simp [intOf]; omega⟩
      · have hs : outJ ps rest (tb.take (k + 1)) x = L ++ [sideP rest x y] := by rw [S1.out, if_pos rfl]
        have S2 := Lib.hid hs
        clear hs
        go_wp2_with fail
        refine (side_any _ _ _ _ _ _ _ _ _ _ _ _ rest x y _ (hr0.next bw1) (RdF.next hx0 bw1) (RdF.next hrw0 bw1) hl hrl H0.out (.inr (H1.out y HM.out))).mono ?_
        rintro e w2 ⟨u, rfl, hu, b2⟩
        have hB2 := hB1.trans (b2.mono hB1.size)
        have hT2 := hT1.keep b2
        obtain ⟨vs2, ho3, he3⟩ := hT2.is
        have hu0 := hu
        obtain ⟨uA, uc, rfl, -⟩ := hu.form
        have hlt1 := hT1.lt
        clear hu
        go_wp2_with (at_builtin; refine wpList_push rfl _ _ _ rfl w0.heap.size 61 i0 _ 24 Tryd.underlying23 hi0 hz0 hz1 hz2 rfl (by omega) u7 L.length _ (.slice uA (sideP rest x y).length uc) rfl ho3 rfl rfl (by omega) hB2.size ?_; intro v3 w3 hown3 hg3 hat3)
        have hn := TabY.push (t := L) hown3 he3 hu0 hB1.size (fun g hg => (hlt1 g hg).2) hg3 hat3
        exact ⟨⟨k + 1, by omega, by go_num, by rw [S2.out]; exact hn, below_grown hB2 hg3 (fun g hg => (hT2.lt g hg).1) hB2.size⟩, by simp [intOf]; omega⟩
    · obtain rfl : k = tb.length := by omega
      have hO2 : outJ ps rest (tb.take tb.length) x = O := by rw [List.take_length, HO.out]
      rw [hO2] at hT
      have hT0 := hT.mono HB0.out.size
      obtain ⟨oA, oc, rfl⟩ := hT.form
      obtain ⟨w4, rfl⟩ : ∃ w4 : World, w4 = wr := ⟨_, rfl⟩
      have HT0 := Lib.hid hT0
      clear hT hO2 hlt hT0
      by_cases hk2 : kind = 2
      · subst hk2
        by_cases hol : O.length = 0
        · have hy := HY.out
          rw [if_pos ⟨rfl, hol⟩] at hy
          subst hy
          have d1 : ((O.length : Int) == 0) = true := by rw [hol]; rfl
          clear hol
          go_wp2_with fail
          refine (side_any _ _ _ _ _ _ _ _ _ _ _ _ rest x [] _ (hr0.next bw) (RdF.next hx0 bw) (RdF.nil _ _) hl hrl H0.out (.inl rfl)).mono ?_
          rintro e w2 ⟨u, rfl, hu, b2⟩
          obtain ⟨uA, uc, rfl, -⟩ := hu.form
          have hu0 := TabV.one (hu.mono bw.size) (Nat.le_trans bw.size b2.size)
          have bw2 := bw.trans (b2.mono bw.size)
          clear hu
          go_wp2
          exact HR.out _ _ ⟨_, rfl, hu0, bw2.alloc bw2.size _⟩
        · have hy := HY.out
          rw [if_neg (fun h => hol h.2), if_neg (by omega), if_pos (by decide)] at hy
          subst hy
          have d1 : ((Y.length : Int) == 0) = false := by rw [beq_eq_false_iff_ne]; omega
          have dw := wide_any 2 w4
          clear hol
          go_wp2_with fail
          refine dw.mono ?_
          rintro e w2 ⟨rfl, rfl⟩
          go_wp2
          exact HR.out _ _ ⟨_, rfl, HT0.out, bw⟩
      · have d2 : (kind == 2) = false := by rw [beq_eq_false_iff_ne]; exact hk2
        have hy := HY.out
        rw [if_neg (fun h => hk2 h.1)] at hy
        have HY2 := Lib.hid hy
        clear hy HY
        by_cases hk3 : kind = 3
        · subst hk3
          clear hk2 d2
          by_cases hol : O.length = 0
          · have hy := HY2.out
            rw [if_neg (by omega), if_neg (by decide)] at hy
            subst hy
            have d1 : decide ((O.length : Int) > 0) = false := decide_eq_false (by omega)
            have d1' : decide (0 < (O.length : Int)) = false := decide_eq_false (by omega)
            have d1n : ¬ 0 < O.length := by omega
            have dw := wide_any 3 w4
            clear hol
            go_wp2_with fail
            refine dw.mono ?_
            rintro e w2 ⟨rfl, rfl⟩
            go_wp2
            exact HR.out _ _ ⟨_, rfl, TabY.none_ _ _, bw⟩
          · have hy := HY2.out
            rw [if_pos (.inl ⟨rfl, by omega⟩)] at hy
            subst hy
            have d1' : decide (0 < (O.length : Int)) = true := decide_eq_true (by omega)
            have d1n : 0 < O.length := by omega
            clear hol
            go_wp2_with fail
            refine (cloneV_any _ x _ (RdF.next hx0 bw) hl).mono ?_
            rintro e w2 ⟨u, rfl, hu, b2⟩
            obtain ⟨uA, uc, rfl, -⟩ := hu.form
            have hu0 := TabV.one (hu.mono bw.size) (Nat.le_trans bw.size b2.size)
            have bw2 := bw.trans (b2.mono bw.size)
            clear hu
            go_wp2
            exact HR.out _ _ ⟨_, rfl, hu0, bw2.alloc bw2.size _⟩
        · have d3 : (kind == 3) = false := by rw [beq_eq_false_iff_ne]; exact hk3
          by_cases hk4 : kind = 4
          · subst hk4
            clear hk2 d2 hk3 d3
            by_cases hol : O.length = 0
            · have hy := HY2.out
              rw [if_pos (.inr ⟨rfl, hol⟩)] at hy
              subst hy
              have d1 : ((O.length : Int) == 0) = true := by rw [hol]; rfl
              clear hol
              go_wp2_with fail
              refine (cloneV_any _ x _ (RdF.next hx0 bw) hl).mono ?_
              rintro e w2 ⟨u, rfl, hu, b2⟩
              obtain ⟨uA, uc, rfl, -⟩ := hu.form
              have hu0 := TabV.one (hu.mono bw.size) (Nat.le_trans bw.size b2.size)
              have bw2 := bw.trans (b2.mono bw.size)
              clear hu
              go_wp2
              exact HR.out _ _ ⟨_, rfl, hu0, bw2.alloc bw2.size _⟩
            · have hy := HY2.out
              rw [if_neg (by omega), if_neg (by decide)] at hy
              subst hy
              have d1 : ((O.length : Int) == 0) = false := by rw [beq_eq_false_iff_ne]; omega
              have dw := wide_any 4 w4
              clear hol
              go_wp2_with fail
              refine dw.mono ?_
              rintro e w2 ⟨rfl, rfl⟩
              go_wp2
              exact HR.out _ _ ⟨_, rfl, TabY.none_ _ _, bw⟩
          · have d4 : (kind == 4) = false := by rw [beq_eq_false_iff_ne]; exact hk4
            have hy := HY2.out
            rw [if_neg (by omega)] at hy
            have HY3 := Lib.hid hy
            obtain ⟨wd, hwd⟩ : ∃ wd, wd = wideB kind := ⟨_, rfl⟩
            have dw := wide_any kind w4
            rw [← hwd] at dw
            have HWD := Lib.hid hwd
            clear hk2 hk3 hk4 hy HY2 hwd
            go_wp2_with fail
            refine dw.mono ?_
            rintro e w2 ⟨rfl, rfl⟩
            cases wd
            · have hy : Y = [] := by rw [HY3.out, ← HWD.out]; rfl
              subst hy
              go_wp2
              exact HR.out _ _ ⟨_, rfl, TabY.none_ _ _, bw⟩
            · have hy : Y = O := by rw [HY3.out, ← HWD.out]; rfl
              subst hy
              go_wp2
              exact HR.out _ _ ⟨_, rfl, HT0.out, bw⟩
end Go.Proofs.YtgiemhooeoakmaaDoor

namespace Go.Proofs.YtgiemhooeoakmaaDoor
open Go.RowKit Go.ChangeShapes Go.WideShapes
set_option linter.unusedVariables false
set_option linter.unusedSimpArgs false

/-- The pairs' columns, by their numbers. -/
def psJ (a b : List Col) (on : List OnP) : List (Int × Int) := on.map fun o => ((atC (namesC a) o.left : Int), (atC (namesC b) o.right : Int))
theorem psJ_snoc (a b : List Col) (on : List OnP) {k : Nat} (hk : k < on.length) : psJ a b (on.take (k + 1)) = psJ a b (on.take k) ++ [((atC (namesC a) on[k].left : Int), (atC (namesC b) on[k].right : Int))] := by
  unfold psJ
  rw [List.take_succ_eq_append_getElem hk, List.map_append]
  rfl
theorem pr_info : (Tryd.prog.info? 169).map (fun i => (i.zero, i.size, i.bytes)) = some (some (.agg #[.int .i64 0, .int .i64 0]), 2, 16) := by kernel_rfl
theorem boxA {w0 w1 : World} {T e : TypeId} {z0 z1 z2 z3 v0 v1 v2 v3 r : Value} {n : Nat} {xs : List Value} (b1 : Below (w0.drew.alloc (.cells #[z0, z1, z2, z3] T)).heap.size (w0.drew.alloc (.cells #[z0, z1, z2, z3] T)) w1)
    (hor : Own w1 (w0.drew.alloc (.cells #[z0, z1, z2, z3] T)).heap.size e 1 r n xs) {g : Nat} (hg : g = w0.heap.size) {wf : World} (hw : wf = (((w1.setCell ⟨g, 0, none⟩ v0).setCell ⟨g, 1, none⟩ v1).setCell ⟨g, 2, none⟩ v2).setCell ⟨g, 3, none⟩ v3) :
    Box wf g T #[v0, v1, v2, v3] ∧ Own wf w0.heap.size e 1 r n xs ∧ Below w0.heap.size w0 wf ∧ w0.heap.size ≤ g ∧ r.ownBlock ≠ some g := by
  have hs : (w0.drew.alloc (.cells #[z0, z1, z2, z3] T)).heap.size = w0.heap.size + 1 := hsz _ _
  have F := (Box.new w0.drew T #[z0, z1, z2, z3]).below b1 (by rw [hs]; exact Nat.lt_succ_self _)
  have F4 := (((F.put 0 v0).put 1 v1).put 2 v2).put 3 v3
  have hbw : Below w0.heap.size w0 w1 := keepB b1 ((Below.drew (Below.refl _ _)).alloc (Nat.le_refl _) _)
  subst hg
  subst hw
  refine ⟨by simpa using F4, (hor.mono (by rw [hs]; exact Nat.le_succ _)).agree_ (fun k hk => ?_), (((hbw.setCell (Nat.le_refl _) _).setCell (Nat.le_refl _) _).setCell (Nat.le_refl _) _).setCell (Nat.le_refl _) _, Nat.le_refl _, fun e => ?_⟩
  · have := (hor.lt k hk).1
    rw [setCell_block _ _ _ _ _ (by omega), setCell_block _ _ _ _ _ (by omega), setCell_block _ _ _ _ _ (by omega), setCell_block _ _ _ _ _ (by omega)]
  · have := (hor.lt _ e).1
    omega
theorem boxB {w0 w1 : World} {T e : TypeId} {v0 v1 v2 v3 r : Value} {n : Nat} {xs : List Value} (b1 : Below w0.drew.heap.size w0.drew w1)
    (hor : Own w1 w0.drew.heap.size e 1 r n xs) {g : Nat} (hg : g = w1.heap.size) {wf : World} (hw : wf = w1.alloc (.cells #[v0, v1, v2, v3] T)) :
    Box wf g T #[v0, v1, v2, v3] ∧ Own wf w0.heap.size e 1 r n xs ∧ Below w0.heap.size w0 wf ∧ w0.heap.size ≤ g ∧ r.ownBlock ≠ some g := by
  have hbw : Below w0.heap.size w0 w1 := keepB b1 (Below.drew (Below.refl _ _))
  subst hg
  subst hw
  refine ⟨Box.new _ _ _, hor.below ((Below.refl _ _).alloc (Nat.le_refl _) _) (Nat.le_refl _), hbw.alloc hbw.size _, hbw.size, fun e => ?_⟩
  have := (hor.lt _ e).2
  omega
theorem pr_one (p q : Nat) : ∀ u ∈ (#[.int .i64 p, .int .i64 q] : Array Value).toList, u.oneCell' = true := by
  intro u hu
  simp at hu
  rcases hu with rfl | rfl <;> rfl
theorem belowC {B : Nat} {a b : World} (h : Below B a b) : ∀ p : Addr, p.block < B → b.cell? p = a.cell? p := fun p hp => h.cell hp
theorem belowZ {B : Nat} {a b : World} (h : Below B a b) : ∀ p : Addr, p.block < B → b.frozen? p = a.frozen? p := fun p hp => h.frozen hp
set_option maxHeartbeats 8000000 in
set_option maxRecDepth 100000 in
theorem jfind_any (va ra vb rb vo : Value) (A6 A7 : Option Addr) (n6 c6 n7 c7 : Nat) (hra : ra = .slice A6 n6 c6) (hrb : rb = .slice A7 n7 c7) (a b : List Col) (on : List OnP) (w : World) (ha : RdC w w.heap.size va a) (hb : RdC w w.heap.size vb b) (ho : RdOn w w.heap.size vo on) (hlb : b.length ≤ 100000) (hlo : on.length ≤ 100000) :
    Calls Tryd.prog 75 #[.agg #[va, ra], .agg #[vb, rb], vo] w fun e w' => (∃ p r, e = .returned (.agg #[vb, rb, p, r]) ∧ Own w' w.heap.size 169 2 p on.length ((psJ a b on).flatMap prV) ∧ Own w' w.heap.size 3 1 r (othF on 0 b).length (intV (othF on 0 b))) ∧ Below w.heap.size w w' := by
  refine cps fun R HR => ?_
  subst hra hrb
  obtain ⟨i0, hi0, hz0, hz1, hz2⟩ := info_parts pr_info
  have ha0 := ha; have hb0 := hb; have ho0 := ho
  obtain ⟨A1, c1, rfl, -⟩ := ha.is
  obtain ⟨A2, c2, rfl, -⟩ := hb.is
  obtain ⟨A3, c3, rfl, -⟩ := ho.is
  clear ha hb ho
  obtain ⟨g, hg⟩ : ∃ g, g = w.heap.size := ⟨_, rfl⟩
  obtain ⟨w0, hw0⟩ : ∃ w0, w0 = ((w.alloc (.cells #[.slice A1 a.length c1, .slice A6 n6 c6] 25)).alloc (.cells #[.slice A2 b.length c2, .slice A7 n7 c7] 25)).alloc (.cells #[.slice none 0 0, .slice none 0 0, .slice none 0 0, .slice none 0 0] 130) := ⟨_, rfl⟩
  have b0 : Below w.heap.size w w0 := by rw [hw0]; exact (((Below.refl _ _).alloc (Nat.le_refl _) _).alloc (by simp) _).alloc (by simp; omega) _
  have X := ((Box.new w 25 #[.slice A1 a.length c1, .slice A6 n6 c6]).alloc (.cells #[.slice A2 b.length c2, .slice A7 n7 c7] 25)).alloc (.cells #[.slice none 0 0, .slice none 0 0, .slice none 0 0, .slice none 0 0] 130)
  have Z := (Box.new (w.alloc (.cells #[.slice A1 a.length c1, .slice A6 n6 c6] 25)) 25 #[.slice A2 b.length c2, .slice A7 n7 c7]).alloc (.cells #[.slice none 0 0, .slice none 0 0, .slice none 0 0, .slice none 0 0] 130)
  have V := Box.new ((w.alloc (.cells #[.slice A1 a.length c1, .slice A6 n6 c6] 25)).alloc (.cells #[.slice A2 b.length c2, .slice A7 n7 c7] 25)) 130 #[.slice none 0 0, .slice none 0 0, .slice none 0 0, .slice none 0 0]
  rw [← hw0] at X Z V
  simp only [hsz] at Z V
  rw [← hg] at X Z V
  have hs0 : w0.heap.size = g + 3 := by rw [hw0, hg]; simp
  have z0 := Z.cell 0
  have z1 := Z.cell 1
  simp at z0 z1
  have mk : ∀ w', Below w0.heap.size w0 w' → w'.cell? ⟨g + 1, 0, none⟩ = some (.slice A2 b.length c2) ∧ w'.cell? ⟨g + 1, 1, none⟩ = some (.slice A7 n7 c7) ∧ Below w0.heap.size w0 w' := fun w' hk => by
    have Z2 := Z.below hk Z.lt
    exact ⟨Z2.cell 0, Z2.cell 1, hk⟩
  have HX := Lib.hid X; have HZ := Lib.hid Z; have HV := Lib.hid V; have HW0 := Lib.hid hw0; have HB0 := Lib.hid b0; have HG := Lib.hid hg; have MK := Lib.hid mk
  clear X Z V hw0 b0 mk z0 z1
  go_enter Tryd.func75, Tryd.ntmps75
  go_wp2
  rw [← HW0.out, ← hg]
  clear hg
  go_region_held3 (fun w' => w'.cell? ⟨g + 1, 0, none⟩ = some (.slice A2 b.length c2) ∧ w'.cell? ⟨g + 1, 1, none⟩ = some (.slice A7 n7 c7) ∧ Below w0.heap.size w0 w') (first | (exact MK.out _ (Below.drew (Below.refl _ _))) | (go_split_ands; exact MK.out _ cb1) | (go_split_ands; exact MK.out _ (by assumption)) | (go_split_ands; exact MK.out _ (keepB (by assumption) (by assumption))) | (go_split_ands; exact MK.out _ (Below.alloc (by assumption) (Below.size (by assumption)) _)) | (go_split_ands; refine ⟨by go_simp, by go_simp, Below.setCell (Below.setCell (Below.setCell (Below.setCell (by assumption) (by simp [hs0]) _) (by simp [hs0]) _) (by simp [hs0]) _) (by simp [hs0]) _⟩) | go_keep)
    (first | (go_at_call 80; go_split_ands; refine (others_any _ _ b on _ (RdF.next hb0 (HB0.out.trans (Below.mono (by assumption) HB0.out.size))) (RdF.next ho0 (HB0.out.trans (Below.mono (by assumption) HB0.out.size))) hlb).mono ?_; rintro e w1 ⟨r, rfl, hor, b1⟩; have cb1 : Below w0.heap.size w0 w1 := keepB b1 (by assumption); obtain ⟨rA, rc, rfl, -⟩ := hor.form; have kc := belowC b1; have kz := belowZ b1))
  all_goals
    have HOR := Lib.hid hor; have CB1 := Lib.hid cb1; have B1 := Lib.hid b1
    clear kc kz
    first
    | (obtain ⟨gf, hgf⟩ : ∃ gf, gf = g + 3 := ⟨_, rfl⟩
       obtain ⟨wf, hwf⟩ : ∃ wf, wf = (((w1.setCell ⟨gf, 0, none⟩ (.slice A2 b.length c2)).setCell ⟨gf, 1, none⟩ (.slice A7 n7 c7)).setCell ⟨gf, 2, none⟩ (.slice none 0 0)).setCell ⟨gf, 3, none⟩ (.slice rA (othF on 0 b).length rc) := ⟨_, rfl⟩
       obtain ⟨hF, hOr, hbf, hgf2, hne⟩ := boxA B1.out HOR.out (hgf.trans hs0.symm) hwf
       rw [← hgf, ← hwf])
    | (obtain ⟨gf, hgf⟩ : ∃ gf, gf = w1.heap.size := ⟨_, rfl⟩
       obtain ⟨wf, hwf⟩ : ∃ wf, wf = w1.alloc (.cells #[.slice A2 b.length c2, .slice A7 n7 c7, .slice none 0 0, .slice rA (othF on 0 b).length rc] 130) := ⟨_, rfl⟩
       obtain ⟨hF, hOr, hbf, hgf2, hne⟩ := boxB B1.out HOR.out hgf hwf
       rw [← hgf, ← hwf])
    clear hgf hwf hor cb1 b1 HOR CB1 B1
    have HNE := Lib.hid hne; have HGF := Lib.hid hgf2
    obtain ⟨O, hO⟩ : ∃ O, O = othF on 0 b := ⟨_, rfl⟩
    rw [← hO] at hF hOr HNE HR ⊢
    clear hne hgf2 hO
    go_wp2
    go_loopw [24] (fun i wr => ∃ (k : Nat) (va : Value), k ≤ on.length ∧ i = .int .i64 k ∧ Box wr gf 130 #[.slice A2 b.length c2, .slice A7 n7 c7, va, .slice rA O.length rc] ∧ Own wr w0.heap.size 169 2 va k ((psJ a b (on.take k)).flatMap prV) ∧ va.ownBlock ≠ some gf ∧ Apart va (.slice rA O.length rc) ∧ Own wr w0.heap.size 3 1 (.slice rA O.length rc) O.length (intV O) ∧ Below w0.heap.size w0 wr) (fun i _ => on.length - (intOf i).toNat)
    case atStart => exact ⟨0, .slice none 0 0, Nat.zero_le _, rfl, hF, Own.nil_ _ _ _ _, (fun h => by cases h), (fun k h => by cases h), hOr, hbf⟩
    case round =>
      obtain ⟨k, va, hk, rfl, hFr, hV, hvg, hap, hOq, hB⟩ := hrel
      have bw := HB0.out.trans (hB.mono HB0.out.size)
      have hgB := HGF.out
      by_cases hlt : k < on.length
      · obtain ⟨p, c8, hv, q0, q1⟩ := RdOn.at (RdF.next ho0 bw) hlt
        injection hv with hA hln hcc
        subst hA
        subst hcc
        clear hln
        have hs1 := psJ_snoc a b on hlt
        obtain ⟨x, hx⟩ : ∃ x, x = on[k] := ⟨_, rfl⟩
        rw [← hx] at q0 q1 hs1
        obtain ⟨xl, xr⟩ := x
        dsimp only at q0 q1 hs1
        obtain ⟨pa, hpa⟩ : ∃ n, n = atC (namesC a) xl := ⟨_, rfl⟩
        obtain ⟨pb, hpb⟩ : ∃ n, n = atC (namesC b) xr := ⟨_, rfl⟩
        rw [← hpa, ← hpb] at hs1
        have S1 := Lib.hid hs1; have HPA := Lib.hid hpa; have HPB := Lib.hid hpb
        have dk : decide ((k : Int) < on.length) = true := decide_eq_true (by omega)
        have x0 := (HX.out.below hB HX.out.lt).cell 0
        simp at x0
        have lx := (HX.out.below hB HX.out.lt).lt
        have bo := (Below.refl wr.heap.size wr).alloc (Nat.le_refl _) (.cells #[.string xl, .string xr] 125)
        obtain ⟨ws, hws⟩ : ∃ ws, ws = wr.alloc (.cells #[.string xl, .string xr] 125) := ⟨_, rfl⟩
        have ON := Box.new wr 125 #[.string xl, .string xr]
        rw [← hws] at bo ON
        have bws := bw.trans (bo.mono bw.size)
        have HON := Lib.hid ON; have HWS := Lib.hid hws; have HFR := Lib.hid hFr; have HV1 := Lib.hid hV; have HVG := Lib.hid hvg; have HAP := Lib.hid hap; have HOQ := Lib.hid hOq
        clear hx hs1 hpa hpb ON hws hFr hV hvg hap hOq
        go_wp2_with fail
        rw [← HWS.out]
        refine (find_any _ a xl _ (RdF.next ha0 bws)).mono ?_
        rintro e w2 ⟨rfl, b2⟩
        obtain ⟨ff, hff⟩ : ∃ f, f = findC a xl := ⟨_, rfl⟩
        rw [← hff, ← HPA.out]
        obtain ⟨f1, f2, f3⟩ := ff
        dsimp only
        have bo2 := bo.trans (b2.mono bo.size)
        have hB2 := hB.trans (bo2.mono hB.size)
        have bw2 := bw.trans (bo2.mono bw.size)
        have z0 := (HZ.out.below hB2 HZ.out.lt).cell 0
        have lz := (HZ.out.below hB2 HZ.out.lt).lt
        have o1 := (HON.out.below b2 HON.out.lt).cell 1
        have lo := (HON.out.below b2 HON.out.lt).lt
        simp at z0 o1
        have bo3 := bo2.alloc bo2.size (.cells #[.string f1, .int .i64 f2, .bool f3] 99)
        have bw3 := bw.trans (bo3.mono bw.size)
        clear hff x0 lx
        go_wp2_with fail
        refine (find_any _ b xr _ (RdF.next hb0 bw3)).mono ?_
        rintro e w4 ⟨rfl, b4⟩
        obtain ⟨ff, hff⟩ : ∃ f, f = findC b xr := ⟨_, rfl⟩
        rw [← hff, ← HPB.out]
        obtain ⟨h1, h2, h3⟩ := ff
        dsimp only
        have bo4 := bo3.trans (b4.mono bo3.size)
        have bo5 := bo4.alloc bo4.size (.cells #[.string h1, .int .i64 h2, .bool h3] 99)
        obtain ⟨w5, hw5⟩ : ∃ w5, w5 = w4.alloc (.cells #[.string h1, .int .i64 h2, .bool h3] 99) := ⟨_, rfl⟩
        have F4 := HFR.out.below bo4 HFR.out.lt
        have F5 := HFR.out.below bo5 HFR.out.lt
        have V5 := HV1.out.below bo5 (Nat.le_refl _)
        have O5 := HOQ.out.below bo5 (Nat.le_refl _)
        have hB5 := hB.trans (bo5.mono hB.size)
        rw [← hw5] at F5 V5 O5 hB5
        have f4 := F4.cell 2
        have lf := F4.lt
        simp at f4
        have lf5 : gf < w5.heap.size := F5.lt
        subst hw5
        have HF5 := Lib.hid F5; have HV5 := Lib.hid V5; have HO5 := Lib.hid O5; have HB5 := Lib.hid hB5; have HLF := Lib.hid lf5
        have VL := Lib.hid V5.lt
        have OL := Lib.hid O5.lt
        clear hff F4 F5 V5 O5 hB5 z0 lz o1 lo lf5
        go_wp2_with (at_builtin; refine wpList_pushF rfl _ _ _ rfl w0.heap.size 169 i0 _ 2 16 Tryd.underlying128 hi0 hz0 hz1 hz2 rfl (by omega) (by omega) va k _ #[.int .i64 pa, .int .i64 pb] rfl rfl HV5.out (by simp [Act.eval]) (pr_one pa pb) (by omega) HB5.out.size ?_; intro v9 w9 hown9 hg9 hat9; obtain ⟨vA, vc, rfl, -⟩ := hown9.form; have F9 := HF5.out.grown hg9 (fun e => HVG.out e.symm); have f9 := F9.cell 2; have k9 := F9.frozen 2; have l9 := F9.lt; simp at f9; have HF9 := Lib.hid F9; have HN9 := Lib.hid hown9; clear F9)
        have hvg9 : (Value.slice vA (k + 1) vc).ownBlock ≠ some gf := by
          rcases hat9 with h | ⟨g2, h, hge⟩
          · rw [h]; exact HVG.out
          · rw [h]; intro e; injection e with e; have := HLF.out; omega
        have hap9 := apart_push HAP.out (fun k hk => (OL.out k hk).2) hat9
        have hO9 := HO5.out.kept hg9 (own_ne HAP.out)
        have hB9 := below_grown HB5.out hg9 (fun k hk => (VL.out k hk).1) HB5.out.size
        have hsc := grownBy_setCell w9 gf 2 (.slice vA (k + 1) vc)
        exact ⟨⟨k + 1, _, by omega, by go_num, by simpa using HF9.out.put 2 (.slice vA (k + 1) vc), by rw [S1.out]; simpa [prV] using HN9.out.kept hsc (.inr hvg9), hvg9, hap9, hO9.kept hsc (.inr HNE.out), hB9.setCell hgB _⟩, by simp [intOf]; omega⟩
      · obtain rfl : k = on.length := by omega
        rw [List.take_length] at hV
        have bfin := hB
        have f0 := hFr.cell 0
        have f1 := hFr.cell 1
        have f2 := hFr.cell 2
        have f3 := hFr.cell 3
        have V1 := HV.out.below hB HV.out.lt
        have v0 := V1.cell 0
        have v1 := V1.cell 1
        have v2 := V1.cell 2
        have v3 := V1.cell 3
        have k0 := V1.frozen 0
        have k1 := V1.frozen 1
        have k2 := V1.frozen 2
        have k3 := V1.frozen 3
        simp at f0 f1 f2 f3 v0 v1 v2 v3
        obtain ⟨vA, vc, rfl, -⟩ := hV.form
        have V4 := (((V1.put 0 (.slice A2 b.length c2)).put 1 (.slice A7 n7 c7)).put 2 (.slice vA on.length vc)).put 3 (.slice rA O.length rc)
        have y0 := V4.cell 0
        have y1 := V4.cell 1
        have y2 := V4.cell 2
        have y3 := V4.cell 3
        simp at y0 y1 y2 y3
        have hgg : gf ≠ g + 1 + 1 := by have := hgB; omega
        have hkv : ∀ q, w0.heap.size ≤ q → ((((wr.setCell ⟨g + 1 + 1, 0, none⟩ (.slice A2 b.length c2)).setCell ⟨g + 1 + 1, 1, none⟩ (.slice A7 n7 c7)).setCell ⟨g + 1 + 1, 2, none⟩ (.slice vA on.length vc)).setCell ⟨g + 1 + 1, 3, none⟩ (.slice rA O.length rc)).heap[q]? = wr.heap[q]? := fun q hq => by
          rw [setCell_block _ _ _ _ _ (by omega), setCell_block _ _ _ _ _ (by omega), setCell_block _ _ _ _ _ (by omega), setCell_block _ _ _ _ _ (by omega)]
        have r1 := (hV.agree_ fun q hq => hkv q (hV.lt q hq).1).mono HB0.out.size
        have r2 := (hOq.agree_ fun q hq => hkv q (hOq.lt q hq).1).mono HB0.out.size
        have hwz : w.heap.size ≤ g + 1 + 1 := by have := HG.out; omega
        have hBf := (((bw.setCell (p := ⟨g + 1 + 1, 0, none⟩) hwz (.slice A2 b.length c2)).setCell (p := ⟨g + 1 + 1, 1, none⟩) hwz (.slice A7 n7 c7)).setCell (p := ⟨g + 1 + 1, 2, none⟩) hwz (.slice vA on.length vc)).setCell (p := ⟨g + 1 + 1, 3, none⟩) hwz (.slice rA O.length rc)
        have HR1 := Lib.hid r1; have HR2 := Lib.hid r2; have HBF := Lib.hid hBf
        clear r1 r2 hBf hkv V4 V1 hV hOq hFr
        go_wp2
        refine bodyPost_ret (v := .agg #[.slice A2 b.length c2, .slice A7 n7 c7, .slice vA on.length vc, .slice rA O.length rc]) (by simp [results, Tryd.results75, go_sem, y0, y1, y2, y3]) rfl (HR.out _ _ ⟨⟨_, _, rfl, HR1.out, HR2.out⟩, HBF.out⟩)
end Go.Proofs.YtgiemhooeoakmaaDoor

namespace Go.Proofs.YtgiemhooeoakmaaDoor
open Go.RowKit Go.ChangeShapes Go.WideShapes
set_option linter.unusedVariables false
set_option linter.unusedSimpArgs false

theorem pairF_mem (a b : List Col) (on : List OnP) : ∀ (r : List OnP) (j : Nat), (pairF a b on j r).2 = 0 → ∀ o ∈ r, o.left ∈ namesC a ∧ o.right ∈ namesC b
  | [], j, h, o, ho => by cases ho
  | x :: r, j, h, o, ho => by
    rw [pairF] at h
    split at h
    · rename_i h1; exact absurd h h1
    · rename_i h1
      rcases List.mem_cons.1 ho with rfl | ho
      · simp only [ne_eq, Decidable.not_not] at h1
        unfold pairC at h1
        split at h1
        · rename_i h2; exact h2
        · cases h1
      · exact pairF_mem a b on r (j + 1) h o ho
theorem jchk_mem {a b : List Col} {on : List OnP} {kind : Int} (h : (jchk a b on kind).2 = 0) : ∀ o ∈ on, o.left ∈ namesC a ∧ o.right ∈ namesC b := by
  unfold jchk at h
  split at h
  · rename_i h1; exact absurd h h1
  · split at h
    · rename_i h1; exact absurd h h1
    · split at h
      · cases h
      · split at h
        · cases h
        · split at h
          · rename_i h1; exact absurd h h1
          · rename_i h1
            exact pairF_mem a b on on 0 (by simpa using h1)
theorem psJ_in {a b : List Col} {on : List OnP} (h : ∀ o ∈ on, o.left ∈ namesC a ∧ o.right ∈ namesC b) : ∀ p ∈ psJ a b on, (0 ≤ p.1 ∧ p.1 < a.length) ∧ 0 ≤ p.2 ∧ p.2 < b.length := fun p hp => by
  unfold psJ at hp
  obtain ⟨o, ho, rfl⟩ := List.mem_map.1 hp
  have h1 := atC_lt (h o ho).1
  have h2 := atC_lt (h o ho).2
  rw [namesC_len] at h1 h2
  dsimp only
  omega
def joinE (a b : List Col) (ta tb : VTab) (on : List OnP) (kind : Int) : Nat := if (jchk a b on kind).2 ≠ 0 then (jchk a b on kind).2 else if (fitsB a.length ta && fitsB b.length tb) = true then 0 else 10
def rowsJ (a b : List Col) (ta tb : VTab) (on : List OnP) (kind : Int) : VTab := ta.flatMap fun x => rowJ (psJ a b on) (othF on 0 b) tb x kind
theorem rowJ_len (ps : List (Int × Int)) (rest : List Int) (tb : VTab) (x : VRow) (kind : Int) : (rowJ ps rest tb x kind).length ≤ tb.length + 1 := by
  unfold rowJ
  have := outJ_len ps rest tb x
  split
  · simp
  · split
    · simp
    · split
      · omega
      · simp
theorem TabX.more_ {α : Type} {f : α → List Value} {s : Nat} {e : TypeId} {w w' : World} {base n m : Nat} {v v' : Value} {t t2 : List (List α)} {vs us : List Value} (h1 : Own w' base e 1 v' (n + m) (vs ++ us)) (hn : n = t.length) (hm : m = t2.length) (h2 : Each (RdX f s w v.ownBlock) vs t) (hu : Each (RdX f s w v.ownBlock) us t2)
    (hg : w.grownBy w' v.ownBlock) (hr : v'.ownBlock = v.ownBlock ∨ ∃ g, v'.ownBlock = some g ∧ w.heap.size ≤ g) : TabX f s e w' base v' (t ++ t2) :=
  ⟨vs ++ us, by rw [List.length_append, ← hn, ← hm]; exact h1, (h2.append hu).imp fun _ _ h => h.turn hg hr⟩
theorem TabY.more_ {α : Type} {f : α → List Value} {s : Nat} {er et : TypeId} {w w' : World} {base n m lo : Nat} {v v' : Value} {t t2 : List (List α)} {vs us : List Value} (h1 : Own w' base et 1 v' (n + m) (vs ++ us)) (hn : n = t.length) (hm : m = t2.length)
    (h2 : Each (fun u l => Own w base er s u l.length (l.flatMap f) ∧ (u.ownBlock = none ∨ u.ownBlock ≠ v.ownBlock)) vs t) (hu : Each (fun u l => Own w lo er s u l.length (l.flatMap f)) us t2) (hlo : base ≤ lo) (hv : ∀ g, v.ownBlock = some g → g < lo)
    (hg : w.grownBy w' v.ownBlock) (hat : v'.ownBlock = v.ownBlock ∨ ∃ g, v'.ownBlock = some g ∧ w.heap.size ≤ g) : TabY f s er et w' base v' (t ++ t2) := by
  have tr : ∀ (u : Value) (l : List α), Own w base er s u l.length (l.flatMap f) → (u.ownBlock = none ∨ u.ownBlock ≠ v.ownBlock) → Own w' base er s u l.length (l.flatMap f) ∧ (u.ownBlock = none ∨ u.ownBlock ≠ v'.ownBlock) := fun u l q1 q2 => by
    refine ⟨q1.kept hg q2, ?_⟩
    rcases q2 with q2 | q2
    · exact .inl q2
    · rcases hat with ha | ⟨g, ha, hge⟩
      · exact .inr (by rw [ha]; exact q2)
      · right
        rw [ha]
        intro hh
        have := (q1.lt g hh).2
        omega
  refine ⟨vs ++ us, by rw [List.length_append, ← hn, ← hm]; exact h1, (h2.imp fun u l ⟨q1, q2⟩ => tr u l q1 q2).append (hu.imp fun u l q => tr u l (q.mono hlo) ?_)⟩
  cases hq : u.ownBlock with
  | none => exact .inl rfl
  | some g =>
    right
    intro hh
    have h8 := hv g hh.symm
    have h7 := (q.lt g hq).1
    omega
theorem rowsY_one {w : World} {lo : Nat} {e : TypeId} {us : List Value} {t : VTab} (h : Each (fun u l => Own w lo e 4 u l.length (l.flatMap valV)) us t) : ∀ u ∈ us, u.oneCell' = true := fun u hu => by
  obtain ⟨i, hi, rfl⟩ := List.mem_iff_getElem.1 hu
  have hr := h.at_ i _ _ (List.getElem?_eq_getElem hi) (List.getElem?_eq_getElem (by rw [← h.len]; exact hi))
  obtain ⟨A, c, h1, -⟩ := hr.form
  rw [h1]
  rfl
theorem rows_one {w : World} {row : Option Nat} {us : List Value} {t : VTab} (h : Each (RdX valV 4 w row) us t) : ∀ u ∈ us, u.oneCell' = true := fun u hu => by
  obtain ⟨i, hi, rfl⟩ := List.mem_iff_getElem.1 hu
  exact (h.at_ i _ _ (List.getElem?_eq_getElem hi) (List.getElem?_eq_getElem (by rw [← h.len]; exact hi))).one
theorem tab_info : (Tryd.prog.info? 25).map (fun i => (i.zero, i.size)) = some (some (.agg #[.slice none 0 0, .slice none 0 0]), 2) := by kernel_rfl
end Go.Proofs.YtgiemhooeoakmaaDoor

namespace Go.Proofs.YtgiemhooeoakmaaDoor
open Go.RowKit
set_option linter.unusedVariables false
set_option linter.unusedSimpArgs false

/-- A call of a Go function, by its contract. -/
theorem wp_call_ex {P : Program} {o : Oper} {a : Act} {w : World} {K : Act → World → Prop} {Q : Exit → Act → World → Prop} {f : FuncId} {args : Array Value} {R : Value → World → Prop}
    (ho : (execOp a.eval o).run P w = .ok (.enter f args) w) (hc : Calls P f args w fun e w' => ∃ v, e = .returned v ∧ R v w') (h : ∀ v w', R v w' → K (a.put o.dst v) w') : Oper.wp P o a w K Q := by
  unfold Oper.wp
  rw [ho]
  exact hc.mono fun e w' ⟨v, he, hr⟩ => by subst he; exact h v w' hr
theorem run_callFunc_go {P : Program} {f : FuncId} {fn : Func} (h : P.funcs[f]? = some fn) (hn : (fn.name == "runtime.NumGoroutine") = false) (hb : fn.body.isNone = false) (args : Array Value) (w : World) : (callFunc f args).run P w = .ok (.enter f args) w := by
  have hn2 : fn.name ≠ "runtime.NumGoroutine" := by simpa using hn
  have hb2 : fn.body ≠ none := by intro e; rw [e] at hb; cases hb
  unfold callFunc
  simp [h, hn2, hb2]
theorem wp_call_go {P : Program} {a : Act} {w : World} {K : Act → World → Prop} {Q : Exit → Act → World → Prop} {f : FuncId} {fn : Func} {args : Array Value} {R : Value → World → Prop} {dst : Option Tmp} {xs : Array Operand} {ats : Array TypeId} {ty : TypeId} {pos : String} {after : Array Edge} {guard : Option (Nat × Bool)}
    (hf : P.funcs[f]? = some fn) (hn : (fn.name == "runtime.NumGoroutine") = false) (hb : fn.body.isNone = false) (hx : xs.map a.eval = args) (hc : Calls P f args w fun e w' => ∃ v, e = .returned v ∧ R v w') (h : ∀ v w', R v w' → K (a.put dst v) w') :
    Oper.wp P { dst, op := .call { callee := .value (.func f), args := xs, argTypes := ats }, type := ty, pos, after, guard } a w K Q :=
  wp_call_ex (by rw [execOp_call_go, run_callFunc_go hf hn hb]; simp [hx]) hc h
theorem wp_append_lit {P : Program} {a : Act} {w : World} {K : Act → World → Prop} {Q : Exit → Act → World → Prop} {s x : Operand} {t ty : TypeId} {dst : Option Tmp} {pos : String} {after : Array Edge} {guard : Option (Nat × Bool)}
    (base : Nat) (e : TypeId) (i : TypeInfo) (z : Value) (size bytes : Nat) (ht : P.underlying t = some (.slice e)) (hi : P.info? e = some i) (hz : i.zero = some z)
    (hsize : i.size = size) (hby : i.bytes = bytes) (hzs : z.cells.size = size) (hsz : 0 < size) (hbp : 0 < bytes)
    (v : Value) (n : Nat) (xs : List Value) (hown : Own w base e size v n xs)
    (B : Nat) (A : Option Addr) (m c : Nat) (news : List Value) (hr : Sl w B size A m c news) (h1 : ∀ u ∈ news, u.oneCell' = true)
    (h63 : n + m ≤ maxLen) (hbytes : (n + m) * bytes ≤ 140737488355328) (hbase : base ≤ w.heap.size) (hs : a.eval s = v) (hx : a.eval x = .slice A m c)
    (h : ∀ v' w', Own w' base e size v' (n + m) (xs ++ news) → w.grownBy w' v.ownBlock → (v'.ownBlock = v.ownBlock ∨ ∃ g, v'.ownBlock = some g ∧ w.heap.size ≤ g) → K (a.put dst v') w') :
    Oper.wp P { dst, op := .call { callee := .builtin .append, args := #[s, x], argTypes := #[t, t] }, type := ty, pos, after, guard } a w K Q :=
  wp_append_Own w s x t rfl base e i z size bytes ht hi hz hsize hby hzs hsz hbp v n xs hs hown B A m c news hx hr h1 h63 hbytes hbase (fun v' w' q1 q2 q3 => h v' w' q1 q2 (by
    rcases q3 with q3 | q3
    · exact .inl q3
    · exact .inr ⟨_, q3, Nat.le_refl _⟩))
end Go.Proofs.YtgiemhooeoakmaaDoor

namespace Go.Proofs.YtgiemhooeoakmaaDoor
open Go.RowKit Go.ChangeShapes Go.WideShapes
set_option linter.unusedVariables false
set_option linter.unusedSimpArgs false

set_option maxHeartbeats 8000000 in
set_option maxRecDepth 100000 in
theorem join_any (va ra vb rb vo : Value) (a b : List Col) (ta tb : VTab) (on : List OnP) (kind : Int) (w : World) (ha : RdC w w.heap.size va a) (hta : RdVT w w.heap.size ra ta) (hb : RdC w w.heap.size vb b) (htb : RdVT w w.heap.size rb tb) (ho : RdOn w w.heap.size vo on)
    (hla : a.length ≤ 100000) (hlb : b.length ≤ 100000) (hlo : on.length ≤ 100000) (hlta : ta.length ≤ 1000) (hltb : tb.length ≤ 1000) (hca : ∀ c ∈ a, c.name.size ≤ 100000) (hcb : ∀ c ∈ b, c.name.size ≤ 100000) (hT : Tab w) :
    Calls Tryd.prog 28 #[.agg #[va, ra], .agg #[vb, rb], vo, .int .i64 kind] w fun e w' => (∃ p r, e = .returned (.tuple #[.agg #[p, r], .int .i64 (joinE a b ta tb on kind)]) ∧ RdC w' w'.heap.size p (if joinE a b ta tb on kind = 0 then colsJ a b on kind else []) ∧ RdVT w' w'.heap.size r (if joinE a b ta tb on kind = 0 then rowsJ a b ta tb on kind else [])) ∧ Below w.heap.size w w' := by
  refine cps fun R HR => ?_
  obtain ⟨i0, hi0, hz0, hz1, hz2⟩ := info_parts vrow_info
  have ha0 := ha; have hta0 := hta; have hb0 := hb; have htb0 := htb; have ho0 := ho
  obtain ⟨A1, c1, rfl, -⟩ := ha.is
  obtain ⟨A2, c2, vs2, rfl, -, -⟩ := hta.is
  obtain ⟨A3, c3, rfl, -⟩ := hb.is
  obtain ⟨A4, c4, vs4, rfl, -, -⟩ := htb.is
  obtain ⟨A5, c5, rfl, -⟩ := ho.is
  clear ha hta hb htb ho
  obtain ⟨E, hE⟩ : ∃ E, E = joinE a b ta tb on kind := ⟨_, rfl⟩
  rw [← hE] at HR
  unfold joinE at hE
  obtain ⟨g, hg⟩ : ∃ g, g = w.heap.size := ⟨_, rfl⟩
  obtain ⟨w0, hw0⟩ : ∃ w0, w0 = ((w.alloc (.cells #[.slice A1 a.length c1, .slice A2 ta.length c2] 25)).alloc (.cells #[.slice A3 b.length c3, .slice A4 tb.length c4] 25)).alloc (.cells #[.slice none 0 0, .slice none 0 0] 25) := ⟨_, rfl⟩
  have b0 : Below w.heap.size w w0 := by rw [hw0]; exact (((Below.refl _ _).alloc (Nat.le_refl _) _).alloc (by simp) _).alloc (by simp; omega) _
  have X := ((Box.new w 25 #[.slice A1 a.length c1, .slice A2 ta.length c2]).alloc (.cells #[.slice A3 b.length c3, .slice A4 tb.length c4] 25)).alloc (.cells #[.slice none 0 0, .slice none 0 0] 25)
  have Z := (Box.new (w.alloc (.cells #[.slice A1 a.length c1, .slice A2 ta.length c2] 25)) 25 #[.slice A3 b.length c3, .slice A4 tb.length c4]).alloc (.cells #[.slice none 0 0, .slice none 0 0] 25)
  have V := Box.new ((w.alloc (.cells #[.slice A1 a.length c1, .slice A2 ta.length c2] 25)).alloc (.cells #[.slice A3 b.length c3, .slice A4 tb.length c4] 25)) 25 #[.slice none 0 0, .slice none 0 0]
  rw [← hw0] at X Z V
  simp only [hsz] at Z V
  rw [← hg] at X Z V
  have hs0 : w0.heap.size = g + 3 := by rw [hw0, hg]; simp
  have cells : ∀ w', Below w0.heap.size w0 w' → w'.cell? ⟨g, 0, none⟩ = some (.slice A1 a.length c1) ∧ w'.cell? ⟨g, 1, none⟩ = some (.slice A2 ta.length c2) ∧ w'.cell? ⟨g + 1, 0, none⟩ = some (.slice A3 b.length c3) ∧ w'.cell? ⟨g + 1, 1, none⟩ = some (.slice A4 tb.length c4) := fun w' hk => by
    have X2 := X.below hk X.lt
    have Z2 := Z.below hk Z.lt
    exact ⟨X2.cell 0, X2.cell 1, Z2.cell 0, Z2.cell 1⟩
  have res : ∀ w', Below w0.heap.size w0 w' → w'.cell? ⟨g + 1 + 1, 0, none⟩ = some (.slice none 0 0) ∧ w'.cell? ⟨g + 1 + 1, 1, none⟩ = some (.slice none 0 0) ∧ w'.frozen? ⟨g + 1 + 1, 0, none⟩ = false ∧ w'.frozen? ⟨g + 1 + 1, 1, none⟩ = false := fun w' hk => by
    have V2 := V.below hk V.lt
    exact ⟨V2.cell 0, V2.cell 1, V2.frozen 0, V2.frozen 1⟩
  have fin : ∀ (w' : World) (p q : Value), Below w0.heap.size w0 w' → ((w'.setCell ⟨g + 1 + 1, 0, none⟩ p).setCell ⟨g + 1 + 1, 1, none⟩ q).cell? ⟨g + 1 + 1, 0, none⟩ = some p ∧ ((w'.setCell ⟨g + 1 + 1, 0, none⟩ p).setCell ⟨g + 1 + 1, 1, none⟩ q).cell? ⟨g + 1 + 1, 1, none⟩ = some q ∧ Below w.heap.size w ((w'.setCell ⟨g + 1 + 1, 0, none⟩ p).setCell ⟨g + 1 + 1, 1, none⟩ q) := fun w' p q hk => by
    have V4 := ((V.below hk V.lt).put 0 p).put 1 q
    have y0 := V4.cell 0
    have y1 := V4.cell 1
    simp at y0 y1
    have hwz : w.heap.size ≤ g + 1 + 1 := by omega
    have bw := b0.trans (hk.mono b0.size)
    exact ⟨y0, y1, (bw.setCell (p := ⟨g + 1 + 1, 0, none⟩) hwz p).setCell (p := ⟨g + 1 + 1, 1, none⟩) hwz q⟩
  obtain ⟨x0, x1, z0, z1⟩ := cells w0 (Below.refl _ _)
  have CELLS := Lib.hid cells; have RES := Lib.hid res; have FIN := Lib.hid fin; have HW0 := Lib.hid hw0; have HB0 := Lib.hid b0; have HG := Lib.hid hg; have HE := Lib.hid hE; have HCA := Lib.hid hca; have HCB := Lib.hid hcb; have HT := Lib.hid hT; have HS0 := Lib.hid hs0
  clear X Z V cells res fin hw0 b0 hE hca hcb hT hs0
  obtain ⟨Y, hY⟩ : ∃ Y, Y = jchk a b on kind := ⟨_, rfl⟩
  have HY := Lib.hid hY
  clear hY
  go_enter Tryd.func28, Tryd.ntmps28
  go_wp2_with fail
  rw [← HW0.out, ← hg]
  clear hg
  refine (jcheck_any _ _ _ a b on kind _ (RdF.next ha0 HB0.out) (RdF.next hb0 HB0.out) (RdF.next ho0 HB0.out) hla hlb hlo HCA.out HCB.out (HT.out.below HB0.out)).mono ?_
  rintro e w1 ⟨rfl, b1⟩
  rw [← HY.out]
  obtain ⟨y1, y2⟩ := Y
  have bw1 := HB0.out.trans (b1.mono HB0.out.size)
  clear x0 x1 z0 z1
  obtain ⟨x0, x1, z0, z1⟩ := CELLS.out w1 b1
  have err : ∀ (w' : World), Below w0.heap.size w0 w' → E ≠ 0 → R (.returned (.tuple #[.agg #[.slice none 0 0, .slice none 0 0], .int .i64 E])) ((w'.setCell ⟨g + 1 + 1, 0, none⟩ (.slice none 0 0)).setCell ⟨g + 1 + 1, 1, none⟩ (.slice none 0 0)) := fun w' hk hne =>
    HR.out _ _ ⟨⟨_, _, rfl, by rw [if_neg hne]; exact RdF.nil _ _, by rw [if_neg hne]; exact RdE.nil _ _⟩, (FIN.out w' _ _ hk).2.2⟩
  have ERR := Lib.hid err
  clear err
  by_cases hz : y2 = 0
  · subst hz
    go_wp2_with fail
    refine (jfits_any _ _ _ _ ta _ (RdE.next (RdF.stays valV 4) hta0 bw1)).mono ?_
    rintro e w2 ⟨rfl, b2⟩
    obtain ⟨fa, hfa⟩ : ∃ f, f = fitsB a.length ta := ⟨_, rfl⟩
    rw [← hfa]
    have HFA := Lib.hid hfa
    have b02 := b1.trans (b2.mono b1.size)
    have bw2 := bw1.trans (b2.mono bw1.size)
    clear x0 x1 z0 z1 hfa
    obtain ⟨x0, x1, z0, z1⟩ := CELLS.out w2 b02
    cases fa
    · have he : E = 10 := by rw [HE.out, ← HY.out, if_neg (by simp), ← HFA.out]; rfl
      subst he
      obtain ⟨v0, v1, k0, k1⟩ := RES.out w2 b02
      go_wp2
      obtain ⟨q0, q1, -⟩ := FIN.out w2 (.slice none 0 0) (.slice none 0 0) b02
      refine bodyPost_ret (v := .tuple #[.agg #[.slice none 0 0, .slice none 0 0], .int .i64 (10 : Nat)]) (by simp [results, Tryd.results28, go_sem, q0, q1]) rfl (ERR.out w2 b02 (by decide))
    · go_wp2_with fail
      refine (jfits_any _ _ _ _ tb _ (RdE.next (RdF.stays valV 4) htb0 bw2)).mono ?_
      rintro e w3 ⟨rfl, b3⟩
      obtain ⟨fb, hfb⟩ : ∃ f, f = fitsB b.length tb := ⟨_, rfl⟩
      rw [← hfb]
      have HFB := Lib.hid hfb
      have b03 := b02.trans (b3.mono b02.size)
      have bw3 := bw2.trans (b3.mono bw2.size)
      clear x0 x1 z0 z1 hfb
      obtain ⟨x0, x1, z0, z1⟩ := CELLS.out w3 b03
      cases fb
      · have he : E = 10 := by rw [HE.out, ← HY.out, if_neg (by simp), ← HFA.out, ← HFB.out]; rfl
        subst he
        obtain ⟨v0, v1, k0, k1⟩ := RES.out w3 b03
        go_wp2
        obtain ⟨q0, q1, -⟩ := FIN.out w3 (.slice none 0 0) (.slice none 0 0) b03
        refine bodyPost_ret (v := .tuple #[.agg #[.slice none 0 0, .slice none 0 0], .int .i64 (10 : Nat)]) (by simp [results, Tryd.results28, go_sem, q0, q1]) rfl (ERR.out w3 b03 (by decide))
      · have he : E = 0 := by rw [HE.out, ← HY.out, if_neg (by simp), ← HFA.out, ← HFB.out]; rfl
        subst he
        clear ERR
        go_wp2_with fail
        refine (jcolumns_any _ _ _ a b on kind _ (RdF.next ha0 bw3) (RdF.next hb0 bw3) (RdF.next ho0 bw3) hla hlb).mono ?_
        rintro e w4 ⟨lc, rfl, hlc, b4⟩
        have b04 := b03.trans (b4.mono b03.size)
        have bw4 := bw3.trans (b4.mono bw3.size)
        clear x0 x1 z0 z1
        obtain ⟨x0, x1, z0, z1⟩ := CELLS.out w4 b04
        obtain ⟨C, hC⟩ : ∃ C, C = colsJ a b on kind := ⟨_, rfl⟩
        rw [← hC] at hlc
        have hlc4 := hlc
        have HC := Lib.hid hC
        obtain ⟨lA, lc2, rfl, -⟩ := hlc.form
        have bo := (Below.refl w4.heap.size w4).alloc (Nat.le_refl _) (.cells #[.slice lA C.length lc2, .slice none 0 0] 25)
        obtain ⟨w5, hw5⟩ : ∃ w5, w5 = w4.alloc (.cells #[.slice lA C.length lc2, .slice none 0 0] 25) := ⟨_, rfl⟩
        have OUT := Box.new w4 25 #[.slice lA C.length lc2, .slice none 0 0]
        rw [← hw5] at bo OUT
        have b05 := b04.trans (bo.mono b04.size)
        have bw5 := bw4.trans (bo.mono bw4.size)
        have hlc5 := hlc.below bo (Nat.le_refl _)
        have HLC := Lib.hid hlc5; have HOUT := Lib.hid OUT; have HW5 := Lib.hid hw5
        have lg0 : g < w4.heap.size := by have := b04.size; have := HS0.out; omega
        have lg1 : g + 1 < w4.heap.size := by have := b04.size; have := HS0.out; omega
        clear hC hlc hw5 OUT
        go_wp2_with fail
        rw [← HW5.out]
        refine (jfind_any _ _ _ _ _ _ _ _ _ _ _ rfl rfl a b on _ (RdF.next ha0 bw5) (RdF.next hb0 bw5) (RdF.next ho0 bw5) hlb hlo).mono ?_
        rintro e w6 ⟨⟨fp, fr, rfl, hfp, hfr⟩, b6⟩
        have b06 := b05.trans (b6.mono b05.size)
        have bw6 := bw5.trans (b6.mono bw5.size)
        clear x0 x1 z0 z1
        obtain ⟨x0, x1, z0, z1⟩ := CELLS.out w6 b06
        have hmem := psJ_in (jchk_mem (a := a) (b := b) (on := on) (kind := kind) (by rw [← HY.out]))
        have hfita := fitsB_iff.1 HFA.out.symm
        have hfitb := fitsB_iff.1 HFB.out.symm
        obtain ⟨PS, hPS⟩ : ∃ PS, PS = psJ a b on := ⟨_, rfl⟩
        obtain ⟨RS, hRS⟩ : ∃ RS, RS = othF on 0 b := ⟨_, rfl⟩
        have hrm : ∀ p ∈ RS, 0 ≤ p ∧ p < b.length := fun p hp => by rw [hRS] at hp; have := othF_mem on b 0 p hp; omega
        have hrl : RS.length ≤ 100000 := by rw [hRS]; have := othF_len on b 0; omega
        have hpl : on.length = PS.length := by rw [hPS]; unfold psJ; rw [List.length_map]
        rw [← hPS, hpl] at hfp
        rw [← hPS] at hmem
        rw [← hRS] at hfr
        have HROWS := Lib.hid (show rowsJ a b ta tb on kind = ta.flatMap fun x => rowJ PS RS tb x kind by rw [hPS, hRS]; rfl)
        obtain ⟨pA, pc, rfl, -⟩ := hfp.form
        obtain ⟨rA, rc, rfl, -⟩ := hfr.form
        obtain ⟨w7, hw7⟩ : ∃ w7, w7 = w6.alloc (.cells #[.slice A3 b.length c3, .slice A4 tb.length c4, .slice pA PS.length pc, .slice rA RS.length rc] 130) := ⟨_, rfl⟩
        have b7 := (Below.refl w6.heap.size w6).alloc (Nat.le_refl _) (.cells #[.slice A3 b.length c3, .slice A4 tb.length c4, .slice pA PS.length pc, .slice rA RS.length rc] 130)
        have FB := Box.new w6 130 #[.slice A3 b.length c3, .slice A4 tb.length c4, .slice pA PS.length pc, .slice rA RS.length rc]
        rw [← hw7] at b7 FB
        have b07 := b06.trans (b7.mono b06.size)
        have bw7 := bw6.trans (b7.mono bw6.size)
        have b57 := b6.trans (b7.mono b6.size)
        have OUT7 := HOUT.out.below b57 HOUT.out.lt
        have hlc7 := HLC.out.below b57 (Nat.le_refl _)
        have hfp7 := hfp.below b7 (Nat.le_refl _)
        have hfr7 := hfr.below b7 (Nat.le_refl _)
        obtain ⟨go, hgo⟩ : ∃ go, go = w4.heap.size := ⟨_, rfl⟩
        obtain ⟨gf, hgf⟩ : ∃ gf, gf = w6.heap.size := ⟨_, rfl⟩
        have hs5 : w5.heap.size = go + 1 := by rw [HW5.out, hgo]; simp
        have hs7 : w7.heap.size = gf + 1 := by rw [hw7, hgf]; simp
        have hgof : go < gf := by rw [hgf]; have := b6.size; omega
        have hgo0 : w0.heap.size ≤ go := by rw [hgo]; exact b04.size
        have hlcne : (Value.slice lA C.length lc2).ownBlock ≠ some go := fun e => by have := (hlc4.lt _ e).2; omega
        have hfpne : (Value.slice pA PS.length pc).ownBlock ≠ some go := fun e => by have := (hfp.lt _ e).1; omega
        have hfrne : (Value.slice rA RS.length rc).ownBlock ≠ some go := fun e => by have := (hfr.lt _ e).1; omega
        rw [← hgo] at OUT7
        rw [← hgf] at FB
        have HOUT7 := Lib.hid OUT7; have HFB7 := Lib.hid FB; have HLC7 := Lib.hid hlc7; have HFP7 := Lib.hid hfp7; have HFR7 := Lib.hid hfr7; have HW7 := Lib.hid hw7
        have HN1 := Lib.hid hlcne; have HN2 := Lib.hid hfpne; have HN3 := Lib.hid hfrne; have HGO := Lib.hid hgo; have HGF := Lib.hid hgf; have HMEM := Lib.hid hmem; have HFA2 := Lib.hid hfita; have HFB2 := Lib.hid hfitb; have HRM := Lib.hid hrm
        have lg6 : g < w6.heap.size := by have := b06.size; have := HS0.out; omega
        have HS7 := Lib.hid hs7; have HGOF := Lib.hid hgof; have HGO0 := Lib.hid hgo0
        clear OUT7 FB hlc7 hfp7 hfr7 hw7 hlcne hfpne hfrne hgo hgf hmem hfita hfitb hrm hpl hPS hRS hfp hfr hs5 hs7 hgof hgo0 lg0 lg1 hlc4 hlc5 HLC HOUT
        go_wp2
        rw [← HW7.out, ← HGF.out, ← HGO.out]
        go_loopw [54] (fun i wr => ∃ (k : Nat) (vR : Value), k ≤ ta.length ∧ i = .int .i64 k ∧ Box wr go 25 #[.slice lA C.length lc2, vR] ∧ TabV wr w7.heap.size vR ((ta.take k).flatMap fun x => rowJ PS RS tb x kind) ∧ w7.grownBy wr (some go)) (fun i _ => ta.length - (intOf i).toNat)
        case atStart => exact ⟨0, .slice none 0 0, Nat.zero_le _, rfl, HOUT7.out, TabY.none_ _ _, .refl _ _⟩
        case round =>
          obtain ⟨k, vR, hk, rfl, hOB, hTV, hGr⟩ := hrel
          have hgw : w.heap.size ≤ go := by have := HGO0.out; have := HB0.out.size; omega
          have bwr := below_grown bw7 hGr (fun q hq => by injection hq with hq; omega) bw7.size
          have b0r := below_grown b07 hGr (fun q hq => by injection hq with hq; rw [← hq]; exact HGO0.out) b07.size
          have hgof := HGOF.out
          by_cases hlt : k < ta.length
          · obtain ⟨p, c8, vx, hv, hcw, hrw⟩ := hta0.at hlt
            have hcr := (bwr.cell (World.block_lt_of_cell? w _ hcw)).trans hcw
            injection hv with hA hln hcc
            subst hA
            subst hcc
            clear hln hcw
            have hs1 := flat_snoc (fun x => rowJ PS RS tb x kind) ta hlt
            have hxl := HFA2.out _ (List.getElem_mem hlt)
            have hcnt := flat_leN (fun x => rowJ PS RS tb x kind) (tb.length + 1) (fun x => rowJ_len PS RS tb x kind) (ta.take k)
            rw [List.length_take] at hcnt
            obtain ⟨x, hx⟩ : ∃ x, x = ta[k] := ⟨_, rfl⟩
            rw [← hx] at hrw hs1 hxl
            obtain ⟨L, hL⟩ : ∃ L, L = (ta.take k).flatMap fun x => rowJ PS RS tb x kind := ⟨_, rfl⟩
            rw [← hL] at hs1 hcnt hTV
            obtain ⟨RW, hRW⟩ : ∃ RW, RW = rowJ PS RS tb x kind := ⟨_, rfl⟩
            have hrwl : RW.length ≤ tb.length + 1 := by rw [hRW]; exact rowJ_len _ _ _ _ _
            have hcnt2 : L.length ≤ 2000000 := by
              have h1 : min k ta.length * (tb.length + 1) ≤ 1000 * 1001 := Nat.mul_le_mul (by omega) (by omega)
              omega
            rw [← hRW] at hs1
            have hrw0 := hrw
            obtain ⟨A6, c9, rfl, -⟩ := hrw.is
            have bd : Below wr.heap.size wr wr.drew := Below.drew (Below.refl _ _)
            have bwd := bwr.trans (bd.mono bwr.size)
            have F1 := HFB7.out.grown hGr (fun e => by injection e with e; omega)
            have fp1 := HFP7.out.kept hGr (.inr HN2.out)
            have fr1 := HFR7.out.kept hGr (.inr HN3.out)
            have gR := row_any A3 b.length c3 _ _ _ _ tb PS RS x kind wr.drew (RdE.next (RdF.stays valV 4) htb0 bwd) (RdF.of_own (f := prV) prV_len (by omega) (fp1.below bd (Nat.le_refl _))) (RdI.of_own (fr1.below bd (Nat.le_refl _))) (RdF.next hrw0 bwd) (by omega) hrl (by omega) (fun p hp => (HRM.out p hp).1) (fun y hy p hp => by rw [HFB2.out y hy]; exact (HRM.out p hp).2) (fun y hy p hp => by rw [HFB2.out y hy, hxl]; exact HMEM.out p hp)
            rw [← hRW] at gR
            have hsz2 := hTV.lt
            have bx : ∀ w', Below wr.drew.heap.size wr.drew w' → Box w' go 25 #[.slice lA C.length lc2, vR] ∧ Box w' gf 130 #[.slice A3 b.length c3, .slice A4 tb.length c4, .slice pA PS.length pc, .slice rA RS.length rc] := fun w' hb => by
              have hb2 := keepB hb bd
              exact ⟨hOB.below hb2 hOB.lt, F1.below hb2 F1.lt⟩
            have bx9 : ∀ w8 w9, Below wr.drew.heap.size wr.drew w8 → w8.grownBy w9 vR.ownBlock → Box w9 go 25 #[.slice lA C.length lc2, vR] ∧ Box w9 gf 130 #[.slice A3 b.length c3, .slice A4 tb.length c4, .slice pA PS.length pc, .slice rA RS.length rc] := fun w8 w9 hb hg => by
              have hs7 := HS7.out
              obtain ⟨O2, F2⟩ := bx w8 hb
              exact ⟨O2.grown hg (fun e => by have := (hsz2 _ e.symm).1; omega), F2.grown hg (fun e => by have := (hsz2 _ e.symm).1; omega)⟩
            have sz : ∀ w', Below wr.drew.heap.size wr.drew w' → w7.heap.size ≤ w'.heap.size := fun w' hb => Nat.le_trans hGr.size (keepB hb bd).size
            have ss : ∀ w', Below wr.drew.heap.size wr.drew w' → w'.cell? ⟨gf, 0, none⟩ = some (.slice A3 b.length c3) ∧ w'.cell? ⟨gf, 1, none⟩ = some (.slice A4 tb.length c4) ∧ w'.cell? ⟨gf, 2, none⟩ = some (.slice pA PS.length pc) ∧ w'.cell? ⟨gf, 3, none⟩ = some (.slice rA RS.length rc) ∧ w7.grownBy w' (some go) := fun w' hb => by
              have F2 := (bx w' hb).2
              exact ⟨F2.cell 0, F2.cell 1, F2.cell 2, F2.cell 3, hGr.trans (below_grownBy (keepB hb bd) _)⟩
            have ss9 : ∀ w8 w9, Below wr.drew.heap.size wr.drew w8 → w8.grownBy w9 vR.ownBlock → w9.cell? ⟨gf, 0, none⟩ = some (.slice A3 b.length c3) ∧ w9.cell? ⟨gf, 1, none⟩ = some (.slice A4 tb.length c4) ∧ w9.cell? ⟨gf, 2, none⟩ = some (.slice pA PS.length pc) ∧ w9.cell? ⟨gf, 3, none⟩ = some (.slice rA RS.length rc) ∧ w7.grownBy w9 (some go) := fun w8 w9 hb hg => by
              have F2 := (bx9 w8 w9 hb hg).2
              have hq : w7.grownBy w8 (some go) := hGr.trans (below_grownBy (keepB hb bd) _)
              refine ⟨F2.cell 0, F2.cell 1, F2.cell 2, F2.cell 3, ⟨hg.os.trans hq.os, hg.tape.trans hq.tape, hg.output.trans hq.output, Nat.le_trans hq.size hg.size, fun q hq1 hq2 => ?_⟩⟩
              rw [hg.block q (Nat.lt_of_lt_of_le hq1 hq.size) (fun e => by have := (hsz2 _ e.symm).1; omega)]
              exact hq.block q hq1 hq2
            have SS := Lib.hid ss; have SS9 := Lib.hid ss9
            clear ss ss9
            have S1 := Lib.hid hs1; have GR := Lib.hid gR; have BX := Lib.hid bx; have BX9 := Lib.hid bx9; have SZ := Lib.hid sz; have HTV := Lib.hid hTV; have HOB := Lib.hid hOB; have HGr := Lib.hid hGr; have BD := Lib.hid bd; have HSZ2 := Lib.hid hsz2
            have dk : decide ((k : Int) < ta.length) = true := decide_eq_true (by omega)
            clear hxl hx hs1 hcnt hL hRW hrw gR bx bx9 sz hTV hOB hGr bd fp1 fr1 F1 hsz2 bwd
            go_wp2
            obtain ⟨O0, F0⟩ := BX.out wr.drew (Below.refl _ _)
            have c1 := O0.cell 1
            have z1 := O0.frozen 1
            have lo1 := O0.lt
            have d0 := F0.cell 0
            have d1 := F0.cell 1
            have d2 := F0.cell 2
            have d3 := F0.cell 3
            simp at c1 d0 d1 d2 d3
            refine wp_region_any (by kernel_rfl) ?_
            change wpAny _ _ _ _ _ _ _ (World.drew _)
            refine wpAny_take (i := 0) (v := .pointer (some ⟨go, 1, none⟩)) rfl (by kernel_rfl) (by kernel_rfl) (by kernel_rfl) (fun _ _ _ h => h) (Or.inl ⟨by rfl, by intro w; go_simp; try (with_reducible rfl)⟩) ?_
            try simp only [Act.put, List.setIfInBounds_toArray, List.set_cons_zero, List.set_cons_succ]
            refine wpAny_take (i := 3) (v := .slice A6 x.length c9) rfl (by kernel_rfl) (by kernel_rfl) (by kernel_rfl) (fun _ _ _ h => h) (Or.inl ⟨by rfl, by intro w; go_simp; try (with_reducible rfl)⟩) ?_
            try simp only [Act.put, List.setIfInBounds_toArray, List.set_cons_zero, List.set_cons_succ]
            refine wpAny_take (i := 4) (v := .int .i64 kind) rfl (by kernel_rfl) (by kernel_rfl) (by kernel_rfl) (fun _ _ _ h => h) (Or.inl ⟨by rfl, by intro w; go_simp; try (with_reducible rfl)⟩) ?_
            try simp only [Act.put, List.setIfInBounds_toArray, List.set_cons_zero, List.set_cons_succ]
            refine wpAny_ready (rs := [1, 2]) (by kernel_rfl) (by simp) ?_
            refine AllReady.cons rfl (fun K hK => ?_) ?_
            · have HK := Lib.hid hK
              clear hK
              try simp only [List.getElem_toArray, List.getElem_cons_succ, List.getElem_cons_zero]
              go_simp
              refine HK.out _ _ ?_
              clear HK K
              try simp only [Act.put, List.setIfInBounds_toArray, List.set_cons_zero, List.set_cons_succ]
              refine wpAny_ready (rs := [2]) (by kernel_rfl) (by simp) ?_
              refine AllReady.cons rfl (fun K hK => ?_) ?_
              · have HK := Lib.hid hK
                clear hK
                try simp only [List.getElem_toArray, List.getElem_cons_succ, List.getElem_cons_zero]
                go_simp
                refine HK.out _ _ ?_
                clear HK K
                try simp only [Act.put, List.setIfInBounds_toArray, List.set_cons_zero, List.set_cons_succ]
                refine wpAny_ready (rs := [5]) (by kernel_rfl) (by simp) ?_
                refine AllReady.cons rfl (fun K hK => ?_) ?_
                · have HK := Lib.hid hK
                  clear hK
                  try simp only [List.getElem_toArray, List.getElem_cons_succ, List.getElem_cons_zero]
                  rw [if_pos (by rfl)]
                  refine wp_call_go (args := #[.agg #[.slice A3 b.length c3, .slice A4 tb.length c4, .slice pA PS.length pc, .slice rA RS.length rc], .slice A6 x.length c9, .int .i64 kind]) Tryd.func76 (by kernel_rfl) (by kernel_rfl) (by simp [Act.eval]) GR.out ?_
                  rintro o w8 ⟨ho8, b8⟩
                  obtain ⟨us, hou, heu⟩ := ho8.is
                  obtain ⟨oA, oc, rfl⟩ := ho8.form
                  have hsl := hou.sl
                  obtain ⟨vs8, hov, hev⟩ := (HTV.out.keep (keepB b8 BD.out)).is
                  have hone := rowsY_one (heu.imp fun _ _ q => q.1)
                  have hw78 := SZ.out _ b8
                  obtain ⟨O8, F8⟩ := BX.out w8 b8
                  have o8 := O8.cell 1
                  simp at o8
                  try dsimp only
                  refine HK.out _ _ ?_
                  clear HK K
                  try simp only [Act.put, List.setIfInBounds_toArray, List.set_cons_zero, List.set_cons_succ]
                  refine wpAny_ready (rs := [6]) (by kernel_rfl) (by simp) ?_
                  refine AllReady.cons rfl (fun K hK => ?_) ?_
                  · have HK := Lib.hid hK
                    clear hK
                    try simp only [List.getElem_toArray, List.getElem_cons_succ, List.getElem_cons_zero]
                    rw [if_pos (by rfl)]
                    refine wp_append_lit w7.heap.size 61 i0 _ 1 24 Tryd.underlying23 hi0 hz0 hz1 hz2 rfl (by omega) (by omega) vR L.length vs8 hov _ oA RW.length oc us hsl hone (by simp only [maxLen]; omega) (by omega) hw78 (by simp [Act.eval]) (by simp [Act.eval]) ?_
                    intro v9 w9 hown9 hg9 hat9
                    obtain ⟨vA, vc, rfl, -⟩ := hown9.form
                    obtain ⟨O9, F9⟩ := BX9.out _ _ b8 hg9
                    have o9 := O9.cell 1
                    have z9 := O9.frozen 1
                    have l9 := O9.lt
                    simp at o9
                    refine HK.out _ _ ?_
                    clear HK K
                    try simp only [Act.put, List.setIfInBounds_toArray, List.set_cons_zero, List.set_cons_succ]
                    refine wpAny_ready (rs := [7]) (by kernel_rfl) (by simp) ?_
                    refine AllReady.cons rfl (fun K hK => ?_) ?_
                    · have HK := Lib.hid hK
                      clear hK
                      try simp only [List.getElem_toArray, List.getElem_cons_succ, List.getElem_cons_zero]
                      go_simp
                      refine HK.out _ _ ?_
                      clear HK K
                      try simp only [Act.put, List.setIfInBounds_toArray, List.set_cons_zero, List.set_cons_succ]
                      refine wpAny_ready (rs := [8]) (by kernel_rfl) (by simp) ?_
                      refine AllReady.cons rfl (fun K hK => ?_) ?_
                      · have HK := Lib.hid hK
                        clear hK
                        try simp only [List.getElem_toArray, List.getElem_cons_succ, List.getElem_cons_zero]
                        go_simp
                        refine HK.out _ _ ?_
                        clear HK K
                        try simp only [Act.put, List.setIfInBounds_toArray, List.set_cons_zero, List.set_cons_succ]
                        refine wpAny_done (by kernel_rfl) ?_ _
                        have hT9 := TabY.more_ (lo := wr.drew.heap.size) (t := L) (t2 := RW) hown9 rfl rfl hev (heu.imp fun _ _ q => q.1) (SZ.out wr.drew (Below.refl _ _)) (fun q hq => (HSZ2.out q hq).2) hg9 hat9
                        have hs7 := HS7.out
                        have hT10 : TabV (w9.setCell ⟨go, 1, none⟩ (.slice vA (L.length + RW.length) vc)) w7.heap.size (.slice vA (L.length + RW.length) vc) (L ++ RW) := hT9.agree fun q hq _ => setCell_block _ _ _ _ _ (by omega)
                        have hG10 := grownBy_set (SS9.out _ _ b8 hg9).2.2.2.2 1 (.slice vA (L.length + RW.length) vc)
                        have hO10 := O9.put 1 (.slice vA (L.length + RW.length) vc)
                        have HT10 := Lib.hid hT10; have HG10 := Lib.hid hG10; have HO10 := Lib.hid hO10
                        clear hT9 hT10 hG10 hO10 hs7
                        go_wp2
                        exact ⟨⟨k + 1, _, by omega, by go_num, by simpa using HO10.out, by rw [S1.out]; exact HT10.out, HG10.out⟩, by simp [intOf]; omega⟩
                      exact AllReady.nil
                    exact AllReady.nil
                  exact AllReady.nil
                exact AllReady.nil
              exact AllReady.nil
            refine AllReady.cons rfl (fun K hK => ?_) ?_
            · have HK := Lib.hid hK
              clear hK
              try simp only [List.getElem_toArray, List.getElem_cons_succ, List.getElem_cons_zero]
              go_simp
              refine HK.out _ _ ?_
              clear HK K
              try simp only [Act.put, List.setIfInBounds_toArray, List.set_cons_zero, List.set_cons_succ]
              refine wpAny_ready (rs := [1, 5]) (by kernel_rfl) (by simp) ?_
              refine AllReady.cons rfl (fun K hK => ?_) ?_
              · have HK := Lib.hid hK
                clear hK
                try simp only [List.getElem_toArray, List.getElem_cons_succ, List.getElem_cons_zero]
                go_simp
                refine HK.out _ _ ?_
                clear HK K
                try simp only [Act.put, List.setIfInBounds_toArray, List.set_cons_zero, List.set_cons_succ]
                refine wpAny_ready (rs := [5]) (by kernel_rfl) (by simp) ?_
                refine AllReady.cons rfl (fun K hK => ?_) ?_
                · have HK := Lib.hid hK
                  clear hK
                  try simp only [List.getElem_toArray, List.getElem_cons_succ, List.getElem_cons_zero]
                  rw [if_pos (by rfl)]
                  refine wp_call_go (args := #[.agg #[.slice A3 b.length c3, .slice A4 tb.length c4, .slice pA PS.length pc, .slice rA RS.length rc], .slice A6 x.length c9, .int .i64 kind]) Tryd.func76 (by kernel_rfl) (by kernel_rfl) (by simp [Act.eval]) GR.out ?_
                  rintro o w8 ⟨ho8, b8⟩
                  obtain ⟨us, hou, heu⟩ := ho8.is
                  obtain ⟨oA, oc, rfl⟩ := ho8.form
                  have hsl := hou.sl
                  obtain ⟨vs8, hov, hev⟩ := (HTV.out.keep (keepB b8 BD.out)).is
                  have hone := rowsY_one (heu.imp fun _ _ q => q.1)
                  have hw78 := SZ.out _ b8
                  obtain ⟨O8, F8⟩ := BX.out w8 b8
                  have o8 := O8.cell 1
                  simp at o8
                  try dsimp only
                  refine HK.out _ _ ?_
                  clear HK K
                  try simp only [Act.put, List.setIfInBounds_toArray, List.set_cons_zero, List.set_cons_succ]
                  refine wpAny_ready (rs := [6]) (by kernel_rfl) (by simp) ?_
                  refine AllReady.cons rfl (fun K hK => ?_) ?_
                  · have HK := Lib.hid hK
                    clear hK
                    try simp only [List.getElem_toArray, List.getElem_cons_succ, List.getElem_cons_zero]
                    rw [if_pos (by rfl)]
                    refine wp_append_lit w7.heap.size 61 i0 _ 1 24 Tryd.underlying23 hi0 hz0 hz1 hz2 rfl (by omega) (by omega) vR L.length vs8 hov _ oA RW.length oc us hsl hone (by simp only [maxLen]; omega) (by omega) hw78 (by simp [Act.eval]) (by simp [Act.eval]) ?_
                    intro v9 w9 hown9 hg9 hat9
                    obtain ⟨vA, vc, rfl, -⟩ := hown9.form
                    obtain ⟨O9, F9⟩ := BX9.out _ _ b8 hg9
                    have o9 := O9.cell 1
                    have z9 := O9.frozen 1
                    have l9 := O9.lt
                    simp at o9
                    refine HK.out _ _ ?_
                    clear HK K
                    try simp only [Act.put, List.setIfInBounds_toArray, List.set_cons_zero, List.set_cons_succ]
                    refine wpAny_ready (rs := [7]) (by kernel_rfl) (by simp) ?_
                    refine AllReady.cons rfl (fun K hK => ?_) ?_
                    · have HK := Lib.hid hK
                      clear hK
                      try simp only [List.getElem_toArray, List.getElem_cons_succ, List.getElem_cons_zero]
                      go_simp
                      refine HK.out _ _ ?_
                      clear HK K
                      try simp only [Act.put, List.setIfInBounds_toArray, List.set_cons_zero, List.set_cons_succ]
                      refine wpAny_ready (rs := [8]) (by kernel_rfl) (by simp) ?_
                      refine AllReady.cons rfl (fun K hK => ?_) ?_
                      · have HK := Lib.hid hK
                        clear hK
                        try simp only [List.getElem_toArray, List.getElem_cons_succ, List.getElem_cons_zero]
                        go_simp
                        refine HK.out _ _ ?_
                        clear HK K
                        try simp only [Act.put, List.setIfInBounds_toArray, List.set_cons_zero, List.set_cons_succ]
                        refine wpAny_done (by kernel_rfl) ?_ _
                        have hT9 := TabY.more_ (lo := wr.drew.heap.size) (t := L) (t2 := RW) hown9 rfl rfl hev (heu.imp fun _ _ q => q.1) (SZ.out wr.drew (Below.refl _ _)) (fun q hq => (HSZ2.out q hq).2) hg9 hat9
                        have hs7 := HS7.out
                        have hT10 : TabV (w9.setCell ⟨go, 1, none⟩ (.slice vA (L.length + RW.length) vc)) w7.heap.size (.slice vA (L.length + RW.length) vc) (L ++ RW) := hT9.agree fun q hq _ => setCell_block _ _ _ _ _ (by omega)
                        have hG10 := grownBy_set (SS9.out _ _ b8 hg9).2.2.2.2 1 (.slice vA (L.length + RW.length) vc)
                        have hO10 := O9.put 1 (.slice vA (L.length + RW.length) vc)
                        have HT10 := Lib.hid hT10; have HG10 := Lib.hid hG10; have HO10 := Lib.hid hO10
                        clear hT9 hT10 hG10 hO10 hs7
                        go_wp2
                        exact ⟨⟨k + 1, _, by omega, by go_num, by simpa using HO10.out, by rw [S1.out]; exact HT10.out, HG10.out⟩, by simp [intOf]; omega⟩
                      exact AllReady.nil
                    exact AllReady.nil
                  exact AllReady.nil
                exact AllReady.nil
              refine AllReady.cons rfl (fun K hK => ?_) ?_
              · have HK := Lib.hid hK
                clear hK
                try simp only [List.getElem_toArray, List.getElem_cons_succ, List.getElem_cons_zero]
                rw [if_pos (by rfl)]
                refine wp_call_go (args := #[.agg #[.slice A3 b.length c3, .slice A4 tb.length c4, .slice pA PS.length pc, .slice rA RS.length rc], .slice A6 x.length c9, .int .i64 kind]) Tryd.func76 (by kernel_rfl) (by kernel_rfl) (by simp [Act.eval]) GR.out ?_
                rintro o w8 ⟨ho8, b8⟩
                obtain ⟨us, hou, heu⟩ := ho8.is
                obtain ⟨oA, oc, rfl⟩ := ho8.form
                have hsl := hou.sl
                obtain ⟨vs8, hov, hev⟩ := (HTV.out.keep (keepB b8 BD.out)).is
                have hone := rowsY_one (heu.imp fun _ _ q => q.1)
                have hw78 := SZ.out _ b8
                obtain ⟨O8, F8⟩ := BX.out w8 b8
                have o8 := O8.cell 1
                simp at o8
                try dsimp only
                refine HK.out _ _ ?_
                clear HK K
                try simp only [Act.put, List.setIfInBounds_toArray, List.set_cons_zero, List.set_cons_succ]
                refine wpAny_ready (rs := [1]) (by kernel_rfl) (by simp) ?_
                refine AllReady.cons rfl (fun K hK => ?_) ?_
                · have HK := Lib.hid hK
                  clear hK
                  try simp only [List.getElem_toArray, List.getElem_cons_succ, List.getElem_cons_zero]
                  go_simp
                  refine HK.out _ _ ?_
                  clear HK K
                  try simp only [Act.put, List.setIfInBounds_toArray, List.set_cons_zero, List.set_cons_succ]
                  refine wpAny_ready (rs := [6]) (by kernel_rfl) (by simp) ?_
                  refine AllReady.cons rfl (fun K hK => ?_) ?_
                  · have HK := Lib.hid hK
                    clear hK
                    try simp only [List.getElem_toArray, List.getElem_cons_succ, List.getElem_cons_zero]
                    rw [if_pos (by rfl)]
                    refine wp_append_lit w7.heap.size 61 i0 _ 1 24 Tryd.underlying23 hi0 hz0 hz1 hz2 rfl (by omega) (by omega) vR L.length vs8 hov _ oA RW.length oc us hsl hone (by simp only [maxLen]; omega) (by omega) hw78 (by simp [Act.eval]) (by simp [Act.eval]) ?_
                    intro v9 w9 hown9 hg9 hat9
                    obtain ⟨vA, vc, rfl, -⟩ := hown9.form
                    obtain ⟨O9, F9⟩ := BX9.out _ _ b8 hg9
                    have o9 := O9.cell 1
                    have z9 := O9.frozen 1
                    have l9 := O9.lt
                    simp at o9
                    refine HK.out _ _ ?_
                    clear HK K
                    try simp only [Act.put, List.setIfInBounds_toArray, List.set_cons_zero, List.set_cons_succ]
                    refine wpAny_ready (rs := [7]) (by kernel_rfl) (by simp) ?_
                    refine AllReady.cons rfl (fun K hK => ?_) ?_
                    · have HK := Lib.hid hK
                      clear hK
                      try simp only [List.getElem_toArray, List.getElem_cons_succ, List.getElem_cons_zero]
                      go_simp
                      refine HK.out _ _ ?_
                      clear HK K
                      try simp only [Act.put, List.setIfInBounds_toArray, List.set_cons_zero, List.set_cons_succ]
                      refine wpAny_ready (rs := [8]) (by kernel_rfl) (by simp) ?_
                      refine AllReady.cons rfl (fun K hK => ?_) ?_
                      · have HK := Lib.hid hK
                        clear hK
                        try simp only [List.getElem_toArray, List.getElem_cons_succ, List.getElem_cons_zero]
                        go_simp
                        refine HK.out _ _ ?_
                        clear HK K
                        try simp only [Act.put, List.setIfInBounds_toArray, List.set_cons_zero, List.set_cons_succ]
                        refine wpAny_done (by kernel_rfl) ?_ _
                        have hT9 := TabY.more_ (lo := wr.drew.heap.size) (t := L) (t2 := RW) hown9 rfl rfl hev (heu.imp fun _ _ q => q.1) (SZ.out wr.drew (Below.refl _ _)) (fun q hq => (HSZ2.out q hq).2) hg9 hat9
                        have hs7 := HS7.out
                        have hT10 : TabV (w9.setCell ⟨go, 1, none⟩ (.slice vA (L.length + RW.length) vc)) w7.heap.size (.slice vA (L.length + RW.length) vc) (L ++ RW) := hT9.agree fun q hq _ => setCell_block _ _ _ _ _ (by omega)
                        have hG10 := grownBy_set (SS9.out _ _ b8 hg9).2.2.2.2 1 (.slice vA (L.length + RW.length) vc)
                        have hO10 := O9.put 1 (.slice vA (L.length + RW.length) vc)
                        have HT10 := Lib.hid hT10; have HG10 := Lib.hid hG10; have HO10 := Lib.hid hO10
                        clear hT9 hT10 hG10 hO10 hs7
                        go_wp2
                        exact ⟨⟨k + 1, _, by omega, by go_num, by simpa using HO10.out, by rw [S1.out]; exact HT10.out, HG10.out⟩, by simp [intOf]; omega⟩
                      exact AllReady.nil
                    exact AllReady.nil
                  exact AllReady.nil
                exact AllReady.nil
              exact AllReady.nil
            exact AllReady.nil
          · obtain rfl : k = ta.length := by omega
            rw [List.take_length, ← HROWS.out] at hTV
            have o0 := hOB.cell 0
            have o1 := hOB.cell 1
            have lo := hOB.lt
            simp at o0 o1
            obtain ⟨v0, v1, k0, k1⟩ := RES.out wr b0r
            obtain ⟨rwA, rwc, rfl⟩ := hTV.form
            obtain ⟨q0, q1, hBf⟩ := FIN.out wr (.slice lA C.length lc2) (.slice rwA (rowsJ a b ta tb on kind).length rwc) b0r
            have hs0 := HS0.out
            have hgo := HGO0.out
            have hs7 := HS7.out
            have hkv : ∀ q, w0.heap.size ≤ q → ((wr.setCell ⟨g + 1 + 1, 0, none⟩ (.slice lA C.length lc2)).setCell ⟨g + 1 + 1, 1, none⟩ (.slice rwA (rowsJ a b ta tb on kind).length rwc)).heap[q]? = wr.heap[q]? := fun q hq => by
              rw [setCell_block _ _ _ _ _ (by omega), setCell_block _ _ _ _ _ (by omega)]
            have hl1 := HLC7.out.kept hGr (.inr HN1.out)
            have r1 := RdF.of_own colV_len (by omega) (hl1.agree_ fun q hq => hkv q (by have := (hl1.lt q hq).1; have := b03.size; omega))
            have r2 := TabY.rd valV_len (by omega) (hTV.agree fun q hq _ => hkv q (by omega))
            have HR1 := Lib.hid r1; have HR2 := Lib.hid r2; have HBF := Lib.hid hBf
            have hne2 : ¬ (go = g + 1 + 1) := by omega
            have hgo2 : g + 1 + 1 < go := by omega
            clear r1 r2 hBf hkv hl1 hTV hGr hs0 hgo hs7 hlt
            go_wp2
            refine bodyPost_ret (v := .tuple #[.agg #[.slice lA C.length lc2, .slice rwA (rowsJ a b ta tb on kind).length rwc], .int .i64 (0 : Nat)]) (by simp [results, Tryd.results28, go_sem, q0, q1]) rfl (HR.out _ _ ⟨⟨_, _, rfl, by rw [if_pos trivial, ← HC.out]; exact HR1.out, by rw [if_pos trivial]; exact HR2.out⟩, HBF.out⟩)

  · have he : E = y2 := by rw [HE.out, ← HY.out, if_pos hz]
    subst he
    have dz : ((E : Int) != 0) = true := by rw [bne_iff_ne]; omega
    obtain ⟨v0, v1, k0, k1⟩ := RES.out w1 b1
    have HZ := Lib.hid hz
    clear hz
    go_wp2
    obtain ⟨q0, q1, -⟩ := FIN.out w1 (.slice none 0 0) (.slice none 0 0) b1
    refine bodyPost_ret (v := .tuple #[.agg #[.slice none 0 0, .slice none 0 0], .int .i64 E]) (by simp [results, Tryd.results28, go_sem, q0, q1]) rfl (ERR.out w1 b1 HZ.out)
end Go.Proofs.YtgiemhooeoakmaaDoor


/- Layer 15: the reference's Bind; Get, Without; the laws' few and awake. -/
import Derived.Test.YtamhdlopchhdjaaDoorHeadD
import Derived.Test.YtamhdlopchhdjaaDoorDelS
namespace Go.Proofs.YtamhdlopchhdjaaDoor
open Go.RowKit Go.ChangeShapes Go.WideShapes
set_option linter.unusedVariables false
set_option linter.unusedSimpArgs false

theorem posF_in {names : Row} {s : ByteArray} (h : s ∈ names) : posF 0 names s = (atC names s : Int) := by
  have := posF_some h 0
  unfold atC
  omega
theorem atC_lt {names : Row} {s : ByteArray} (h : s ∈ names) : atC names s < names.length := by
  have := posF_some h 0
  unfold atC
  omega
set_option maxHeartbeats 1000000 in
theorem refBind_any (h u : Value) (names want : Row) (w : World) (hh : RdS w w.heap.size h names) (hu : RdS w w.heap.size u want) (hl : want.length ≤ 100000) :
    Calls Tryd.prog 21 #[h, u] w fun e w' => ∃ o, e = .returned (.tuple #[o, .int .i64 (bindC names want).2.1, .int .i64 (bindC names want).2.2]) ∧ Own w' w.heap.size 3 1 o (bindC names want).1.length (intV (bindC names want).1) ∧ Below w.heap.size w w' := by
  refine cps fun R HR => ?_
  obtain ⟨i0, hi0, hz0, hz1, hz2⟩ := info_parts int_info
  have hh0 := hh
  have hu0 := hu
  obtain ⟨A, c, rfl, -⟩ := hu.is
  have hfew := hu.few
  obtain ⟨Y, hY⟩ : ∃ Y, Y = bindC names want := ⟨_, rfl⟩
  rw [← hY] at HR
  unfold bindC at hY
  have HY := Lib.hid hY
  clear hY hu hh
  go_enter Tryd.func21, Tryd.ntmps21
  go_wp2
  go_loopw [7, 13] (fun o i wr => ∃ k : Nat, k ≤ want.length ∧ i = .int .i64 k ∧ allIn names (want.take k) = true ∧ misF names k (want.drop k) = misF names 0 want ∧ Own wr w.heap.size 3 1 o k (intV (numsF names (want.take k))) ∧ Below w.heap.size w wr) (fun _ i _ => want.length - (intOf i).toNat)
  case atStart => exact ⟨0, Nat.zero_le _, rfl, rfl, rfl, Own.nil_ _ _ _ _, Below.refl _ _⟩
  case round =>
    obtain ⟨k, hk, rfl, hA, hI, hO, hB⟩ := hrel
    have HA := Lib.hid hA; have HI := Lib.hid hI
    clear hA hI
    by_cases hlt : k < want.length
    · obtain ⟨p, c3, hv, hc⟩ := (hu0.below hB).at hlt
      injection hv with hA _ hcc
      subst hA
      subst hcc
      have hs1 := allIn_snoc names want hlt
      have hs2 : want.drop k = want[k] :: want.drop (k + 1) := List.drop_eq_getElem_cons hlt
      have hs3 := numsF_snoc names want hlt
      have hs5 : allIn names want = true → want[k] ∈ names := fun hh => allIn_mem hh (List.getElem_mem hlt)
      obtain ⟨x, hx⟩ : ∃ x, x = want[k] := ⟨_, rfl⟩
      rw [← hx] at hc hs1 hs2 hs3 hs5
      have S1 := Lib.hid hs1; have S2 := Lib.hid hs2; have S3 := Lib.hid hs3; have S5 := Lib.hid hs5
      clear hx hs1 hs2 hs3 hs5
      have dk : decide ((k : Int) < want.length) = true := decide_eq_true (by omega)
      have dlt := posF_lt names x
      by_cases hin : x ∈ names
      · have hp := posF_in hin
        obtain ⟨ct, hct⟩ : ∃ ct, ct = atC names x := ⟨_, rfl⟩
        rw [← hct] at hp
        have HIN := Lib.hid hin; have HCT := Lib.hid hct; have HP := Lib.hid hp
        rw [hp] at dlt
        clear hp hin hct
        have d2 : decide ((ct : Int) < 0) = false := decide_eq_false (by omega)
        clear dlt
        go_wp2_with fail
        refine (refAt_any h names x _ (hh0.below hB)).mono ?_
        rintro e w4 ⟨rfl, rfl⟩
        rw [HP.out]
        go_wp2_with (at_builtin; refine wpList_push rfl _ _ _ rfl w.heap.size 3 i0 _ 8 Tryd.underlying37 hi0 hz0 hz1 hz2 rfl (by omega) u7 k _ (.int .i64 ct) rfl hO rfl rfl (by omega) hB.size ?_; intro v5 w5 hown5 hg5 hat5)
        have ho2 : Own w5 w.heap.size 3 1 v5 (k + 1) (intV (numsF names (want.take (k + 1)))) := by rw [S3.out, intV_snoc, ← HCT.out]; exact hown5
        have ha2 : allIn names (want.take (k + 1)) = true := by rw [S1.out, HA.out, decide_eq_true HIN.out]; rfl
        have hi2 : misF names (k + 1) (want.drop (k + 1)) = misF names 0 want := by rw [← HI.out, S2.out, misF, if_pos HIN.out]
        have hb2 : Below w.heap.size w w5 := below_grown hB hg5 (fun g hg => (hO.lt g hg).1) hB.size
        exact ⟨⟨k + 1, by omega, by go_num, ha2, hi2, ho2, hb2⟩, by simp [intOf]; omega⟩
      · have hno : allIn names want = false := by
          rw [Bool.eq_false_iff]
          intro hh
          exact hin (S5.out hh)
        have hy := HY.out
        rw [hno, if_neg (by simp), ← HI.out, S2.out, misF, if_neg hin] at hy
        subst hy
        have HP := Lib.hid (posF_none hin 0)
        clear hno hin dlt
        go_wp2_with fail
        refine (refAt_any h names x _ (hh0.below hB)).mono ?_
        rintro e w4 ⟨rfl, rfl⟩
        rw [HP.out]
        go_wp2
        refine bodyPost_ret (v := .tuple #[.slice none 0 0, .int .i64 k, .int .i64 (16 : Nat)]) (by simp [results, Tryd.results21, go_sem]) rfl (HR.out _ _ ⟨_, rfl, Own.nil_ _ _ _ _, hB⟩)
    · obtain rfl : k = want.length := by omega
      have hy := HY.out
      have hall := HA.out
      rw [List.take_length] at hall
      rw [hall, if_pos rfl] at hy
      subst hy
      rw [List.take_length] at hO
      have hlen : (numsF names want).length = want.length := by unfold numsF; rw [List.length_map]
      have HLEN := Lib.hid hlen
      clear hlt hall hlen
      go_wp2
      refine bodyPost_ret (v := .tuple #[u7, .int .i64 want.length, .int .i64 (0 : Nat)]) (by simp [results, Tryd.results21, go_sem]) rfl (HR.out _ _ ⟨_, rfl, by rw [HLEN.out]; exact hO, hB⟩)

/-- What Get tells: the field, the error's number. -/
def getC (names r : Row) (s : ByteArray) : ByteArray × Nat :=
  if s ∈ names then if r.length = names.length then (r.getD (atC names s) ⟨#[]⟩, 0) else (⟨#[]⟩, 10) else (⟨#[]⟩, 16)
set_option maxHeartbeats 1000000 in
theorem hget_any (h u : Value) (names r : Row) (s : ByteArray) (w : World) {base : Nat} (hh : HeadAt w base h names) (hu : RdS w w.heap.size u r) (hs : s.size ≤ 100000) :
    Calls Tryd.prog 23 #[h, u, .string s] w fun e w' => e = .returned (.tuple #[.string (getC names r s).1, .int .i64 (getC names r s).2]) ∧ w' = w := by
  refine cps fun R HR => ?_
  have hh0 := hh
  obtain ⟨g, b, v, rfl, h2, h3, h4, h5, h6, h7⟩ := hh.is
  have hr := RdS.of_own h7
  obtain ⟨A, c, rfl, -⟩ := hr.is
  have c0 := h5.cell 0
  have c1 := h5.cell 1
  have hf1 := hr.few
  have hu0 := hu
  obtain ⟨A2, c2, rfl, -⟩ := hu.is
  have hf2 := hu.few
  have HKEY := Lib.hid (key_of s hs)
  have HHAS := Lib.hid (headD_hasAll names s)
  obtain ⟨tw, htw⟩ : ∃ tw, tw = decide (s ∈ names) := ⟨_, rfl⟩
  rw [← htw] at HHAS
  have HTW := Lib.hid htw
  obtain ⟨Y, hY⟩ : ∃ Y, Y = getC names r s := ⟨_, rfl⟩
  rw [← hY] at HR
  unfold getC at hY
  have HY := Lib.hid hY
  obtain ⟨ct, hct⟩ : ∃ ct, ct = atC names s := ⟨_, rfl⟩
  have HCT := Lib.hid hct
  clear h4 hh htw hY hct hu
  go_enter Tryd.func23, Tryd.ntmps23
  cases tw
  · have hy := HY.out
    rw [if_neg (of_decide_eq_false HTW.out.symm)] at hy
    subst hy
    go_wp2_with (at_lookup; refine wpList_lookup_own_ok_int _ rfl _ _ 67 rfl 9 3 .i64 str_keyed Tryd.underlying67 Tryd.underlying3 (zeroI _) b names.length _ rfl h6 _ _ rfl HKEY.out ?_; intro c1 hat hwc; rw [HHAS.out, hh0.look s hat, ← HCT.out]; clear hat hwc)
    exact HR.out _ _ ⟨rfl, rfl⟩
  · have hin : s ∈ names := of_decide_eq_true HTW.out.symm
    have hlt := atC_lt hin
    rw [← HCT.out] at hlt
    have hy := HY.out
    rw [if_pos hin, ← HCT.out] at hy
    clear hin
    by_cases hl : r.length = names.length
    · rw [if_pos hl] at hy
      have hltr : ct < r.length := by omega
      obtain ⟨p, c4, hv, hcp⟩ := hu0.at hltr
      injection hv with hA _ hcc
      subst hA
      subst hcc
      have hx : r.getD ct ⟨#[]⟩ = r[ct] := by rw [List.getD_eq_getElem?_getD, List.getElem?_eq_getElem hltr]; rfl
      rw [hx] at hy
      obtain ⟨x, hx2⟩ : ∃ x, x = r[ct] := ⟨_, rfl⟩
      rw [← hx2] at hcp hy
      subst hy
      have d : ((r.length : Int) != (names.length : Int)) = false := by simp [hl]
      have hltI : (ct : Int) < r.length := by omega
      clear hx hx2 hl
      go_wp2_with (at_lookup; refine wpList_lookup_own_ok_int _ rfl _ _ 67 rfl 9 3 .i64 str_keyed Tryd.underlying67 Tryd.underlying3 (zeroI _) b names.length _ rfl h6 _ _ rfl HKEY.out ?_; intro c1 hat hwc; rw [HHAS.out, hh0.look s hat, ← HCT.out]; clear hat hwc)
      exact HR.out _ _ ⟨rfl, rfl⟩
    · rw [if_neg hl] at hy
      subst hy
      have d : ((r.length : Int) != (names.length : Int)) = true := by rw [bne_iff_ne]; omega
      clear hl
      go_wp2_with (at_lookup; refine wpList_lookup_own_ok_int _ rfl _ _ 67 rfl 9 3 .i64 str_keyed Tryd.underlying67 Tryd.underlying3 (zeroI _) b names.length _ rfl h6 _ _ rfl HKEY.out ?_; intro c1 hat hwc; rw [HHAS.out, hh0.look s hat, ← HCT.out]; clear hat hwc)
      exact HR.out _ _ ⟨rfl, rfl⟩
/-- What Without tells: the names, the error's number. -/
def woC (names : Row) (s : ByteArray) : Row × Nat := if s ∈ names then (names.eraseIdx (atC names s), 0) else ([], 16)
set_option maxHeartbeats 1000000 in
theorem without_any (h : Value) (names : Row) (s : ByteArray) (w : World) {base : Nat} (hh : HeadAt w base h names) (hs : s.size ≤ 100000) (hl : names.length ≤ 100000) :
    Calls Tryd.prog 24 #[h, .string s] w fun e w' => ∃ o, e = .returned (.tuple #[o, .int .i64 (woC names s).2]) ∧ Own w' w.heap.size 9 1 o (woC names s).1.length (strV (woC names s).1) ∧ Below w.heap.size w w' := by
  refine cps fun R HR => ?_
  have hh0 := hh
  obtain ⟨g, b, v, rfl, h2, h3, h4, h5, h6, h7⟩ := hh.is
  have hr := RdS.of_own h7
  obtain ⟨A, c, rfl, -⟩ := hr.is
  have c0 := h5.cell 0
  have c1 := h5.cell 1
  have HKEY := Lib.hid (key_of s hs)
  have HHAS := Lib.hid (headD_hasAll names s)
  obtain ⟨tw, htw⟩ : ∃ tw, tw = decide (s ∈ names) := ⟨_, rfl⟩
  rw [← htw] at HHAS
  have HTW := Lib.hid htw
  obtain ⟨Y, hY⟩ : ∃ Y, Y = woC names s := ⟨_, rfl⟩
  rw [← hY] at HR
  unfold woC at hY
  have HY := Lib.hid hY
  obtain ⟨ct, hct⟩ : ∃ ct, ct = atC names s := ⟨_, rfl⟩
  have HCT := Lib.hid hct
  clear h4 hh htw hY hct
  go_enter Tryd.func24, Tryd.ntmps24
  cases tw
  · have hy := HY.out
    rw [if_neg (of_decide_eq_false HTW.out.symm)] at hy
    subst hy
    go_wp2_with (at_lookup; refine wpList_lookup_own_ok_int _ rfl _ _ 67 rfl 9 3 .i64 str_keyed Tryd.underlying67 Tryd.underlying3 (zeroI _) b names.length _ rfl h6 _ _ rfl HKEY.out ?_; intro c1 hat hwc; rw [HHAS.out, hh0.look s hat, ← HCT.out]; clear hat hwc)
    exact HR.out _ _ ⟨_, rfl, Own.nil_ _ _ _ _, Below.refl _ _⟩
  · have hin : s ∈ names := of_decide_eq_true HTW.out.symm
    have hlt := atC_lt hin
    rw [← HCT.out] at hlt
    have hy := HY.out
    rw [if_pos hin, ← HCT.out] at hy
    subst hy
    have hel : (names.eraseIdx ct).length = ct + (names.length - (ct + 1)) := by rw [List.length_eraseIdx, if_pos hlt]; omega
    have HEL := Lib.hid hel
    clear hin hel
    go_wp2_with (at_lookup; refine wpList_lookup_own_ok_int _ rfl _ _ 67 rfl 9 3 .i64 str_keyed Tryd.underlying67 Tryd.underlying3 (zeroI _) b names.length _ rfl h6 _ _ rfl HKEY.out ?_; intro c1 hat hwc; rw [HHAS.out, hh0.look s hat, ← HCT.out]; clear hat hwc)
    refine (cloneS_any _ names _ hr hl).mono ?_
    rintro e w1 ⟨y, rfl, hy, b1⟩
    obtain ⟨gy, cy, rfl, hy1, hy2, -⟩ := hy.head (by omega)
    go_wp2_with fail
    refine (delete_any gy names.length cy ct names _ hy hlt).mono ?_
    rintro e w2 ⟨rfl, hown2, hg2⟩
    go_wp2
    exact HR.out _ _ ⟨_, rfl, by rw [HEL.out]; exact hown2, below_grown b1 hg2 (fun g hg => by injection hg with hg; omega) b1.size⟩
theorem RdT.lit1 {w : World} {v : Value} {l : Row} (e : TypeId) (h : RdS w w.heap.size v l) : RdT (w.alloc (.cells #[v] e)) (w.alloc (.cells #[v] e)).heap.size (.slice (some ⟨w.heap.size, 0, none⟩) 1 1) [l] :=
  ⟨_, _, [v], rfl, by have := Sl.newrow w #[v] e (by simp); simpa using this, Each.nil.cons (h.next ((Below.refl w.heap.size w).alloc (Nat.le_refl _) _))⟩
theorem few15_any (v : Value) (l : Row) (w : World) (h : RdS w w.heap.size v l) :
    Calls Tryd.prog 11 #[v] w fun e w' => (∃ g : Bool, e = .returned (.bool g) ∧ (g = true → l.length ≤ 30 ∧ bytesR l ≤ 400)) ∧ Below w.heap.size w w' := by
  refine cps fun R HR => ?_
  have hv := h
  obtain ⟨A, c, rfl, -⟩ := h.is
  have ht := RdT.lit1 22 hv
  go_enter Tryd.func11, Tryd.ntmps11
  go_wp2_with fail
  refine (great_any _ [l] 1 30 400 _ ht (by omega) (by omega) (by omega)).mono ?_
  rintro e w1 ⟨⟨g, rfl, hg⟩, rfl⟩
  have hres : (!g) = true → l.length ≤ 30 ∧ bytesR l ≤ 400 := fun hh => by
    obtain ⟨-, q1, q2⟩ := hg (by simpa using hh)
    simp [tot] at q1 q2
    exact ⟨q1, q2⟩
  have HRES := Lib.hid hres
  clear hg hres ht
  go_wp2
  exact HR.out _ _ ⟨⟨!g, rfl, HRES.out⟩, (Below.refl _ _).alloc (Nat.le_refl _) _⟩
end Go.Proofs.YtamhdlopchhdjaaDoor

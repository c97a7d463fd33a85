/- Layer 15: a head's Names, Len, At, Bind, Get; the reference's Bind. -/
import Derived.Test.YtamhdlopchhdjaaDoorHeadC
namespace Go.Proofs.YtamhdlopchhdjaaDoor
open Go.RowKit Go.ChangeShapes Go.WideShapes
set_option linter.unusedVariables false
set_option linter.unusedSimpArgs false

theorem names_any (h : Value) (names : Row) (w : World) {base : Nat} (hh : HeadAt w base h names) (hl : names.length ≤ 100000) :
    Calls Tryd.prog 15 #[h] w fun e w' => ∃ u, e = .returned u ∧ Own w' w.heap.size 9 1 u names.length (strV names) ∧ Below w.heap.size w w' := by
  refine cps fun R HR => ?_
  obtain ⟨g, b, v, rfl, h2, h3, h4, h5, h6, h7⟩ := hh.is
  have hr := RdS.of_own h7
  obtain ⟨A, c, rfl, -⟩ := hr.is
  have c0 := h5.cell 0
  clear h4 hh
  go_enter Tryd.func15, Tryd.ntmps15
  go_wp2_with fail
  refine (cloneS_any _ names _ hr hl).mono ?_
  rintro e w1 ⟨y, rfl, hy, b1⟩
  go_wp2
  exact HR.out _ _ ⟨_, rfl, hy, b1⟩
theorem hlen_any (h : Value) (names : Row) (w : World) {base : Nat} (hh : HeadAt w base h names) :
    Calls Tryd.prog 17 #[h] w fun e w' => e = .returned (.int .i64 names.length) ∧ w' = w := by
  refine cps fun R HR => ?_
  obtain ⟨g, b, v, rfl, h2, h3, h4, h5, h6, h7⟩ := hh.is
  have hr := RdS.of_own h7
  obtain ⟨A, c, rfl, -⟩ := hr.is
  have c0 := h5.cell 0
  have hfew := hr.few
  clear h4 hh
  go_enter Tryd.func17, Tryd.ntmps17
  go_wp2
  exact HR.out _ _ ⟨rfl, rfl⟩
/-- A name's number, or 0. -/
def atC (names : Row) (s : ByteArray) : Nat := (posF 0 names s).toNat
theorem atC_int (names : Row) (s : ByteArray) : max (posF 0 names s) 0 = (atC names s : Int) := by unfold atC; omega
theorem HeadAt.look {w : World} {base : Nat} {h : Value} {names : Row} (hh : HeadAt w base h names) (s : ByteArray) {c : Int} (hat : (headD names names.length).atKey (keyB s) (.lit (.int .i64 0)) = .lit (.int .i64 c)) : c = (atC names s : Int) := by
  have := headD_at names s names.length (Nat.le_refl _) (by rw [List.take_length]; exact hh.nodup)
  rw [hat, List.take_length, atC_int] at this
  injection this with h
  injection h with _ h
theorem headD_hasAll (names : Row) (s : ByteArray) : Go.Maps.has (headD names names.length) (keyB s) = decide (s ∈ names) := by
  rw [headD_has names s _ (Nat.le_refl _)]
  congr 1
  rw [List.take_length]
theorem hat_any (h : Value) (names : Row) (s : ByteArray) (w : World) {base : Nat} (hh : HeadAt w base h names) (hs : s.size ≤ 100000) :
    Calls Tryd.prog 19 #[h, .string s] w fun e w' => e = .returned (.tuple #[.int .i64 (atC names s), .bool (decide (s ∈ names))]) ∧ w' = w := by
  refine cps fun R HR => ?_
  have hh0 := hh
  obtain ⟨g, b, v, rfl, h2, h3, h4, h5, h6, h7⟩ := hh.is
  have c1 := h5.cell 1
  have HKEY := Lib.hid (key_of s hs)
  have HHAS := Lib.hid (headD_hasAll names s)
  obtain ⟨tw, htw⟩ : ∃ tw, tw = decide (s ∈ names) := ⟨_, rfl⟩
  rw [← htw] at HR HHAS
  clear h4 hh htw
  go_enter Tryd.func19, Tryd.ntmps19
  go_wp2_with (at_lookup; refine wpList_lookup_own_ok_int _ rfl _ _ 67 rfl 9 3 .i64 str_keyed Tryd.underlying67 Tryd.underlying3 (zeroI _) b names.length _ rfl h6 _ _ rfl HKEY.out ?_; intro c1 hat hwc; rw [HHAS.out, hh0.look s hat]; clear hat hwc)
  exact HR.out _ _ ⟨rfl, rfl⟩

/-- The first of some that are no names, so many being behind. -/
def misF (names : Row) : Nat → Row → Nat
  | j, [] => j
  | j, s :: r => if s ∈ names then misF names (j + 1) r else j
def allIn (names want : Row) : Bool := want.all fun s => decide (s ∈ names)
def numsF (names want : Row) : List Int := want.map fun s => (atC names s : Int)
/-- What Bind tells: the numbers, the place, the error's number. -/
def bindC (names want : Row) : List Int × Nat × Nat :=
  if allIn names want then (numsF names want, want.length, 0) else ([], misF names 0 want, 16)
theorem allIn_snoc (names want : Row) {k : Nat} (hk : k < want.length) : allIn names (want.take (k + 1)) = (allIn names (want.take k) && decide (want[k] ∈ names)) := by
  unfold allIn
  rw [List.take_succ_eq_append_getElem hk, List.all_append]
  simp
theorem allIn_mem {names want : Row} (h : allIn names want = true) {s : ByteArray} (hs : s ∈ want) : s ∈ names := by
  have := List.all_eq_true.1 h s hs
  exact of_decide_eq_true this
theorem numsF_snoc (names want : Row) {k : Nat} (hk : k < want.length) : numsF names (want.take (k + 1)) = numsF names (want.take k) ++ [(atC names want[k] : Int)] := by
  unfold numsF
  rw [List.take_succ_eq_append_getElem hk, List.map_append]
  rfl
set_option maxHeartbeats 1000000 in
theorem hbind_any (h u : Value) (names want : Row) (w : World) {base : Nat} (hh : HeadAt w base h names) (hu : RdS w w.heap.size u want) (hs : ∀ s ∈ want, s.size ≤ 100000) (hl : want.length ≤ 100000) :
    Calls Tryd.prog 20 #[h, u] w fun e w' => ∃ o, e = .returned (.tuple #[o, .int .i64 (bindC names want).2.1, .int .i64 (bindC names want).2.2]) ∧ Own w' w.heap.size 3 1 o (bindC names want).1.length (intV (bindC names want).1) ∧ Below w.heap.size w w' := by
  refine cps fun R HR => ?_
  obtain ⟨i0, hi0, hz0, hz1, hz2⟩ := info_parts int_info
  have hh0 := hh
  obtain ⟨g, b, v, rfl, -, -, -, -, -, -⟩ := hh.is
  have hu0 := hu
  obtain ⟨A, c, rfl, -⟩ := hu.is
  have hfew := hu.few
  obtain ⟨Y, hY⟩ : ∃ Y, Y = bindC names want := ⟨_, rfl⟩
  rw [← hY] at HR
  unfold bindC at hY
  have HY := Lib.hid hY; have HS := Lib.hid hs
  clear hY hs hu hh
  go_enter Tryd.func20, Tryd.ntmps20
  go_wp2
  go_loopw [7, 14] (fun o i wr => ∃ k : Nat, k ≤ want.length ∧ i = .int .i64 k ∧ allIn names (want.take k) = true ∧ misF names k (want.drop k) = misF names 0 want ∧ Own wr w.heap.size 3 1 o k (intV (numsF names (want.take k))) ∧ Below w.heap.size w wr) (fun _ i _ => want.length - (intOf i).toNat)
  case atStart => exact ⟨0, Nat.zero_le _, rfl, rfl, rfl, Own.nil_ _ _ _ _, Below.refl _ _⟩
  case round =>
    obtain ⟨k, hk, rfl, hA, hI, hO, hB⟩ := hrel
    have HA := Lib.hid hA; have HI := Lib.hid hI
    clear hA hI
    by_cases hlt : k < want.length
    · obtain ⟨p, c3, hv, hc⟩ := (hu0.below hB).at hlt
      injection hv with hA _ hcc
      subst hA
      subst hcc
      have hhr := hh0.keep hB
      obtain ⟨g', b', v', e1, h2, h3, h4, h5, h6, h7⟩ := hhr.is
      injection e1 with e1
      injection e1 with e1
      injection e1 with e1
      subst e1
      have cb := h5.cell 1
      have hs1 := allIn_snoc names want hlt
      have hs2 : want.drop k = want[k] :: want.drop (k + 1) := List.drop_eq_getElem_cons hlt
      have hs3 := numsF_snoc names want hlt
      have hs4 : want[k].size ≤ 100000 := HS.out _ (List.getElem_mem hlt)
      have hs5 : allIn names want = true → want[k] ∈ names := fun hh => allIn_mem hh (List.getElem_mem hlt)
      obtain ⟨x, hx⟩ : ∃ x, x = want[k] := ⟨_, rfl⟩
      rw [← hx] at hc hs1 hs2 hs3 hs4 hs5
      have S1 := Lib.hid hs1; have S2 := Lib.hid hs2; have S3 := Lib.hid hs3; have S5 := Lib.hid hs5
      clear hx hs1 hs2 hs3 h4 hs5
      have dk : decide ((k : Int) < want.length) = true := decide_eq_true (by omega)
      have HKEY := Lib.hid (key_of x hs4)
      have HHAS := Lib.hid (headD_hasAll names x)
      obtain ⟨tw, htw⟩ : ∃ tw, tw = decide (x ∈ names) := ⟨_, rfl⟩
      rw [← htw] at HHAS
      have HTW := Lib.hid htw
      obtain ⟨ct, hct⟩ : ∃ ct, ct = atC names x := ⟨_, rfl⟩
      have HCT := Lib.hid hct
      clear htw hct
      cases tw
      · have hno : allIn names want = false := by
          rw [Bool.eq_false_iff]
          intro hh
          exact of_decide_eq_false HTW.out.symm (S5.out hh)
        have hy := HY.out
        rw [hno, if_neg (by simp), ← HI.out, S2.out, misF, if_neg (of_decide_eq_false HTW.out.symm)] at hy
        subst hy
        clear hno
        go_wp2_with (at_lookup; refine wpList_lookup_own_ok_int _ rfl _ _ 67 rfl 9 3 .i64 str_keyed Tryd.underlying67 Tryd.underlying3 (zeroI _) b' names.length _ rfl h6 _ _ rfl HKEY.out ?_; intro c1 hat hwc; rw [HHAS.out, hhr.look x hat, ← HCT.out]; clear hat hwc)
        refine bodyPost_ret (v := .tuple #[.slice none 0 0, .int .i64 k, .int .i64 (16 : Nat)]) (by simp [results, Tryd.results20, go_sem]) rfl (HR.out _ _ ⟨_, rfl, Own.nil_ _ _ _ _, hB⟩)
      · go_wp2_with (first | (at_lookup; refine wpList_lookup_own_ok_int _ rfl _ _ 67 rfl 9 3 .i64 str_keyed Tryd.underlying67 Tryd.underlying3 (zeroI _) b' names.length _ rfl h6 _ _ rfl HKEY.out ?_; intro c1 hat hwc; rw [HHAS.out, hhr.look x hat, ← HCT.out]; clear hat hwc) | (at_builtin; refine wpList_push rfl _ _ _ rfl w.heap.size 3 i0 _ 8 Tryd.underlying37 hi0 hz0 hz1 hz2 rfl (by omega) u7 k _ (.int .i64 ct) rfl hO rfl rfl (by omega) hB.size ?_; intro v5 w5 hown5 hg5 hat5))
        have ho2 : Own w5 w.heap.size 3 1 v5 (k + 1) (intV (numsF names (want.take (k + 1)))) := by rw [S3.out, intV_snoc, ← HCT.out]; exact hown5
        have ha2 : allIn names (want.take (k + 1)) = true := by rw [S1.out, HA.out, ← HTW.out]; rfl
        have hi2 : misF names (k + 1) (want.drop (k + 1)) = misF names 0 want := by rw [← HI.out, S2.out, misF, if_pos (of_decide_eq_true HTW.out.symm)]
        have hb2 : Below w.heap.size w w5 := below_grown hB hg5 (fun g hg => (hO.lt g hg).1) hB.size
        exact ⟨⟨k + 1, by omega, by go_num, ha2, hi2, ho2, hb2⟩, by simp [intOf]; omega⟩
    · obtain rfl : k = want.length := by omega
      have hy := HY.out
      have hall := HA.out
      rw [List.take_length] at hall
      rw [hall, if_pos rfl] at hy
      subst hy
      rw [List.take_length] at hO
      have hlen : (numsF names want).length = want.length := by unfold numsF; rw [List.length_map]
      have HLEN := Lib.hid hlen
      clear hlt hall hlen
      go_wp2
      refine bodyPost_ret (v := .tuple #[u7, .int .i64 want.length, .int .i64 (0 : Nat)]) (by simp [results, Tryd.results20, go_sem]) rfl (HR.out _ _ ⟨_, rfl, by rw [HLEN.out]; exact hO, hB⟩)
end Go.Proofs.YtamhdlopchhdjaaDoor

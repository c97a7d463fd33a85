/- Layer 15: New. -/
import Derived.Test.YtgiemhooeoakmaaDoorHeadA
import Derived.Test.YtgiemhooeoakmaaDoorTabW
import Derived.Test.YtgiemhooeoakmaaDoorUtfT
import Derived.Maps.OwnSet
import Derived.Outline
namespace Go.Proofs.YtgiemhooeoakmaaDoor
open Go.RowKit Go.ChangeShapes Go.WideShapes
set_option linter.unusedVariables false
set_option linter.unusedSimpArgs false

theorem str_keyed : Go.Maps.Keyed Tryd.prog 9 := Go.Maps.string_keyed Tryd.underlying9
theorem zeroI (w : World) : (zeroValue 3).run Tryd.prog w = .ok (.int .i64 0) w := by kernel_rfl
theorem key_of (s : ByteArray) (h : s.size ≤ 100000) : keyOf Tryd.prog 9 (.string s) = some (keyB s) := Go.WideMaps.keyOf_string_mk Tryd.underlying9 (by unfold maxLen; omega)
/-- The first name that may not be, so many being behind; the error's number. -/
def newF : Nat → Row → Row → Nat × Nat
  | j, _, [] => (j, 0)
  | j, seen, n :: r => if validF n.data.toList = false then (j, 14) else if n ∈ seen then (j, 15) else newF (j + 1) (seen ++ [n]) r
def newC (names : Row) : Nat × Nat := if names = [] then (0, 13) else newF 0 [] names
/-- A head, as it lies in memory. -/
structure HeadAt (w : World) (base : Nat) (h : Value) (names : Row) : Prop where
  is : ∃ g b v, h = .pointer (some ⟨g, 0, none⟩) ∧ base ≤ g ∧ base ≤ b ∧ g ≠ b ∧ Box w g 195 #[v, .map (some b)] ∧ w.ownsMap Tryd.prog 9 (plainElem (H := Unit) Tryd.prog 3) b names.length (headD names names.length) ∧ Own w base 9 1 v names.length (strV names)
  nodup : names.Nodup
  pos : 0 < names.length
theorem HeadAt.agree {w w' : World} {base : Nat} {h : Value} {names : Row} (hh : HeadAt w base h names) (hb : ∀ g, base ≤ g → g < w.heap.size → w'.heap[g]? = w.heap[g]?) : HeadAt w' base h names := by
  obtain ⟨g, b, v, h1, h2, h3, h4, h5, h6, h7⟩ := hh.is
  refine ⟨⟨g, b, v, h1, h2, h3, h4, ⟨(hb g h2 h5.lt).trans h5.is⟩, ?_, ?_⟩, hh.nodup, hh.pos⟩
  · have hlt := h6.lt
    obtain ⟨es, clock, q1, q2⟩ := h6
    exact ⟨es, clock, (hb b h3 hlt).trans q1, q2⟩
  · refine ⟨h7.1, ?_⟩
    have hlt := h7.lt
    rcases h7.2 with hn | ⟨g', cap, cur, fr, hv, hg, hh', rest⟩
    · exact .inl hn
    · refine .inr ⟨g', cap, cur, fr, hv, hg, ?_, rest⟩
      have := hlt g' (by rw [hv]; rfl)
      rw [hb g' this.1 this.2]
      exact hh'
theorem HeadAt.keep {w w' : World} {base : Nat} {h : Value} {names : Row} (hh : HeadAt w base h names) (hb : Below w.heap.size w w') : HeadAt w' base h names := hh.agree fun g _ hg => hb.block g hg

theorem b1a (w : World) : Below w.heap.size w (w.alloc (.map #[] 0)) := (Below.refl _ _).alloc (Nat.le_refl _) _
/-- A head in the making: k names are in the map. -/
structure HeadK (w : World) (base g b : Nat) (v : Value) (names : Row) (k : Nat) : Prop where
  box : Box w g 195 #[v, .map (some b)]
  map : w.ownsMap Tryd.prog 9 (plainElem (H := Unit) Tryd.prog 3) b k (headD names k)
  own : Own w base 9 1 v names.length (strV names)
theorem HeadK.keep {w w' : World} {base g b k : Nat} {v : Value} {names : Row} (h : HeadK w base g b v names k) (hb : Below w.heap.size w w') : HeadK w' base g b v names k :=
  ⟨h.box.below hb h.box.lt, h.map.kept (below_grownBy hb none) (by simp), h.own.below hb (Nat.le_refl _)⟩
theorem HeadK.step {w w' : World} {base g b k : Nat} {v : Value} {names : Row} (h : HeadK w base g b v names k) (hgb : g ≠ b) (hvb : v.ownBlock ≠ some b) {x : ByteArray} (hx : names.getD k ⟨#[]⟩ = x)
    (hm : w'.ownsMap Tryd.prog 9 (plainElem (H := Unit) Tryd.prog 3) b (k + 1) ((headD names k).put (keyB x) (.lit (.int .i64 k)))) (hg : w.grownBy w' (some b)) : HeadK w' base g b v names (k + 1) :=
  ⟨h.box.grown hg (by simp [hgb]), by rw [headD, hx]; exact hm, h.own.kept hg (.inr hvb)⟩
set_option maxHeartbeats 1000000 in
theorem new_any (v : Value) (names : Row) (w : World) (h : RdS w w.heap.size v names) (hl : names.length ≤ 100000) (hs : ∀ s ∈ names, s.size ≤ 100000) (hT : Tab w) :
    Calls Tryd.prog 110 #[v] w fun e w' => ∃ u, e = .returned (.tuple #[u, .int .i64 (newC names).1, .int .i64 (newC names).2]) ∧ ((newC names).2 = 0 → HeadAt w' w.heap.size u names) ∧ ((newC names).2 ≠ 0 → u = .pointer none) ∧ Below w.heap.size w w' := by
  refine cps fun R HR => ?_
  have hmm := @run_makeMap Tryd.prog
  have h0 := h
  obtain ⟨A, c, rfl, -⟩ := h.is
  have hfew := h.few
  clear h
  obtain ⟨Y, hY⟩ : ∃ Y, Y = newC names := ⟨_, rfl⟩
  rw [← hY] at HR
  unfold newC at hY
  have HY := Lib.hid hY; have HS := Lib.hid hs; have HT := Lib.hid hT
  clear hY hs hT
  go_enter Tryd.func110, Tryd.ntmps110
  go_wp2_with fail
  refine (cloneS_any _ names _ h0 hl).mono ?_
  rintro e w1 ⟨y, rfl, hy, b1⟩
  have T1 := Lib.hid (HT.out.below b1)
  have hy0 := hy
  obtain ⟨yA, yc, rfl, -⟩ := hy.form
  clear hy
  by_cases hn : names = []
  · subst hn
    have hy2 := HY.out
    rw [if_pos rfl] at hy2
    subst hy2
    go_wp2
    refine bodyPost_ret (v := .tuple #[.pointer none, .int .i64 (0 : Nat), .int .i64 (13 : Nat)]) (by simp [results, Tryd.results110, go_sem]) rfl (HR.out _ _ ⟨_, rfl, fun h => by simp at h, fun _ => rfl, ?_⟩)
    exact (b1.alloc b1.size _).alloc (by simp; exact Nat.le_succ_of_le b1.size) _
  · have hpos : 0 < names.length := List.length_pos_iff.2 hn
    have d : ((names.length : Int) == 0) = false := by rw [beq_eq_false_iff_ne]; omega
    have HY2 := Lib.hid (show Y = newF 0 [] names by rw [HY.out, if_neg hn])
    clear HY hn
    go_wp2
    have hmk := World.ownsMap_made (H := Unit) w1 Tryd.prog 9 (plainElem Tryd.prog 3)
    have hw1 : w.heap.size ≤ w1.heap.size := b1.size
    have hK0 : HeadK ((w1.alloc (.map #[] 0)).alloc (.cells #[.slice yA names.length yc, .map (some w1.heap.size)] 195)) w.heap.size (w1.heap.size + 1) w1.heap.size (.slice yA names.length yc) names 0 := by
      refine ⟨?_, hmk.alloc _, (hy0.below (b1a w1) (Nat.le_refl _)).below ((Below.refl _ _).alloc (Nat.le_refl _) _) (Nat.le_refl _)⟩
      have := Box.new (w1.alloc (.map #[] 0)) 195 #[.slice yA names.length yc, .map (some w1.heap.size)]
      simpa using this
    have hB0 : Below w.heap.size w ((w1.alloc (.map #[] 0)).alloc (.cells #[.slice yA names.length yc, .map (some w1.heap.size)] 195)) := (b1.alloc b1.size _).alloc (by simp; omega) _
    have NB := Lib.hid (show (Value.slice yA names.length yc).ownBlock ≠ some w1.heap.size from fun e => by
      have := (hy0.lt _ e).2
      omega)
    clear hmm hmk
    go_loopw [20] (fun i wr => ∃ k : Nat, k ≤ names.length ∧ i = .int .i64 k ∧ newF k (names.take k) (names.drop k) = Y ∧ (names.take k).Nodup ∧ HeadK wr w.heap.size (w1.heap.size + 1) w1.heap.size (.slice yA names.length yc) names k ∧ Below w.heap.size w wr) (fun i _ => names.length - (intOf i).toNat)
    case atStart => exact ⟨0, Nat.zero_le _, rfl, HY2.out.symm, List.nodup_nil, hK0, hB0⟩
    case round =>
      obtain ⟨k, hk, rfl, hN, hD, hK, hB⟩ := hrel
      have HN := Lib.hid hN; have HD := Lib.hid hD
      clear hN hD
      by_cases hlt : k < names.length
      · obtain ⟨p, c3, hv, hc⟩ := (h0.below hB).at hlt
        injection hv with hA _ hcc
        subst hA
        subst hcc
        have hs1 : names.take (k + 1) = names.take k ++ [names[k]] := List.take_succ_eq_append_getElem hlt
        have hs2 : names.drop k = names[k] :: names.drop (k + 1) := List.drop_eq_getElem_cons hlt
        have hs3 : names.getD k ⟨#[]⟩ = names[k] := by rw [List.getD_eq_getElem?_getD, List.getElem?_eq_getElem hlt]; rfl
        have hs4 : names[k].size ≤ 100000 := HS.out _ (List.getElem_mem hlt)
        obtain ⟨x, hx⟩ : ∃ x, x = names[k] := ⟨_, rfl⟩
        rw [← hx] at hc hs1 hs2 hs3 hs4
        have S1 := Lib.hid hs1; have S2 := Lib.hid hs2; have S3 := Lib.hid hs3
        clear hx hs1 hs2 hs3
        have dk : decide ((k : Int) < names.length) = true := decide_eq_true (by omega)
        have hc0 := hK.box.cell 1
        have hkey := key_of x hs4
        have HKEY := Lib.hid hkey
        clear hkey
        obtain ⟨tw, htw⟩ : ∃ tw, tw = decide (x ∈ names.take k) := ⟨_, rfl⟩
        have hhas := (headD_has names x k hk).trans htw.symm
        have HHAS := Lib.hid hhas; have HTW := Lib.hid htw
        clear hhas htw
        go_wp2_with (at_lookup; refine wpList_lookup_own_ok_int _ rfl _ _ 193 rfl 9 3 .i64 str_keyed Tryd.underlying193 Tryd.underlying3 (zeroI _) w1.heap.size k _ rfl hK.map _ _ rfl HKEY.out ?_; intro c1 hat hwc; rw [HHAS.out]; clear hat hwc)
        refine (valid_any x _ (by unfold maxLen; omega) (HT.out.below hB)).mono ?_
        rintro e w2 ⟨rfl, b2⟩
        have hB2 := hB.trans (b2.mono hB.size)
        have hK2 := hK.keep b2
        obtain ⟨vl, hvl⟩ : ∃ vl, vl = validF x.data.toList := ⟨_, rfl⟩
        rw [← hvl]
        have HVL := Lib.hid hvl
        have hh0 := hK2.box.cell 0
        have hh1 := hK2.box.cell 1
        clear hvl hK hc hc0
        cases vl
        · have hy2 := HN.out
          rw [S2.out, newF, if_pos HVL.out.symm] at hy2
          subst hy2
          go_wp2
          refine bodyPost_ret (v := .tuple #[.pointer none, .int .i64 k, .int .i64 (14 : Nat)]) (by simp [results, Tryd.results110, go_sem]) rfl (HR.out _ _ ⟨_, rfl, fun h => by simp at h, fun _ => rfl, hB2⟩)
        · cases tw
          · have hni : x ∉ names.take k := of_decide_eq_false HTW.out.symm
            have hn1 : newF (k + 1) (names.take (k + 1)) (names.drop (k + 1)) = Y := by
              have h := HN.out
              rw [S2.out, newF, if_neg (by rw [← HVL.out]; simp), if_neg hni, ← S1.out] at h
              exact h
            have hd1 : (names.take (k + 1)).Nodup := by
              rw [S1.out, List.nodup_append]
              refine ⟨HD.out, by simp, fun a ha b hb => ?_⟩
              rw [List.mem_singleton.1 hb]
              exact fun e => hni (e ▸ ha)
            have N1 := Lib.hid hn1; have D1 := Lib.hid hd1
            clear hn1 hd1 hni
            go_wp2_with (at_mapUpdate; refine wpList_mapUpdate_own _ rfl _ _ _ 193 rfl 9 3 str_keyed Tryd.underlying193 _ w1.heap.size k _ rfl hK2.map (by unfold maxLen; omega) _ _ _ rfl rfl HKEY.out _ [] (plainElem_int Tryd.underlying3 (WalkArith.wf_i64 (by omega))) ?_; intro w3 hown3 hg3)
            have hK3 := hK2.step (by omega) NB.out S3.out hown3 hg3
            exact ⟨⟨k + 1, by omega, by go_num, N1.out, D1.out, hK3, below_grown hB2 hg3 (fun g hg => by injection hg with hg; omega) hB2.size⟩, by simp [intOf]; omega⟩
          · have hin : x ∈ names.take k := of_decide_eq_true HTW.out.symm
            have hy2 := HN.out
            rw [S2.out, newF, if_neg (by rw [← HVL.out]; simp), if_pos hin] at hy2
            subst hy2
            clear hin
            go_wp2
            refine bodyPost_ret (v := .tuple #[.pointer none, .int .i64 k, .int .i64 (15 : Nat)]) (by simp [results, Tryd.results110, go_sem]) rfl (HR.out _ _ ⟨_, rfl, fun h => by simp at h, fun _ => rfl, hB2⟩)
      · obtain rfl : k = names.length := by omega
        have hy2 := HN.out
        rw [List.drop_length, newF] at hy2
        subst hy2
        have hd := HD.out
        rw [List.take_length] at hd
        have HD2 := Lib.hid hd
        clear hd hlt
        go_wp2
        refine bodyPost_ret (v := .tuple #[.pointer (some ⟨w1.heap.size + 1, 0, none⟩), .int .i64 names.length, .int .i64 (0 : Nat)]) (by simp [results, Tryd.results110, go_sem]) rfl (HR.out _ _ ⟨_, rfl, fun _ => ⟨⟨_, _, _, rfl, by omega, by omega, by omega, hK.box, hK.map, hK.own⟩, HD2.out, hpos⟩, fun h => absurd rfl h, hB⟩)
end Go.Proofs.YtgiemhooeoakmaaDoor

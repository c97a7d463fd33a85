/- Layer 15: names and their numbers: the map as a datum. Layer 15: New. Layer 15: the reference's At. Layer 15, plain: numbers of names. Layer 18: Names, Check; the reference's; the law's Ref. Layer 18, the reference: Names, Check; the law's Ref. slices.IndexFunc of columns, at the closure of Find. Layer 18: Find. -/
import Derived.Maps.OwnSet
import Derived.Outline
import Derived.WalkMore
import Derived.Deep.RegionHeld3
import Derived.Test.YtgiemhooeoakmaaDoorKA
import Derived.Test.YtgiemhooeoakmaaDoorKB
namespace Go.Proofs.YtgiemhooeoakmaaDoor
open Go.RowKit Go.ChangeShapes Go.WideShapes
set_option linter.unusedVariables false
set_option linter.unusedSimpArgs false

def keyB (s : ByteArray) : Lit := .string s.data.toList
theorem keyB_inj {a b : ByteArray} (h : keyB a = keyB b) : a = b := by
  injection h with h
  exact ByteArray.ext (Array.toList_inj.1 h)
/-- The numbers of the first k names. -/
def headD (names : Row) : Nat → DataW Unit
  | 0 => .map []
  | k + 1 => (headD names k).put (keyB (names.getD k ⟨#[]⟩)) (.lit (.int .i64 k))
theorem headD_map (names : Row) : ∀ k, Maps.IsMap (headD names k)
  | 0 => ⟨[], rfl⟩
  | k + 1 => by
    obtain ⟨es, h⟩ := headD_map names k
    rw [headD, h]
    exact ⟨_, rfl⟩
/-- A name's number; -1: there is none. -/
def posF : Nat → Row → ByteArray → Int
  | _, [], _ => -1
  | j, a :: r, s => if a = s then j else posF (j + 1) r s
instance decMem (s : ByteArray) (l : Row) : Decidable (s ∈ l) := decidable_of_iff (l.any (fun a => decide (a = s)) = true) (by simp)
theorem posF_snoc : ∀ (l : Row) (j : Nat) (a s : ByteArray), posF j (l ++ [a]) s = if s ∈ l then posF j l s else if a = s then (j + l.length : Nat) else -1
  | [], j, a, s => by simp [posF]
  | b :: l, j, a, s => by
    rw [List.cons_append, posF, posF, posF_snoc l (j + 1) a s]
    by_cases h : b = s
    · simp [h]
    · have h' : ¬ s = b := fun e => h e.symm
      simp only [if_neg h, List.mem_cons, h', false_or, List.length_cons]
      rw [show j + 1 + l.length = j + (l.length + 1) by omega]
theorem posF_none {l : Row} {s : ByteArray} (h : s ∉ l) : ∀ j, posF j l s = -1 := by
  induction l with
  | nil => intro j; rfl
  | cons a l ih =>
    intro j
    rw [posF, if_neg (fun e => h (by simp [e])), ih (fun hh => h (by simp [hh]))]
theorem posF_some : ∀ {l : Row} {s : ByteArray}, s ∈ l → ∀ j : Nat, (j : Int) ≤ posF j l s ∧ posF j l s < j + l.length
  | a :: l, s, h, j => by
    rw [posF]
    split
    · simp; omega
    · rename_i hne
      have hm : s ∈ l := by
        rcases List.mem_cons.1 h with e | e
        · exact absurd e.symm hne
        · exact e
      have := posF_some hm (j + 1)
      simp
      omega
theorem key_isKey (s : ByteArray) : WideAt.IsKeyLit (keyB s) := by
  unfold keyB
  first | exact trivial | simp [WideAt.IsKeyLit]
theorem headD_has (names : Row) (s : ByteArray) : ∀ k, k ≤ names.length → Maps.has (headD names k) (keyB s) = decide (s ∈ names.take k)
  | 0, _ => by simp [headD, Maps.has]
  | k + 1, h => by
    have hk : k < names.length := by omega
    have ht := List.take_succ_eq_append_getElem hk
    rw [headD, List.getD_eq_getElem?_getD, List.getElem?_eq_getElem hk]
    simp only [Option.getD_some]
    by_cases hs : s = names[k]
    · rw [hs, Maps.has_put_same (headD_map names k) (key_isKey _)]
      symm
      rw [decide_eq_true_iff, ht]
      exact List.mem_append_right _ (List.mem_singleton.2 rfl)
    · rw [Maps.has_put_other (fun e => hs (keyB_inj e)), headD_has names s k (by omega)]
      rw [Bool.eq_iff_iff, decide_eq_true_iff, decide_eq_true_iff, ht, List.mem_append, List.mem_singleton]
      exact ⟨.inl, fun h => h.resolve_right hs⟩
theorem headD_at (names : Row) (s : ByteArray) : ∀ k, k ≤ names.length → (names.take k).Nodup → (headD names k).atKey (keyB s) (.lit (.int .i64 0)) = .lit (.int .i64 (max (posF 0 (names.take k) s) 0))
  | 0, _, _ => by simp [headD, posF, DataW.atKey]; decide
  | k + 1, h, hn => by
    have hk : k < names.length := by omega
    rw [List.take_succ_eq_append_getElem hk] at hn ⊢
    rw [headD, List.getD_eq_getElem?_getD, List.getElem?_eq_getElem hk, posF_snoc]
    simp only [Option.getD_some]
    have hn1 := (List.nodup_append.1 hn).1
    by_cases hs : s = names[k]
    · have hni : s ∉ names.take k := by
        intro hm
        have := (List.nodup_append.1 hn).2.2 s hm names[k] (by simp)
        exact this hs
      rw [if_neg hni, if_pos hs.symm, ← hs, Maps.atKey_put_same (headD_map names k) (key_isKey _), List.length_take]
      congr 2
      omega
    · rw [Maps.atKey_put_other (fun e => hs (keyB_inj e)), headD_at names s k (by omega) hn1]
      by_cases hm : s ∈ names.take k
      · rw [if_pos hm]
      · rw [if_neg hm, if_neg (fun e => hs e.symm), posF_none hm]
end Go.Proofs.YtgiemhooeoakmaaDoor

namespace Go.Proofs.YtgiemhooeoakmaaDoor
open Go.RowKit Go.ChangeShapes Go.WideShapes
set_option linter.unusedVariables false
set_option linter.unusedSimpArgs false

theorem str_keyed : Go.Maps.Keyed Tryd.prog 9 := Go.Maps.string_keyed Tryd.underlying9
theorem zeroI (w : World) : (zeroValue 3).run Tryd.prog w = .ok (.int .i64 0) w := by kernel_rfl
theorem key_of (s : ByteArray) (h : s.size ≤ 100000) : keyOf Tryd.prog 9 (.string s) = some (keyB s) := Go.WideMaps.keyOf_string_mk Tryd.underlying9 (by unfold maxLen; omega)
/-- The first name that may not be, so many being behind; the error's number. -/
def newF : Nat → Row → Row → Nat × Nat
  | j, _, [] => (j, 0)
  | j, seen, n :: r => if validF n.data.toList = false then (j, 14) else if n ∈ seen then (j, 15) else newF (j + 1) (seen ++ [n]) r
def newC (names : Row) : Nat × Nat := if names = [] then (0, 13) else newF 0 [] names
/-- A head, as it lies in memory. -/
structure HeadAt (w : World) (base : Nat) (h : Value) (names : Row) : Prop where
  is : ∃ g b v, h = .pointer (some ⟨g, 0, none⟩) ∧ base ≤ g ∧ base ≤ b ∧ g ≠ b ∧ Box w g 195 #[v, .map (some b)] ∧ w.ownsMap Tryd.prog 9 (plainElem (H := Unit) Tryd.prog 3) b names.length (headD names names.length) ∧ Own w base 9 1 v names.length (strV names)
  nodup : names.Nodup
  pos : 0 < names.length
theorem HeadAt.agree {w w' : World} {base : Nat} {h : Value} {names : Row} (hh : HeadAt w base h names) (hb : ∀ g, base ≤ g → g < w.heap.size → w'.heap[g]? = w.heap[g]?) : HeadAt w' base h names := by
  obtain ⟨g, b, v, h1, h2, h3, h4, h5, h6, h7⟩ := hh.is
  refine ⟨⟨g, b, v, h1, h2, h3, h4, ⟨(hb g h2 h5.lt).trans h5.is⟩, ?_, ?_⟩, hh.nodup, hh.pos⟩
  · have hlt := h6.lt
    obtain ⟨es, clock, q1, q2⟩ := h6
    exact ⟨es, clock, (hb b h3 hlt).trans q1, q2⟩
  · refine ⟨h7.1, ?_⟩
    have hlt := h7.lt
    rcases h7.2 with hn | ⟨g', cap, cur, fr, hv, hg, hh', rest⟩
    · exact .inl hn
    · refine .inr ⟨g', cap, cur, fr, hv, hg, ?_, rest⟩
      have := hlt g' (by rw [hv]; rfl)
      rw [hb g' this.1 this.2]
      exact hh'
theorem HeadAt.keep {w w' : World} {base : Nat} {h : Value} {names : Row} (hh : HeadAt w base h names) (hb : Below w.heap.size w w') : HeadAt w' base h names := hh.agree fun g _ hg => hb.block g hg

theorem b1a (w : World) : Below w.heap.size w (w.alloc (.map #[] 0)) := (Below.refl _ _).alloc (Nat.le_refl _) _
/-- A head in the making: k names are in the map. -/
structure HeadK (w : World) (base g b : Nat) (v : Value) (names : Row) (k : Nat) : Prop where
  box : Box w g 195 #[v, .map (some b)]
  map : w.ownsMap Tryd.prog 9 (plainElem (H := Unit) Tryd.prog 3) b k (headD names k)
  own : Own w base 9 1 v names.length (strV names)
theorem HeadK.keep {w w' : World} {base g b k : Nat} {v : Value} {names : Row} (h : HeadK w base g b v names k) (hb : Below w.heap.size w w') : HeadK w' base g b v names k :=
  ⟨h.box.below hb h.box.lt, h.map.kept (below_grownBy hb none) (by simp), h.own.below hb (Nat.le_refl _)⟩
theorem HeadK.step {w w' : World} {base g b k : Nat} {v : Value} {names : Row} (h : HeadK w base g b v names k) (hgb : g ≠ b) (hvb : v.ownBlock ≠ some b) {x : ByteArray} (hx : names.getD k ⟨#[]⟩ = x)
    (hm : w'.ownsMap Tryd.prog 9 (plainElem (H := Unit) Tryd.prog 3) b (k + 1) ((headD names k).put (keyB x) (.lit (.int .i64 k)))) (hg : w.grownBy w' (some b)) : HeadK w' base g b v names (k + 1) :=
  ⟨h.box.grown hg (by simp [hgb]), by rw [headD, hx]; exact hm, h.own.kept hg (.inr hvb)⟩
set_option maxHeartbeats 1000000 in
theorem new_any (v : Value) (names : Row) (w : World) (h : RdS w w.heap.size v names) (hl : names.length ≤ 100000) (hs : ∀ s ∈ names, s.size ≤ 100000) (hT : Tab w) :
    Calls Tryd.prog 110 #[v] w fun e w' => ∃ u, e = .returned (.tuple #[u, .int .i64 (newC names).1, .int .i64 (newC names).2]) ∧ ((newC names).2 = 0 → HeadAt w' w.heap.size u names) ∧ ((newC names).2 ≠ 0 → u = .pointer none) ∧ Below w.heap.size w w' := by
  refine cps fun R HR => ?_
  have hmm := @run_makeMap Tryd.prog
  have h0 := h
  obtain ⟨A, c, rfl, -⟩ := h.is
  have hfew := h.few
  clear h
  obtain ⟨Y, hY⟩ : ∃ Y, Y = newC names := ⟨_, rfl⟩
  rw [← hY] at HR
  unfold newC at hY
  have HY := Lib.hid hY; have HS := Lib.hid hs; have HT := Lib.hid hT
  clear hY hs hT
  go_enter Tryd.func110, Tryd.ntmps110
  go_wp2_with fail
  refine (cloneS_any _ names _ h0 hl).mono ?_
  rintro e w1 ⟨y, rfl, hy, b1⟩
  have T1 := Lib.hid (HT.out.below b1)
  have hy0 := hy
  obtain ⟨yA, yc, rfl, -⟩ := hy.form
  clear hy
  by_cases hn : names = []
  · subst hn
    have hy2 := HY.out
    rw [if_pos rfl] at hy2
    subst hy2
    go_wp2
    refine bodyPost_ret (v := .tuple #[.pointer none, .int .i64 (0 : Nat), .int .i64 (13 : Nat)]) (by simp [results, Tryd.results110, go_sem]) rfl (HR.out _ _ ⟨_, rfl, fun h => by simp at h, fun _ => rfl, ?_⟩)
    exact (b1.alloc b1.size _).alloc (by simp; exact Nat.le_succ_of_le b1.size) _
  · have hpos : 0 < names.length := List.length_pos_iff.2 hn
    have d : ((names.length : Int) == 0) = false := by rw [beq_eq_false_iff_ne]; omega
    have HY2 := Lib.hid (show Y = newF 0 [] names by rw [HY.out, if_neg hn])
    clear HY hn
    go_wp2
    have hmk := World.ownsMap_made (H := Unit) w1 Tryd.prog 9 (plainElem Tryd.prog 3)
    have hw1 : w.heap.size ≤ w1.heap.size := b1.size
    have hK0 : HeadK ((w1.alloc (.map #[] 0)).alloc (.cells #[.slice yA names.length yc, .map (some w1.heap.size)] 195)) w.heap.size (w1.heap.size + 1) w1.heap.size (.slice yA names.length yc) names 0 := by
      refine ⟨?_, hmk.alloc _, (hy0.below (b1a w1) (Nat.le_refl _)).below ((Below.refl _ _).alloc (Nat.le_refl _) _) (Nat.le_refl _)⟩
      have := Box.new (w1.alloc (.map #[] 0)) 195 #[.slice yA names.length yc, .map (some w1.heap.size)]
      simpa using this
    have hB0 : Below w.heap.size w ((w1.alloc (.map #[] 0)).alloc (.cells #[.slice yA names.length yc, .map (some w1.heap.size)] 195)) := (b1.alloc b1.size _).alloc (by simp; omega) _
    have NB := Lib.hid (show (Value.slice yA names.length yc).ownBlock ≠ some w1.heap.size from fun e => by
      have := (hy0.lt _ e).2
      omega)
    clear hmm hmk
    go_loopw [20] (fun i wr => ∃ k : Nat, k ≤ names.length ∧ i = .int .i64 k ∧ newF k (names.take k) (names.drop k) = Y ∧ (names.take k).Nodup ∧ HeadK wr w.heap.size (w1.heap.size + 1) w1.heap.size (.slice yA names.length yc) names k ∧ Below w.heap.size w wr) (fun i _ => names.length - (intOf i).toNat)
    case atStart => exact ⟨0, Nat.zero_le _, rfl, HY2.out.symm, List.nodup_nil, hK0, hB0⟩
    case round =>
      obtain ⟨k, hk, rfl, hN, hD, hK, hB⟩ := hrel
      have HN := Lib.hid hN; have HD := Lib.hid hD
      clear hN hD
      by_cases hlt : k < names.length
      · obtain ⟨p, c3, hv, hc⟩ := (h0.below hB).at hlt
        injection hv with hA _ hcc
        subst hA
        subst hcc
        have hs1 : names.take (k + 1) = names.take k ++ [names[k]] := List.take_succ_eq_append_getElem hlt
        have hs2 : names.drop k = names[k] :: names.drop (k + 1) := List.drop_eq_getElem_cons hlt
        have hs3 : names.getD k ⟨#[]⟩ = names[k] := by rw [List.getD_eq_getElem?_getD, List.getElem?_eq_getElem hlt]; rfl
        have hs4 : names[k].size ≤ 100000 := HS.out _ (List.getElem_mem hlt)
        obtain ⟨x, hx⟩ : ∃ x, x = names[k] := ⟨_, rfl⟩
        rw [← hx] at hc hs1 hs2 hs3 hs4
        have S1 := Lib.hid hs1; have S2 := Lib.hid hs2; have S3 := Lib.hid hs3
        clear hx hs1 hs2 hs3
        have dk : decide ((k : Int) < names.length) = true := decide_eq_true (by omega)
        have hc0 := hK.box.cell 1
        have hkey := key_of x hs4
        have HKEY := Lib.hid hkey
        clear hkey
        obtain ⟨tw, htw⟩ : ∃ tw, tw = decide (x ∈ names.take k) := ⟨_, rfl⟩
        have hhas := (headD_has names x k hk).trans htw.symm
        have HHAS := Lib.hid hhas; have HTW := Lib.hid htw
        clear hhas htw
        go_wp2_with (at_lookup; refine wpList_lookup_own_ok_int _ rfl _ _ 193 rfl 9 3 .i64 str_keyed Tryd.underlying193 Tryd.underlying3 (zeroI _) w1.heap.size k _ rfl hK.map _ _ rfl HKEY.out ?_; intro c1 hat hwc; rw [HHAS.out]; clear hat hwc)
        refine (valid_any x _ (by unfold maxLen; omega) (HT.out.below hB)).mono ?_
        rintro e w2 ⟨rfl, b2⟩
        have hB2 := hB.trans (b2.mono hB.size)
        have hK2 := hK.keep b2
        obtain ⟨vl, hvl⟩ : ∃ vl, vl = validF x.data.toList := ⟨_, rfl⟩
        rw [← hvl]
        have HVL := Lib.hid hvl
        have hh0 := hK2.box.cell 0
        have hh1 := hK2.box.cell 1
        clear hvl hK hc hc0
        cases vl
        · have hy2 := HN.out
          rw [S2.out, newF, if_pos HVL.out.symm] at hy2
          subst hy2
          go_wp2
          refine bodyPost_ret (v := .tuple #[.pointer none, .int .i64 k, .int .i64 (14 : Nat)]) (by simp [results, Tryd.results110, go_sem]) rfl (HR.out _ _ ⟨_, rfl, fun h => by simp at h, fun _ => rfl, hB2⟩)
        · cases tw
          · have hni : x ∉ names.take k := of_decide_eq_false HTW.out.symm
            have hn1 : newF (k + 1) (names.take (k + 1)) (names.drop (k + 1)) = Y := by
              have h := HN.out
              rw [S2.out, newF, if_neg (by rw [← HVL.out]; simp), if_neg hni, ← S1.out] at h
              exact h
            have hd1 : (names.take (k + 1)).Nodup := by
              rw [S1.out, List.nodup_append]
              refine ⟨HD.out, by simp, fun a ha b hb => ?_⟩
              rw [List.mem_singleton.1 hb]
              exact fun e => hni (e ▸ ha)
            have N1 := Lib.hid hn1; have D1 := Lib.hid hd1
            clear hn1 hd1 hni
            go_wp2_with (at_mapUpdate; refine wpList_mapUpdate_own _ rfl _ _ _ 193 rfl 9 3 str_keyed Tryd.underlying193 _ w1.heap.size k _ rfl hK2.map (by unfold maxLen; omega) _ _ _ rfl rfl HKEY.out _ [] (plainElem_int Tryd.underlying3 (WalkArith.wf_i64 (by omega))) ?_; intro w3 hown3 hg3)
            have hK3 := hK2.step (by omega) NB.out S3.out hown3 hg3
            exact ⟨⟨k + 1, by omega, by go_num, N1.out, D1.out, hK3, below_grown hB2 hg3 (fun g hg => by injection hg with hg; omega) hB2.size⟩, by simp [intOf]; omega⟩
          · have hin : x ∈ names.take k := of_decide_eq_true HTW.out.symm
            have hy2 := HN.out
            rw [S2.out, newF, if_neg (by rw [← HVL.out]; simp), if_pos hin] at hy2
            subst hy2
            clear hin
            go_wp2
            refine bodyPost_ret (v := .tuple #[.pointer none, .int .i64 k, .int .i64 (15 : Nat)]) (by simp [results, Tryd.results110, go_sem]) rfl (HR.out _ _ ⟨_, rfl, fun h => by simp at h, fun _ => rfl, hB2⟩)
      · obtain rfl : k = names.length := by omega
        have hy2 := HN.out
        rw [List.drop_length, newF] at hy2
        subst hy2
        have hd := HD.out
        rw [List.take_length] at hd
        have HD2 := Lib.hid hd
        clear hd hlt
        go_wp2
        refine bodyPost_ret (v := .tuple #[.pointer (some ⟨w1.heap.size + 1, 0, none⟩), .int .i64 names.length, .int .i64 (0 : Nat)]) (by simp [results, Tryd.results110, go_sem]) rfl (HR.out _ _ ⟨_, rfl, fun _ => ⟨⟨_, _, _, rfl, by omega, by omega, by omega, hK.box, hK.map, hK.own⟩, HD2.out, hpos⟩, fun h => absurd rfl h, hB⟩)
end Go.Proofs.YtgiemhooeoakmaaDoor

namespace Go.Proofs.YtgiemhooeoakmaaDoor
open Go.RowKit Go.ChangeShapes Go.WideShapes
set_option linter.unusedVariables false
set_option linter.unusedSimpArgs false

theorem refAt_any (v : Value) (l : Row) (s : ByteArray) (w : World) {B : Nat} (h : RdS w B v l) :
    Calls Tryd.prog 64 #[v, .string s] w fun e w' => e = .returned (.int .i64 (posF 0 l s)) ∧ w' = w := by
  refine cps fun R HR => ?_
  have h0 := h
  obtain ⟨A, c, rfl, -⟩ := h.is
  have hfew := h.few
  clear h
  go_enter Tryd.func64, Tryd.ntmps64
  go_wp2
  go_loopw [9] (fun i wr => ∃ k : Nat, k ≤ l.length ∧ i = .int .i64 k ∧ posF k (l.drop k) s = posF 0 l s ∧ wr = w) (fun i _ => l.length - (intOf i).toNat)
  case atStart => exact ⟨0, Nat.zero_le _, rfl, rfl, rfl⟩
  case round =>
    obtain ⟨k, hk, rfl, hN, rfl⟩ := hrel
    have HN := Lib.hid hN; clear hN
    by_cases hlt : k < l.length
    · obtain ⟨p, c3, hv, hcp⟩ := h0.at hlt
      injection hv with hA _ hcc
      subst hA
      subst hcc
      have hd : l.drop k = l[k] :: l.drop (k + 1) := List.drop_eq_getElem_cons hlt
      obtain ⟨x, hx⟩ : ∃ x, x = l[k] := ⟨_, rfl⟩
      rw [← hx] at hcp hd
      clear hx
      have dk : decide ((k : Int) < l.length) = true := decide_eq_true (by omega)
      by_cases hb : x = s
      · have HV := Lib.hid (show posF 0 l s = k by rw [← HN.out, hd, posF, if_pos hb])
        have d : (x.toList == s.toList) = true := by rw [str_eq]; exact decide_eq_true hb
        clear hd hb
        go_wp2
        exact HR.out _ _ ⟨by rw [HV.out], rfl⟩
      · have HV := Lib.hid (show posF (k + 1) (l.drop (k + 1)) s = posF 0 l s by rw [← HN.out, hd, posF, if_neg hb])
        have d : (x.toList == s.toList) = false := by rw [str_eq]; exact decide_eq_false hb
        clear hd hb
        go_wp2
        exact ⟨⟨k + 1, by omega, by go_num, HV.out, trivial⟩, by simp [intOf]; omega⟩
    · have hd : l.drop k = [] := List.drop_of_length_le (by omega)
      have HV := Lib.hid (show posF 0 l s = -1 by rw [← HN.out, hd, posF])
      clear hd
      go_wp2
      exact HR.out _ _ ⟨by rw [HV.out]; rfl, rfl⟩
theorem RdS.cap {w : World} {B c : Nat} {A : Option Addr} {n : Nat} {l : Row} (h : RdS w B (.slice A n c) l) : l.length ≤ c := by
  obtain ⟨A', c', h1, h2⟩ := h.is
  injection h1 with _ _ hc
  subst hc
  exact h2.cap
theorem posF_ge (l : Row) (s : ByteArray) : decide (0 ≤ posF 0 l s) = decide (s ∈ l) := by
  by_cases h : s ∈ l
  · have := posF_some h 0
    rw [decide_eq_true h, decide_eq_true (by omega)]
  · rw [posF_none h, decide_eq_false h]
    rfl
theorem posF_lt (l : Row) (s : ByteArray) : decide (posF 0 l s < 0) = !decide (s ∈ l) := by
  by_cases h : s ∈ l
  · have := posF_some h 0
    rw [decide_eq_true h, decide_eq_false (by omega)]
    rfl
  · rw [posF_none h, decide_eq_false h]
    rfl
end Go.Proofs.YtgiemhooeoakmaaDoor

namespace Go.Proofs.YtgiemhooeoakmaaDoor
open Go.RowKit Go.ChangeShapes Go.WideShapes
set_option linter.unusedVariables false
set_option linter.unusedSimpArgs false

/-- A name's number, or 0. -/
def atC (names : Row) (s : ByteArray) : Nat := (posF 0 names s).toNat
theorem atC_int (names : Row) (s : ByteArray) : max (posF 0 names s) 0 = (atC names s : Int) := by unfold atC; omega
theorem posF_in {names : Row} {s : ByteArray} (h : s ∈ names) : posF 0 names s = (atC names s : Int) := by
  have := posF_some h 0
  unfold atC
  omega
theorem atC_lt {names : Row} {s : ByteArray} (h : s ∈ names) : atC names s < names.length := by
  have := posF_some h 0
  unfold atC
  omega
/-- The first of some that are no names, so many being behind. -/
def misF (names : Row) : Nat → Row → Nat
  | j, [] => j
  | j, s :: r => if s ∈ names then misF names (j + 1) r else j
def allIn (names want : Row) : Bool := want.all fun s => decide (s ∈ names)
def numsF (names want : Row) : List Int := want.map fun s => (atC names s : Int)
/-- What Bind tells: the numbers, the place, the error's number. -/
def bindC (names want : Row) : List Int × Nat × Nat :=
  if allIn names want then (numsF names want, want.length, 0) else ([], misF names 0 want, 16)
theorem allIn_snoc (names want : Row) {k : Nat} (hk : k < want.length) : allIn names (want.take (k + 1)) = (allIn names (want.take k) && decide (want[k] ∈ names)) := by
  unfold allIn
  rw [List.take_succ_eq_append_getElem hk, List.all_append]
  simp
theorem allIn_mem {names want : Row} (h : allIn names want = true) {s : ByteArray} (hs : s ∈ want) : s ∈ names := by
  have := List.all_eq_true.1 h s hs
  exact of_decide_eq_true this
theorem numsF_snoc (names want : Row) {k : Nat} (hk : k < want.length) : numsF names (want.take (k + 1)) = numsF names (want.take k) ++ [(atC names want[k] : Int)] := by
  unfold numsF
  rw [List.take_succ_eq_append_getElem hk, List.map_append]
  rfl
theorem posF_at : ∀ {l : Row} {s : ByteArray}, s ∈ l → ∀ j : Nat, l[(posF j l s - j).toNat]? = some s
  | a :: l, s, h, j => by
    rw [posF]
    split
    · rename_i he
      rw [Int.sub_self]
      simp [he]
    · rename_i hne
      have hm : s ∈ l := by
        rcases List.mem_cons.1 h with e | e
        · exact absurd e.symm hne
        · exact e
      have h1 := posF_at hm (j + 1)
      have h2 := posF_some hm (j + 1)
      rw [show (posF (j + 1) l s - (j : Int)).toNat = (posF (j + 1) l s - ((j + 1 : Nat) : Int)).toNat + 1 by omega, List.getElem?_cons_succ]
      exact h1
theorem atC_get {l : Row} {s : ByteArray} (h : s ∈ l) : l[atC l s]? = some s := by
  have h1 := posF_at h 0
  rw [show (posF 0 l s - ((0 : Nat) : Int)).toNat = atC l s by unfold atC; omega] at h1
  exact h1
theorem atC_of {l : Row} (hn : l.Nodup) {k : Nat} (hk : k < l.length) : atC l l[k] = k := by
  have hm : l[k] ∈ l := List.getElem_mem hk
  have h1 := atC_get hm
  have hlt := atC_lt hm
  rw [List.getElem?_eq_getElem hlt] at h1
  injection h1 with h1
  have hp := List.pairwise_iff_getElem.1 hn
  rcases Nat.lt_trichotomy (atC l l[k]) k with h | h | h
  · exact absurd h1 (hp _ _ hlt hk h)
  · exact h
  · exact absurd h1.symm (hp _ _ hk hlt h)
theorem nums_mem {names cn : Row} (hn : names.Nodup) (hc : allIn names cn = true) {k : Nat} (hk : k < names.length) : ((k : Int) ∈ numsF names cn) ↔ names[k] ∈ cn := by
  unfold numsF
  constructor
  · intro h
    obtain ⟨s, hs, he⟩ := List.mem_map.1 h
    have hin := allIn_mem hc hs
    have hg := atC_get hin
    have he2 : atC names s = k := by omega
    rw [he2, List.getElem?_eq_getElem hk] at hg
    injection hg with hg
    rw [hg]
    exact hs
  · intro h
    exact List.mem_map.2 ⟨names[k], h, by rw [atC_of hn hk]⟩
end Go.Proofs.YtgiemhooeoakmaaDoor

namespace Go.Proofs.YtgiemhooeoakmaaDoor
open Go.RowKit Go.ChangeShapes Go.WideShapes
set_option linter.unusedVariables false
set_option linter.unusedSimpArgs false

set_option maxHeartbeats 1000000 in
theorem schNames_any (v : Value) (l : List Col) (w : World) (h : RdC w w.heap.size v l) (hl : l.length ≤ 100000) :
    Calls Tryd.prog 111 #[v] w fun e w' => ∃ o, e = .returned o ∧ Own w' w.heap.size 9 1 o l.length (strV (namesC l)) ∧ Below w.heap.size w w' := by
  refine cps fun R HR => ?_
  obtain ⟨i0, hi0, hz0, hz1, hz2⟩ := info_parts str_info
  have h0 := h
  obtain ⟨A, c, rfl, -⟩ := h.is
  clear h
  go_enter Tryd.func111, Tryd.ntmps111
  go_wp2
  go_loopw [3, 8] (fun o i wr => ∃ k : Nat, k ≤ l.length ∧ i = .int .i64 k ∧ Own wr w.heap.size 9 1 o k (strV (namesC (l.take k))) ∧ Below w.heap.size w wr) (fun _ i _ => l.length - (intOf i).toNat)
  case atStart => exact ⟨0, Nat.zero_le _, rfl, Own.nil_ _ _ _ _, Below.refl _ _⟩
  case round =>
    obtain ⟨k, hk, rfl, hO, hB⟩ := hrel
    by_cases hlt : k < l.length
    · obtain ⟨a, c3, hv, q0, q1, q2⟩ := RdC.at (h0.below hB) hlt
      injection hv with hA _ hcc
      subst hA
      subst hcc
      have hs1 := namesC_snoc hlt
      obtain ⟨x, hx⟩ : ∃ x, x = l[k] := ⟨_, rfl⟩
      rw [← hx] at q0 q1 q2 hs1
      have S1 := Lib.hid hs1
      clear hx hs1
      have dk : decide ((k : Int) < l.length) = true := decide_eq_true (by omega)
      obtain ⟨wb, hwb⟩ : ∃ wb : World, wb = wr := ⟨_, rfl⟩
      have hOw := hO.below ((Below.refl wr.heap.size wr).alloc (Nat.le_refl _) (.cells #[.string x.name, .int .i64 x.kind, .bool x.null] 99)) (Nat.le_refl _)
      have hBw := hB.alloc hB.size (.cells #[.string x.name, .int .i64 x.kind, .bool x.null] 99)
      clear hwb
      go_wp2_with (at_builtin; refine wpList_push rfl _ _ _ rfl w.heap.size 9 i0 _ 16 Tryd.underlying26 hi0 hz0 hz1 hz2 rfl (by omega) u3 k _ (.string x.name) rfl hOw (by simp [Act.eval]) rfl (by omega) hBw.size ?_; intro v5 w5 hown5 hg5 hat5)
      exact ⟨⟨k + 1, by omega, by go_num, by rw [S1.out, strV_snoc]; exact hown5, below_grown hBw hg5 (fun g hg => (hO.lt g hg).1) hBw.size⟩, by simp [intOf]; omega⟩
    · obtain rfl : k = l.length := by omega
      rw [List.take_length] at hO
      clear hlt
      go_wp2
      exact HR.out _ _ ⟨_, rfl, hO, hB⟩
def kindB (c : Col) : Bool := decide (c.kind < 1) || decide (3 < c.kind)
/-- The first column of no kind, so many being behind; -1: there is none. -/
def idxK : Nat → List Col → Int
  | _, [] => -1
  | j, c :: r => if kindB c then j else idxK (j + 1) r
theorem idxK_ge : ∀ (r : List Col) (j : Nat), idxK j r = -1 ∨ (j : Int) ≤ idxK j r
  | [], j => .inl rfl
  | c :: r, j => by
    rw [idxK]
    split
    · right; omega
    · rcases idxK_ge r (j + 1) with h | h
      · exact .inl h
      · right; omega
theorem idxK_lt : ∀ (r : List Col) (j : Nat), idxK j r < j + r.length
  | [], j => by show (-1 : Int) < _; simp; omega
  | c :: r, j => by
    rw [idxK]
    split
    · simp; omega
    · have := idxK_lt r (j + 1)
      simp
      omega
theorem kind1_any (n : ByteArray) (k : Int) (b : Bool) (w : World) :
    Calls Tryd.prog 113 #[.agg #[.string n, .int .i64 k, .bool b]] w fun e w' => e = .returned (.bool (decide (k < 1) || decide (3 < k))) ∧ Below w.heap.size w w' := by
  refine cps fun R HR => ?_
  by_cases h1 : k < 1
  · have d1 : decide (k < 1) = true := decide_eq_true h1
    rw [d1] at HR
    clear h1
    go_enter Tryd.func113, Tryd.ntmps113
    go_wp2
    exact HR.out _ _ ⟨rfl, (Below.refl _ _).alloc (Nat.le_refl _) _⟩
  · have d1 : decide (k < 1) = false := decide_eq_false h1
    rw [d1] at HR
    clear h1
    go_enter Tryd.func113, Tryd.ntmps113
    go_wp2
    exact HR.out _ _ ⟨rfl, (Below.refl _ _).alloc (Nat.le_refl _) _⟩
theorem idxKind_any (v : Value) (l : List Col) (w : World) (h : RdC w w.heap.size v l) :
    Calls Tryd.prog 112 #[v, .func (.func 113) #[] #[]] w fun e w' => e = .returned (.int .i64 (idxK 0 l)) ∧ Below w.heap.size w w' := by
  refine cps fun R HR => ?_
  have h0 := h
  obtain ⟨A, c, rfl, -⟩ := h.is
  have hfew := RdF.few h0
  clear h
  go_enter Tryd.func112, Tryd.ntmps112
  go_wp2
  go_loopw [8] (fun i wr => ∃ k : Nat, k ≤ l.length ∧ i = .int .i64 k ∧ idxK k (l.drop k) = idxK 0 l ∧ Below w.heap.size w wr) (fun i _ => l.length - (intOf i).toNat)
  case atStart => exact ⟨0, Nat.zero_le _, rfl, rfl, Below.refl _ _⟩
  case round =>
    obtain ⟨k, hk, rfl, hN, hB⟩ := hrel
    have HN := Lib.hid hN; clear hN
    by_cases hlt : k < l.length
    · obtain ⟨a, c3, hv, q0, q1, q2⟩ := RdC.at (h0.below hB) hlt
      injection hv with hA _ hcc
      subst hA
      subst hcc
      have hd : l.drop k = l[k] :: l.drop (k + 1) := List.drop_eq_getElem_cons hlt
      obtain ⟨x, hx⟩ : ∃ x, x = l[k] := ⟨_, rfl⟩
      rw [← hx] at q0 q1 q2 hd
      have HD := Lib.hid hd
      clear hx hd
      have dk : decide ((k : Int) < l.length) = true := decide_eq_true (by omega)
      go_wp2_with fail
      refine (kind1_any x.name x.kind x.null _).mono ?_
      rintro e w1 ⟨rfl, b1⟩
      have hB1 := hB.trans (b1.mono hB.size)
      have hkb : kindB x = (decide (x.kind < 1) || decide (3 < x.kind)) := rfl
      rw [← hkb]
      obtain ⟨kb, hkb2⟩ : ∃ kb, kb = kindB x := ⟨_, rfl⟩
      rw [← hkb2]
      have HKB := Lib.hid hkb2
      clear hkb hkb2
      cases kb
      · have HV := Lib.hid (show idxK (k + 1) (l.drop (k + 1)) = idxK 0 l by rw [← HN.out, HD.out, idxK, ← HKB.out, if_neg (by simp)])
        go_wp2
        exact ⟨⟨k + 1, by omega, by go_num, HV.out, hB1⟩, by simp [intOf]; omega⟩
      · have HV := Lib.hid (show idxK 0 l = k by rw [← HN.out, HD.out, idxK, ← HKB.out, if_pos rfl])
        go_wp2
        exact HR.out _ _ ⟨by rw [HV.out]; try rfl, hB1⟩
    · have hd : l.drop k = [] := List.drop_of_length_le (by omega)
      have HV := Lib.hid (show idxK 0 l = -1 by rw [← HN.out, hd, idxK])
      clear hd
      go_wp2
      exact HR.out _ _ ⟨by rw [HV.out]; rfl, hB⟩
/-- The first column that may not be, so many being behind; the error's number. -/
def chkF : Nat → Row → List Col → Nat × Nat
  | j, _, [] => (j, 0)
  | j, seen, c :: r => if kindB c then (j, 21) else if validF c.name.data.toList = false then (j, 14) else if c.name ∈ seen then (j, 15) else chkF (j + 1) (seen ++ [c.name]) r
def chkC (l : List Col) : Nat × Nat := if l = [] then (0, 13) else chkF 0 [] l
theorem newF_ge : ∀ (r : Row) (j : Nat) (seen : Row), j ≤ (newF j seen r).1
  | [], j, seen => Nat.le_refl _
  | c :: r, j, seen => by
    rw [newF]
    split
    · exact Nat.le_refl _
    · split
      · exact Nat.le_refl _
      · have := newF_ge r (j + 1) (seen ++ [c])
        omega
/-- What the program has of both. -/
def chkP (N : Nat × Nat) (K : Int) : Nat × Nat := if 0 ≤ K ∧ (N.2 = 0 ∨ K ≤ N.1) then (K.toNat, 21) else N
theorem chk_law : ∀ (r : List Col) (j : Nat) (seen : Row), chkF j seen r = chkP (newF j seen (namesC r)) (idxK j r)
  | [], j, seen => by
    show (j, 0) = chkP (j, 0) (-1)
    unfold chkP
    rw [if_neg (by omega)]
  | c :: r, j, seen => by
    have hn : namesC (c :: r) = c.name :: namesC r := rfl
    have hg := newF_ge (namesC (c :: r)) j seen
    rw [chkF, idxK]
    by_cases hk : kindB c = true
    · rw [if_pos hk, if_pos hk]
      unfold chkP
      rw [if_pos ⟨by omega, .inr (by omega)⟩]
      rfl
    · rw [if_neg hk, if_neg hk, hn, newF]
      have hi := idxK_ge r (j + 1)
      by_cases hv : validF c.name.data.toList = false
      · rw [if_pos hv, if_pos hv]
        unfold chkP
        rw [if_neg (by show ¬ (_ ∧ (14 = 0 ∨ _ ≤ (j : Int))); omega)]
      · rw [if_neg hv, if_neg hv]
        by_cases hs : c.name ∈ seen
        · rw [if_pos hs, if_pos hs]
          unfold chkP
          rw [if_neg (by show ¬ (_ ∧ (15 = 0 ∨ _ ≤ (j : Int))); omega)]
        · rw [if_neg hs, if_neg hs]
          exact chk_law r (j + 1) (seen ++ [c.name])
theorem chkP_law (l : List Col) : chkC l = chkP (newC (namesC l)) (idxK 0 l) := by
  unfold chkC newC
  by_cases h : l = []
  · subst h
    rfl
  · rw [if_neg h, if_neg (by unfold namesC; simpa using h)]
    exact chk_law l 0 []
set_option maxHeartbeats 1000000 in
theorem schCheck_any (v : Value) (l : List Col) (w : World) (h : RdC w w.heap.size v l) (hl : l.length ≤ 100000) (hs : ∀ c ∈ l, c.name.size ≤ 100000) (hT : Tab w) :
    Calls Tryd.prog 78 #[v] w fun e w' => e = .returned (.tuple #[.int .i64 (chkC l).1, .int .i64 (chkC l).2]) ∧ Below w.heap.size w w' := by
  refine cps fun R HR => ?_
  have hs2 : ∀ s ∈ namesC l, s.size ≤ 100000 := fun s hs' => by
    obtain ⟨c, hc, rfl⟩ := List.mem_map.1 hs'
    exact hs c hc
  have HS := Lib.hid hs2; have HT := Lib.hid hT
  have HL := Lib.hid (chkP_law l)
  have HNL := Lib.hid (namesC_len l)
  clear hs hs2 hT
  go_enter Tryd.func78, Tryd.ntmps78
  go_wp2_with fail
  refine (schNames_any _ l _ h hl).mono ?_
  rintro e w1 ⟨o, rfl, ho, b1⟩
  go_wp2_with fail
  refine (new_any _ (namesC l) _ (RdS.of_own ho) (by rw [HNL.out]; exact hl) HS.out (HT.out.below b1)).mono ?_
  rintro e w2 ⟨u, rfl, -, -, b2⟩
  have bw2 := b1.trans (b2.mono b1.size)
  obtain ⟨N, hN⟩ : ∃ N, N = newC (namesC l) := ⟨_, rfl⟩
  have HN := Lib.hid hN
  rw [← hN]
  clear hN
  go_wp2_with fail
  refine (idxKind_any _ l _ (h.next bw2)).mono ?_
  rintro e w3 ⟨rfl, b3⟩
  have bw3 := bw2.trans (b3.mono bw2.size)
  obtain ⟨K, hK⟩ : ∃ K, K = idxK 0 l := ⟨_, rfl⟩
  have HK := Lib.hid hK
  rw [← hK]
  clear hK
  have HC := Lib.hid (show chkC l = chkP N K by rw [HL.out, HN.out, HK.out])
  rw [HC.out] at HR
  obtain ⟨n, e⟩ := N
  by_cases h0 : 0 ≤ K
  · obtain ⟨m, rfl⟩ := Int.eq_ofNat_of_zero_le h0
    have d0 : decide ((0 : Int) ≤ (m : Int)) = true := decide_eq_true h0
    by_cases he : e = 0
    · subst he
      have hc : chkP (n, 0) (m : Int) = (m, 21) := by unfold chkP; rw [if_pos ⟨h0, .inl rfl⟩]; rfl
      rw [hc] at HR
      clear h0 hc
      go_wp2
      exact HR.out _ _ ⟨rfl, bw3⟩
    · have d1 : ((e : Int) == 0) = false := by rw [beq_eq_false_iff_ne]; omega
      by_cases hle : m ≤ n
      · have hc : chkP (n, e) (m : Int) = (m, 21) := by unfold chkP; rw [if_pos ⟨h0, .inr (by show (m : Int) ≤ (n : Int); omega)⟩]; rfl
        rw [hc] at HR
        have d2 : decide (m ≤ n) = true := decide_eq_true hle
        clear h0 hc hle he
        go_wp2
        exact HR.out _ _ ⟨rfl, bw3⟩
      · have hc : chkP (n, e) (m : Int) = (n, e) := by unfold chkP; rw [if_neg (by show ¬ (_ ∧ (e = 0 ∨ (m : Int) ≤ (n : Int))); omega)]
        rw [hc] at HR
        have d2 : decide (m ≤ n) = false := decide_eq_false hle
        clear h0 hc hle he
        go_wp2
        exact HR.out _ _ ⟨rfl, bw3⟩
  · have hc : chkP (n, e) K = (n, e) := by unfold chkP; rw [if_neg (fun hh => h0 hh.1)]
    rw [hc] at HR
    have d0 : decide ((0 : Int) ≤ K) = false := decide_eq_false h0
    clear h0 hc
    go_wp2
    exact HR.out _ _ ⟨rfl, bw3⟩
end Go.Proofs.YtgiemhooeoakmaaDoor

namespace Go.Proofs.YtgiemhooeoakmaaDoor
open Go.RowKit Go.ChangeShapes Go.WideShapes
set_option linter.unusedVariables false
set_option linter.unusedSimpArgs false

set_option maxHeartbeats 1000000 in
theorem refNames_any (v : Value) (l : List Col) (w : World) (h : RdRC w w.heap.size v l) (hl : l.length ≤ 100000) :
    Calls Tryd.prog 65 #[v] w fun e w' => ∃ o, e = .returned o ∧ Own w' w.heap.size 9 1 o l.length (strV (namesC l)) ∧ Below w.heap.size w w' := by
  refine cps fun R HR => ?_
  obtain ⟨i0, hi0, hz0, hz1, hz2⟩ := info_parts str_info
  have h0 := h
  obtain ⟨A, c, rfl, -⟩ := h.is
  clear h
  go_enter Tryd.func65, Tryd.ntmps65
  go_wp2
  go_loopw [3, 8] (fun o i wr => ∃ k : Nat, k ≤ l.length ∧ i = .int .i64 k ∧ Own wr w.heap.size 9 1 o k (strV (namesC (l.take k))) ∧ Below w.heap.size w wr) (fun _ i _ => l.length - (intOf i).toNat)
  case atStart => exact ⟨0, Nat.zero_le _, rfl, Own.nil_ _ _ _ _, Below.refl _ _⟩
  case round =>
    obtain ⟨k, hk, rfl, hO, hB⟩ := hrel
    by_cases hlt : k < l.length
    · obtain ⟨a, c3, hv, q0, q1, q2⟩ := RdRC.at (h0.below hB) hlt
      injection hv with hA _ hcc
      subst hA
      subst hcc
      have hs1 := namesC_snoc hlt
      obtain ⟨x, hx⟩ : ∃ x, x = l[k] := ⟨_, rfl⟩
      rw [← hx] at q0 q1 q2 hs1
      have S1 := Lib.hid hs1
      clear hx hs1
      have dk : decide ((k : Int) < l.length) = true := decide_eq_true (by omega)
      have hOw := hO.below ((Below.refl wr.heap.size wr).alloc (Nat.le_refl _) (.cells #[.string x.name, .int .i64 x.kind, .int .i64 (nullI x.null)] 120)) (Nat.le_refl _)
      have hBw := hB.alloc hB.size (.cells #[.string x.name, .int .i64 x.kind, .int .i64 (nullI x.null)] 120)
      go_wp2_with (at_builtin; refine wpList_push rfl _ _ _ rfl w.heap.size 9 i0 _ 16 Tryd.underlying26 hi0 hz0 hz1 hz2 rfl (by omega) u3 k _ (.string x.name) rfl hOw (by simp [Act.eval]) rfl (by omega) hBw.size ?_; intro v5 w5 hown5 hg5 hat5)
      exact ⟨⟨k + 1, by omega, by go_num, by rw [S1.out, strV_snoc]; exact hown5, below_grown hBw hg5 (fun g hg => (hO.lt g hg).1) hBw.size⟩, by simp [intOf]; omega⟩
    · obtain rfl : k = l.length := by omega
      rw [List.take_length] at hO
      clear hlt
      go_wp2
      exact HR.out _ _ ⟨_, rfl, hO, hB⟩
theorem keepS {W ws w' : World} {p : Addr} {u : Value} (hb : Below ws.heap.size ws w') (hc : ws.cell? p = some u) (hB : Below W.heap.size W ws) : w'.cell? p = some u ∧ Below W.heap.size W w' :=
  ⟨(hb.cell (World.block_lt_of_cell? ws _ hc)).trans hc, hB.trans (hb.mono hB.size)⟩
set_option maxHeartbeats 2000000 in
theorem refCheck_any (v : Value) (l : List Col) (w : World) (h : RdRC w w.heap.size v l) (hl : l.length ≤ 100000) (hs : ∀ c ∈ l, c.name.size ≤ 100000) :
    Calls Tryd.prog 63 #[v] w fun e w' => e = .returned (.tuple #[.int .i64 (chkC l).1, .int .i64 (chkC l).2]) ∧ Below w.heap.size w w' := by
  refine cps fun R HR => ?_
  have h0 := h
  obtain ⟨A, c, rfl, -⟩ := h.is
  have hfew := RdF.few h0
  clear h
  obtain ⟨Y, hY⟩ : ∃ Y, Y = chkC l := ⟨_, rfl⟩
  rw [← hY] at HR
  unfold chkC at hY
  have HY := Lib.hid hY; have HS := Lib.hid hs
  clear hY hs
  go_enter Tryd.func63, Tryd.ntmps63
  by_cases hn : l = []
  · subst hn
    have hy2 := HY.out
    rw [if_pos rfl] at hy2
    subst hy2
    go_wp2
    exact HR.out _ _ ⟨rfl, Below.refl _ _⟩
  · have hpos : 0 < l.length := List.length_pos_iff.2 hn
    have d : ((l.length : Int) == 0) = false := by rw [beq_eq_false_iff_ne]; omega
    have HY2 := Lib.hid (show Y = chkF 0 [] l by rw [HY.out, if_neg hn])
    clear HY hn
    go_wp2
    go_loopw [11] (fun i wr => ∃ k : Nat, k ≤ l.length ∧ i = .int .i64 k ∧ chkF k (namesC (l.take k)) (l.drop k) = Y ∧ Below w.heap.size w wr) (fun i _ => l.length - (intOf i).toNat)
    case atStart => exact ⟨0, Nat.zero_le _, rfl, HY2.out.symm, Below.refl _ _⟩
    case round =>
      obtain ⟨k, hk, rfl, hN, hB⟩ := hrel
      have HN := Lib.hid hN
      clear hN
      by_cases hlt : k < l.length
      · obtain ⟨a, c3, hv, q0, q1, q2⟩ := RdRC.at (h0.below hB) hlt
        injection hv with hA _ hcc
        subst hA
        subst hcc
        have hs1 := namesC_snoc hlt
        have hs2 : l.drop k = l[k] :: l.drop (k + 1) := List.drop_eq_getElem_cons hlt
        have hs4 : l[k].name.size ≤ 100000 := HS.out _ (List.getElem_mem hlt)
        obtain ⟨x, hx⟩ : ∃ x, x = l[k] := ⟨_, rfl⟩
        rw [← hx] at q0 q1 q2 hs1 hs2 hs4
        have S1 := Lib.hid hs1; have S2 := Lib.hid hs2
        clear hx hs1 hs2
        have dk : decide ((k : Int) < l.length) = true := decide_eq_true (by omega)
        by_cases hkb : kindB x = true
        · have hy2 := HN.out
          rw [S2.out, chkF, if_pos hkb] at hy2
          subst hy2
          unfold kindB at hkb
          by_cases h1 : x.kind < 1
          · have d1 : decide (x.kind < 1) = true := decide_eq_true h1
            clear hkb h1
            go_wp2
            exact HR.out _ _ ⟨rfl, hB.alloc hB.size _⟩
          · have d1 : decide (x.kind < 1) = false := decide_eq_false h1
            have d2 : decide (3 < x.kind) = true := by rw [d1] at hkb; simpa using hkb
            clear hkb h1
            go_wp2
            exact HR.out _ _ ⟨rfl, hB.alloc hB.size _⟩
        · have hkb2 := hkb
          unfold kindB at hkb2
          have d1 : decide (x.kind < 1) = false := by rw [Bool.eq_false_iff]; intro h; exact hkb2 (by rw [h]; rfl)
          have d2 : decide (3 < x.kind) = false := by rw [Bool.eq_false_iff]; intro h; exact hkb2 (by rw [h]; simp)
          have HKB := Lib.hid hkb
          clear hkb hkb2
          obtain ⟨w2, hw2⟩ : ∃ w2, w2 = wr.alloc (.cells #[.string x.name, .int .i64 x.kind, .int .i64 (nullI x.null)] 120) := ⟨_, rfl⟩
          have hB2 : Below w.heap.size w w2 := by rw [hw2]; exact hB.alloc hB.size _
          have b0 : w2.cell? ⟨wr.heap.size, 0, none⟩ = some (.string x.name) := by rw [hw2]; exact (Box.new wr 120 #[.string x.name, .int .i64 x.kind, .int .i64 (nullI x.null)]).cell 0
          have k0 := cell_regrown b0
          have hwl := whole_len x.name.data.toList
          have hxl : x.name.data.toList.length = x.name.size := by rw [Array.length_toList]; rfl
          rw [hxl] at hwl
          obtain ⟨wl, hwl2⟩ : ∃ wl, wl = wholeR x.name.data.toList := ⟨_, rfl⟩
          have hval := valid_law x.name.data.toList
          rw [hxl] at hval
          rw [← hwl2] at hval hwl
          have gW : ∀ dn os, Calls Tryd.prog 103 #[.string x.name] (Go.Sort.grow (redrawn w2 dn) os) fun e w'' => e = .returned (.int .i64 wl) ∧ ∃ p : Regrown, w'' = Go.Sort.grow (redrawn w2 p.d) p.os := fun dn os => Calls.regrown_of (by
            rw [hwl2]
            exact whole_any x.name _ (by unfold maxLen; omega))
          have HVAL := Lib.hid hval; have HWL := Lib.hid hwl2
          clear hval hwl2 hxl
          have hle2 : wr.heap.size + 1 = w2.heap.size := by rw [hw2]; simp
          have HLE := Lib.hid hle2
          have HB0 := Lib.hid b0
          clear hle2 b0
          go_wp2
          rw [← hw2]
          have HW2 := Lib.hid hw2
          clear hw2
          refine wp_region_quiet_below (by kernel_rfl) (by kernel_rfl) ?_
          repeat (go_big_quiet_step ((go_at_call 103; with_reducible exact gW _ _)))
          refine wpQuiet_nil ?_
          intro w9 hw9
          have bel2 : Below w2.heap.size w2 w9 := by obtain ⟨p, rfl⟩ := hw9; exact below_regrown _ p.d p.os
          clear hw9 gW k0
          have hB9 := hB2.trans (bel2.mono hB2.size)
          by_cases hlw : wl < x.name.size
          · have hy2 := HN.out
            rw [S2.out, chkF, if_neg HKB.out, if_pos (by rw [HVAL.out]; exact decide_eq_false (by omega))] at hy2
            subst hy2
            have d3 : decide (wl < x.name.size) = true := decide_eq_true hlw
            have d4 : decide ((wl : Int) < x.name.size) = true := decide_eq_true (by omega)
            go_wp2
            exact HR.out _ _ ⟨rfl, hB9⟩
          · have d3 : decide (wl < x.name.size) = false := decide_eq_false hlw
            have d4 : decide ((wl : Int) < x.name.size) = false := decide_eq_false (by omega)
            have hva : ¬ validF x.name.data.toList = false := by rw [HVAL.out, decide_eq_true (show wl = x.name.size by omega)]; simp
            have HVA := Lib.hid hva
            clear hva
            have hcap := RdF.cap h0
            have hkc : k ≤ c := by omega
            have hc0 : ¬ c = 0 := by omega
            have hltk : (l.take k).length ≤ 100000 := by rw [List.length_take]; omega
            have hle9 := HLE.out
            have b9 : w9.cell? ⟨wr.heap.size, 0, none⟩ = some (.string x.name) := by
              rw [bel2.cell (p := ⟨wr.heap.size, 0, none⟩) (by show wr.heap.size < _; omega)]
              exact HB0.out
            clear hle9
            have TK := Lib.hid (RdF.take (RdF.next h0 hB9) rcolV_len (k := k) (by omega))
            have HLT := Lib.hid hltk
            clear hltk
            obtain ⟨gc, hgc⟩ : ∃ gc, gc = wr.heap.size := ⟨_, rfl⟩
            rw [← hgc] at b9
            go_wp2
            rw [← hgc]
            clear hgc
            have hBx := Below.refl w9.heap.size w9
            go_region_held3 (fun w' => w'.cell? ⟨gc, 0, none⟩ = some (.string x.name) ∧ Below w9.heap.size w9 w') (first | (exact ⟨b9, hBx.drew⟩) | (go_split_ands; exact keepS (by assumption) (by assumption) (by assumption)) | go_keep) (first | (go_at_call 65; go_split_ands; refine (refNames_any _ (l.take k) _ (RdF.next TK.out (by assumption)) HLT.out).mono ?_; rintro e w' ⟨o, rfl, ho, bh⟩) | (go_at_call 64; refine (refAt_any _ (namesC (l.take k)) x.name _ (RdS.of_own (by assumption))).mono ?_; rintro e w' ⟨rfl, rfl⟩))
            obtain ⟨-, hb9⟩ : w'.cell? ⟨gc, 0, none⟩ = some (.string x.name) ∧ Below w9.heap.size w9 w' := by assumption
            have hBf := hB9.trans (hb9.mono hB9.size)
            have dge := posF_ge (namesC (l.take k)) x.name
            clear ho bh
            by_cases hin : x.name ∈ namesC (l.take k)
            · have hy2 := HN.out
              rw [S2.out, chkF, if_neg HKB.out, if_neg HVA.out, if_pos hin] at hy2
              subst hy2
              have h0p := posF_some hin 0
              have hpn : 0 ≤ posF 0 (namesC (l.take k)) x.name := by omega
              have hpm : ¬ posF 0 (namesC (l.take k)) x.name < 0 := by omega
              clear hin h0p dge
              go_wp2
              exact HR.out _ _ ⟨rfl, hBf⟩
            · have hn1 : chkF (k + 1) (namesC (l.take (k + 1))) (l.drop (k + 1)) = Y := by
                have h := HN.out
                rw [S2.out, chkF, if_neg HKB.out, if_neg HVA.out, if_neg hin, ← S1.out] at h
                exact h
              have N1 := Lib.hid hn1
              have hpe := posF_none hin 0
              have hpn : ¬ 0 ≤ posF 0 (namesC (l.take k)) x.name := by omega
              have hpm : posF 0 (namesC (l.take k)) x.name < 0 := by omega
              clear hn1 hin hpe dge
              go_wp2
              exact ⟨⟨k + 1, by omega, by go_num, N1.out, hBf⟩, by simp [intOf]; omega⟩
      · obtain rfl : k = l.length := by omega
        have hy2 := HN.out
        rw [List.drop_length, chkF] at hy2
        subst hy2
        clear hlt
        go_wp2
        exact HR.out _ _ ⟨rfl, hB⟩
set_option maxHeartbeats 1000000 in
theorem refCols_any (v : Value) (l : List Col) (w : World) (h : RdC w w.heap.size v l) (hl : l.length ≤ 100000) :
    Calls Tryd.prog 21 #[v] w fun e w' => ∃ o, e = .returned o ∧ Own w' w.heap.size 120 3 o l.length (l.flatMap rcolV) ∧ Below w.heap.size w w' := by
  refine cps fun R HR => ?_
  obtain ⟨i0, hi0, hz0, hz1, hz2⟩ := info_parts rcol_info
  have h0 := h
  obtain ⟨A, c, rfl, -⟩ := h.is
  clear h
  go_enter Tryd.func21, Tryd.ntmps21
  go_wp2
  go_loopw [3, 9] (fun o i wr => ∃ k : Nat, k ≤ l.length ∧ i = .int .i64 k ∧ Own wr w.heap.size 120 3 o k ((l.take k).flatMap rcolV) ∧ Below w.heap.size w wr) (fun _ i _ => l.length - (intOf i).toNat)
  case atStart => exact ⟨0, Nat.zero_le _, rfl, Own.nil_ _ _ _ _, Below.refl _ _⟩
  case round =>
    obtain ⟨k, hk, rfl, hO, hB⟩ := hrel
    by_cases hlt : k < l.length
    · obtain ⟨a, c3, hv, q0, q1, q2⟩ := RdC.at (h0.below hB) hlt
      injection hv with hA _ hcc
      subst hA
      subst hcc
      have hs1 : (l.take (k + 1)).flatMap rcolV = (l.take k).flatMap rcolV ++ rcolV l[k] := by rw [List.take_succ_eq_append_getElem hlt, rcol_snoc]
      obtain ⟨x, hx⟩ : ∃ x, x = l[k] := ⟨_, rfl⟩
      rw [← hx] at q0 q1 q2 hs1
      obtain ⟨xn, xk, xu⟩ := x
      have S1 := Lib.hid hs1
      clear hx hs1
      have dk : decide ((k : Int) < l.length) = true := decide_eq_true (by omega)
      obtain ⟨n1, hn1⟩ : ∃ n1, n1 = nullI xu := ⟨_, rfl⟩
      obtain ⟨wb, hwb⟩ : ∃ wb, wb = (wr.alloc (.cells #[.string xn, .int .i64 xk, .bool xu] 99)).alloc (.cells #[.string xn, .int .i64 xk, .int .i64 n1] 120) := ⟨_, rfl⟩
      have hOw : Own wb w.heap.size 120 3 u3 k ((l.take k).flatMap rcolV) := by
        rw [hwb]
        exact (hO.below ((Below.refl wr.heap.size wr).alloc (Nat.le_refl _) _) (Nat.le_refl _)).below ((Below.refl _ _).alloc (Nat.le_refl _) _) (Nat.le_refl _)
      have hBw : Below w.heap.size w wb := by rw [hwb]; exact (hB.alloc hB.size _).alloc (by have := hB.size; simp; omega) _
      have hsz : wb.heap.size = wr.heap.size + 1 + 1 := by rw [hwb]; simp
      rw [hwb] at hOw hBw
      have HOW := Lib.hid hOw; have HBW := Lib.hid hBw
      clear hsz hOw hBw hwb
      subst hn1
      cases xu
      · have e0 : nullI false = 0 := rfl
        have E0 := Lib.hid (show rcolV ⟨xn, xk, false⟩ = (#[.string xn, .int .i64 xk, .int .i64 0] : Array Value).toList from rfl)
        have O1 := Lib.hid (show ∀ u ∈ (#[.string xn, .int .i64 xk, .int .i64 0] : Array Value).toList, u.oneCell' = true from rcol_one ⟨xn, xk, false⟩)
        rw [e0] at HOW HBW
        clear e0
        go_wp2_with (at_builtin; refine wpList_pushF rfl _ _ _ rfl w.heap.size 120 i0 _ 3 32 Tryd.underlying36 hi0 hz0 hz1 hz2 rfl (by omega) (by omega) u3 k _ #[.string xn, .int .i64 xk, .int .i64 0] rfl rfl HOW.out (by simp [Act.eval]) O1.out (by omega) HBW.out.size ?_; intro v5 w5 hown5 hg5 hat5)
        exact ⟨⟨k + 1, by omega, by go_num, by rw [S1.out, E0.out]; exact hown5, below_grown HBW.out hg5 (fun g hg => (hO.lt g hg).1) HBW.out.size⟩, by simp [intOf]; omega⟩
      · have e0 : nullI true = 1 := rfl
        have E0 := Lib.hid (show rcolV ⟨xn, xk, true⟩ = (#[.string xn, .int .i64 xk, .int .i64 1] : Array Value).toList from rfl)
        have O1 := Lib.hid (show ∀ u ∈ (#[.string xn, .int .i64 xk, .int .i64 1] : Array Value).toList, u.oneCell' = true from rcol_one ⟨xn, xk, true⟩)
        rw [e0] at HOW HBW
        clear e0
        go_wp2_with (at_builtin; refine wpList_pushF rfl _ _ _ rfl w.heap.size 120 i0 _ 3 32 Tryd.underlying36 hi0 hz0 hz1 hz2 rfl (by omega) (by omega) u3 k _ #[.string xn, .int .i64 xk, .int .i64 1] rfl rfl HOW.out (by simp [Act.eval]) O1.out (by omega) HBW.out.size ?_; intro v5 w5 hown5 hg5 hat5)
        exact ⟨⟨k + 1, by omega, by go_num, by rw [S1.out, E0.out]; exact hown5, below_grown HBW.out hg5 (fun g hg => (hO.lt g hg).1) HBW.out.size⟩, by simp [intOf]; omega⟩
    · obtain rfl : k = l.length := by omega
      rw [List.take_length] at hO
      clear hlt
      go_wp2
      exact HR.out _ _ ⟨_, rfl, hO, hB⟩
end Go.Proofs.YtgiemhooeoakmaaDoor

namespace Go.Proofs.YtgiemhooeoakmaaDoor
open Go.RowKit Go.ChangeShapes Go.WideShapes
set_option linter.unusedVariables false
set_option linter.unusedSimpArgs false

set_option maxHeartbeats 1000000 in
theorem idxFind_any (v c0_ : Value) (l : List Col) (pr : Col → Bool) (w : World) (h : RdC w w.heap.size v l)
    (hp : ∀ x ∈ l, ∀ wk, Below w.heap.size w wk → Calls Tryd.prog 117 #[.agg #[.string x.name, .int .i64 x.kind, .bool x.null], c0_] wk fun e w' => e = .returned (.bool (pr x)) ∧ Below wk.heap.size wk w') :
    Calls Tryd.prog 112 #[v, .func (.func 117) #[] #[c0_]] w fun e w' => e = .returned (.int .i64 (idxP pr 0 l)) ∧ Below w.heap.size w w' := by
  refine cps fun R HR => ?_
  have h0 := h
  obtain ⟨A, c, rfl, -⟩ := h.is
  have hfew := RdF.few h0
  have HP := Lib.hid hp
  clear h hp
  go_enter Tryd.func112, Tryd.ntmps112
  go_wp2
  go_loopw [8] (fun i wr => ∃ k : Nat, k ≤ l.length ∧ i = .int .i64 k ∧ idxP pr k (l.drop k) = idxP pr 0 l ∧ Below w.heap.size w wr) (fun i _ => l.length - (intOf i).toNat)
  case atStart => exact ⟨0, Nat.zero_le _, rfl, rfl, Below.refl _ _⟩
  case round =>
    obtain ⟨k, hk, rfl, hN, hB⟩ := hrel
    have HN := Lib.hid hN; clear hN
    by_cases hlt : k < l.length
    · obtain ⟨p, c3, hv, q0, q1, q2⟩ := RdC.at (h0.below hB) hlt
      injection hv with hA _ hcc
      subst hA
      subst hcc
      have hd : l.drop k = l[k] :: l.drop (k + 1) := List.drop_eq_getElem_cons hlt
      have hm : l[k] ∈ l := List.getElem_mem hlt
      obtain ⟨x, hx⟩ : ∃ x, x = l[k] := ⟨_, rfl⟩
      rw [← hx] at q0 q1 q2 hd hm
      have HD := Lib.hid hd; have HM := Lib.hid hm
      clear hx hd hm
      have dk : decide ((k : Int) < l.length) = true := decide_eq_true (by omega)
      go_wp2_with fail
      refine (HP.out x HM.out _ hB).mono ?_
      rintro e w1 ⟨rfl, b1⟩
      have hB1 := hB.trans (b1.mono hB.size)
      obtain ⟨kb, hkb2⟩ : ∃ kb, kb = pr x := ⟨_, rfl⟩
      rw [← hkb2]
      have HKB := Lib.hid hkb2
      clear hkb2
      cases kb
      · have HV := Lib.hid (show idxP pr (k + 1) (l.drop (k + 1)) = idxP pr 0 l by rw [← HN.out, HD.out, idxP, ← HKB.out, if_neg (by simp)])
        go_wp2
        exact ⟨⟨k + 1, by omega, by go_num, HV.out, hB1⟩, by simp [intOf]; omega⟩
      · have HV := Lib.hid (show idxP pr 0 l = k by rw [← HN.out, HD.out, idxP, ← HKB.out, if_pos rfl])
        go_wp2
        exact HR.out _ _ ⟨by rw [HV.out]; try rfl, hB1⟩
    · have hd : l.drop k = [] := List.drop_of_length_le (by omega)
      have HV := Lib.hid (show idxP pr 0 l = -1 by rw [← HN.out, hd, idxP])
      clear hd
      go_wp2
      exact HR.out _ _ ⟨by rw [HV.out]; try rfl, hB⟩
end Go.Proofs.YtgiemhooeoakmaaDoor

namespace Go.Proofs.YtgiemhooeoakmaaDoor
open Go.RowKit Go.ChangeShapes Go.WideShapes
set_option linter.unusedVariables false
set_option linter.unusedSimpArgs false

def col0 : Col := ⟨⟨#[]⟩, 0, false⟩
/-- The column of a name; a zero one, where there is none. -/
def findC (l : List Col) (s : ByteArray) : Col := if s ∈ namesC l then l.getD (atC (namesC l) s) col0 else col0
theorem idxP_pos (s : ByteArray) : ∀ (l : List Col) (j : Nat), idxP (fun c => decide (c.name = s)) j l = posF j (namesC l) s
  | [], j => rfl
  | c :: r, j => by
    have hn : namesC (c :: r) = c.name :: namesC r := rfl
    rw [hn, idxP, posF, idxP_pos s r (j + 1)]
    by_cases h : c.name = s
    · rw [if_pos h, if_pos (decide_eq_true h)]
    · rw [if_neg h, if_neg (by simp [h])]
theorem find1_any (c : Col) (s : ByteArray) (g : Nat) (w : World) (hc : w.cell? ⟨g, 0, none⟩ = some (.string s)) :
    Calls Tryd.prog 117 #[.agg #[.string c.name, .int .i64 c.kind, .bool c.null], .pointer (some ⟨g, 0, none⟩)] w fun e w' => e = .returned (.bool (decide (c.name = s))) ∧ Below w.heap.size w w' := by
  refine cps fun R HR => ?_
  have hg := World.block_lt_of_cell? w _ hc
  obtain ⟨t, ht⟩ : ∃ t, t = decide (c.name = s) := ⟨_, rfl⟩
  have d : (c.name.toList == s.toList) = t := by rw [str_eq, ht]
  rw [← ht] at HR
  clear ht
  go_enter Tryd.func117, Tryd.ntmps117
  go_wp2
  exact HR.out _ _ ⟨rfl, (Below.refl _ _).alloc (Nat.le_refl _) _⟩
set_option maxHeartbeats 2000000 in
theorem find_any (v : Value) (l : List Col) (s : ByteArray) (w : World) (h : RdC w w.heap.size v l) :
    Calls Tryd.prog 81 #[v, .string s] w fun e w' => e = .returned (.tuple #[.agg #[.string (findC l s).name, .int .i64 (findC l s).kind, .bool (findC l s).null], .int .i64 (atC (namesC l) s), .bool (decide (s ∈ namesC l))]) ∧ Below w.heap.size w w' := by
  refine cps fun R HR => ?_
  have h0 := h
  obtain ⟨A, c, rfl, -⟩ := h.is
  have hfew := RdF.few h0
  clear h
  obtain ⟨w0, hw0⟩ : ∃ w0, w0 = (w.alloc (.cells #[.string s] 9)).alloc (.cells #[.string ⟨#[]⟩, .int .i64 0, .bool false] 99) := ⟨_, rfl⟩
  have bw0 : Below w.heap.size w w0 := by rw [hw0]; exact ((Below.refl _ _).alloc (Nat.le_refl _) _).alloc (by simp) _
  have X := (Box.new w 9 #[.string s]).alloc (.cells #[.string ⟨#[]⟩, .int .i64 0, .bool false] 99)
  have Z := Box.new (w.alloc (.cells #[.string s] 9)) 99 #[.string ⟨#[]⟩, .int .i64 0, .bool false]
  rw [← hw0] at X Z
  rw [show (w.alloc (.cells #[.string s] 9)).heap.size = w.heap.size + 1 by simp] at Z
  have hi := idxP_pos s l 0
  have HI := Lib.hid hi; have HX := Lib.hid X; have HZ := Lib.hid Z; have HW0 := Lib.hid hw0
  have hp : ∀ x ∈ l, ∀ wk, Below w0.heap.size w0 wk → Calls Tryd.prog 117 #[.agg #[.string x.name, .int .i64 x.kind, .bool x.null], .pointer (some ⟨w.heap.size, 0, none⟩)] wk fun e w' => e = .returned (.bool (decide (x.name = s))) ∧ Below wk.heap.size wk w' := fun x _ wk hb => find1_any x s _ wk ((HX.out.below hb HX.out.lt).cell 0)
  have HP := Lib.hid hp; have HB0 := Lib.hid bw0
  clear hi X Z hp hw0 bw0
  obtain ⟨p, hp⟩ : ∃ p, p = posF 0 (namesC l) s := ⟨_, rfl⟩
  obtain ⟨tw, htw⟩ : ∃ tw, tw = decide (s ∈ namesC l) := ⟨_, rfl⟩
  obtain ⟨ct, hct⟩ : ∃ ct, ct = atC (namesC l) s := ⟨_, rfl⟩
  obtain ⟨fc, hfc⟩ : ∃ fc, fc = findC l s := ⟨_, rfl⟩
  have hcase : (tw = true ∧ p = (ct : Int) ∧ ∃ hk : ct < l.length, fc = l[ct]) ∨ (tw = false ∧ p = -1 ∧ ct = 0 ∧ fc = col0) := by
    by_cases hin : s ∈ namesC l
    · left
      have hlt := atC_lt hin
      rw [namesC_len] at hlt
      have hk : ct < l.length := by rw [hct]; exact hlt
      refine ⟨by rw [htw, decide_eq_true hin], by rw [hp, hct, posF_in hin], hk, ?_⟩
      rw [hfc]
      unfold findC
      rw [if_pos hin, ← hct, List.getD_eq_getElem?_getD, List.getElem?_eq_getElem hk]
      rfl
    · right
      refine ⟨by rw [htw, decide_eq_false hin], by rw [hp, posF_none hin], by rw [hct]; unfold atC; rw [posF_none hin]; rfl, ?_⟩
      rw [hfc]
      unfold findC
      rw [if_neg hin]
  rw [← htw, ← hct, ← hfc] at HR
  have HPP := Lib.hid hp
  clear hp htw hct hfc
  go_enter Tryd.func81, Tryd.ntmps81
  go_wp2_with fail
  rw [← HW0.out]
  refine (idxFind_any _ _ l (fun c => decide (c.name = s)) _ (RdF.next h0 HB0.out) HP.out).mono ?_
  rintro e w1 ⟨rfl, b1⟩
  rw [HI.out, ← HPP.out]
  have bw1 := HB0.out.trans (b1.mono HB0.out.size)
  have Z1 := HZ.out.below b1 HZ.out.lt
  have z0 := Z1.cell 0
  have z1 := Z1.cell 1
  have z2 := Z1.cell 2
  have f0 := Z1.frozen 0
  have f1 := Z1.frozen 1
  have f2 := Z1.frozen 2
  simp at z0 z1 z2
  rcases hcase with ⟨rfl, rfl, hk, hfc⟩ | ⟨rfl, rfl, rfl, rfl⟩
  · obtain ⟨a, c3, hv, q0, q1, q2⟩ := RdC.at ((RdF.next h0 bw1)) hk
    injection hv with hA _ hcc
    subst hA
    subst hcc
    rw [← hfc] at q0 q1 q2
    obtain ⟨fn, fk, fu⟩ := fc
    have Z2 := ((Z1.put 0 (.string fn)).put 1 (.int .i64 fk)).put 2 (.bool fu)
    have hBf : Below w.heap.size w (((w1.setCell ⟨w.heap.size + 1, 0, none⟩ (.string fn)).setCell ⟨w.heap.size + 1, 1, none⟩ (.int .i64 fk)).setCell ⟨w.heap.size + 1, 2, none⟩ (.bool fu)) := ((bw1.setCell (by simp) _).setCell (by simp) _).setCell (by simp) _
    have HZ2 := Lib.hid Z2; have HBF := Lib.hid hBf
    have hctI : (ct : Int) < l.length := by omega
    have dct : decide ((ct : Int) < 0) = false := decide_eq_false (by omega)
    clear hfc Z2 hBf Z1
    go_wp2
    have c0 := HZ2.out.cell 0
    have c1 := HZ2.out.cell 1
    have c2 := HZ2.out.cell 2
    simp at c0 c1 c2
    refine bodyPost_ret (v := .tuple #[.agg #[.string fn, .int .i64 fk, .bool fu], .int .i64 ct, .bool true]) (by simp [results, Tryd.results81, go_sem, c0, c1, c2]) rfl (HR.out _ _ ⟨rfl, HBF.out⟩)
  · have Z2 := ((Z1.put 0 (.string ⟨#[]⟩)).put 1 (.int .i64 0)).put 2 (.bool false)
    have hBf : Below w.heap.size w (((w1.setCell ⟨w.heap.size + 1, 0, none⟩ (.string ⟨#[]⟩)).setCell ⟨w.heap.size + 1, 1, none⟩ (.int .i64 0)).setCell ⟨w.heap.size + 1, 2, none⟩ (.bool false)) := ((bw1.setCell (by simp) _).setCell (by simp) _).setCell (by simp) _
    have HZ2 := Lib.hid Z2; have HBF := Lib.hid hBf
    clear Z2 hBf Z1
    go_wp2
    have c0 := HZ2.out.cell 0
    have c1 := HZ2.out.cell 1
    have c2 := HZ2.out.cell 2
    simp at c0 c1 c2
    refine bodyPost_ret (v := .tuple #[.agg #[.string ⟨#[]⟩, .int .i64 0, .bool false], .int .i64 0, .bool false]) (by simp [results, Tryd.results81, go_sem, c0, c1, c2]) rfl (HR.out _ _ ⟨rfl, HBF.out⟩)
end Go.Proofs.YtgiemhooeoakmaaDoor


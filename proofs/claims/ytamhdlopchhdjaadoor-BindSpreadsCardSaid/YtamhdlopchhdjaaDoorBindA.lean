/- Layer 19: Contains; few, columns; Bind, and the reference's. -/
import Derived.Test.YtamhdlopchhdjaaDoorSchB
import Derived.Test.YtamhdlopchhdjaaDoorHeadE
import Derived.Test.YtamhdlopchhdjaaDoorIntQ
namespace Go.Proofs.YtamhdlopchhdjaaDoor
open Go.RowKit Go.ChangeShapes Go.WideShapes
set_option linter.unusedVariables false
set_option linter.unusedSimpArgs false

/-- The place of a number; -1: it is not there. -/
def idxI : Nat → List Int → Int → Int
  | _, [], _ => -1
  | j, a :: r, x => if x = a then j else idxI (j + 1) r x
theorem idxI_mem : ∀ (l : List Int) (j : Nat) (x : Int), decide (0 ≤ idxI j l x) = decide (x ∈ l)
  | [], j, x => rfl
  | a :: r, j, x => by
    rw [idxI]
    by_cases h : x = a
    · rw [if_pos h, decide_eq_true (by omega), decide_eq_true (by simp [h])]
    · rw [if_neg h, idxI_mem r (j + 1) x]
      simp [h]
theorem indexInt_any (v : Value) (l : List Int) (x : Int) (w : World) {B : Nat} (h : RdI w B v l) :
    Calls Tryd.prog 49 #[v, .int .i64 x] w fun e w' => e = .returned (.int .i64 (idxI 0 l x)) ∧ w' = w := by
  refine cps fun R HR => ?_
  have h0 := h
  obtain ⟨A, c, rfl, -⟩ := h.is
  have hfew := h.few
  clear h
  go_enter Tryd.func49, Tryd.ntmps49
  go_wp2
  go_loopw [8] (fun i wr => ∃ k : Nat, k ≤ l.length ∧ i = .int .i64 k ∧ idxI k (l.drop k) x = idxI 0 l x ∧ wr = w) (fun i _ => l.length - (intOf i).toNat)
  case atStart => exact ⟨0, Nat.zero_le _, rfl, rfl, rfl⟩
  case round =>
    obtain ⟨k, hk, rfl, hN, rfl⟩ := hrel
    have HN := Lib.hid hN; clear hN
    by_cases hlt : k < l.length
    · obtain ⟨p, c3, hv, hcp⟩ := h0.at hlt
      injection hv with hA _ hcc
      subst hA
      subst hcc
      have hd : l.drop k = l[k] :: l.drop (k + 1) := List.drop_eq_getElem_cons hlt
      obtain ⟨s, hs⟩ : ∃ s, s = l[k] := ⟨_, rfl⟩
      rw [← hs] at hcp hd
      clear hs
      have dk : decide ((k : Int) < l.length) = true := decide_eq_true (by omega)
      by_cases hb : x = s
      · have HV := Lib.hid (show idxI 0 l x = k by rw [← HN.out, hd, idxI, if_pos hb])
        have d : (x == s) = true := by simp [hb]
        clear hd hb
        go_wp2
        exact HR.out _ _ ⟨by rw [HV.out]; try rfl, rfl⟩
      · have HV := Lib.hid (show idxI (k + 1) (l.drop (k + 1)) x = idxI 0 l x by rw [← HN.out, hd, idxI, if_neg hb])
        have d : (x == s) = false := by rw [beq_eq_false_iff_ne]; exact hb
        clear hd hb
        go_wp2
        exact ⟨⟨k + 1, by omega, by go_num, HV.out, trivial⟩, by simp [intOf]; omega⟩
    · have hd : l.drop k = [] := List.drop_of_length_le (by omega)
      have HV := Lib.hid (show idxI 0 l x = -1 by rw [← HN.out, hd, idxI])
      clear hd
      go_wp2
      exact HR.out _ _ ⟨by rw [HV.out]; try rfl, rfl⟩
theorem containsInt_any (v : Value) (l : List Int) (x : Int) (w : World) {B : Nat} (h : RdI w B v l) :
    Calls Tryd.prog 41 #[v, .int .i64 x] w fun e w' => e = .returned (.bool (decide (x ∈ l))) ∧ w' = w := by
  refine cps fun R HR => ?_
  have hx := idxI_mem l 0 x
  rw [← hx] at HR
  obtain ⟨n, hn⟩ : ∃ n, n = idxI 0 l x := ⟨_, rfl⟩
  rw [← hn] at HR
  have HN := Lib.hid hn
  clear hx hn
  go_enter Tryd.func41, Tryd.ntmps41
  go_wp2_with fail
  refine (indexInt_any v l x _ h).mono ?_
  rintro e w1 ⟨rfl, rfl⟩
  rw [← HN.out]
  go_wp2
  exact HR.out _ _ ⟨rfl, rfl⟩
theorem few19_any (v : Value) (l : Row) (w : World) (h : RdS w w.heap.size v l) :
    Calls Tryd.prog 25 #[v] w fun e w' => (∃ g : Bool, e = .returned (.bool g) ∧ (g = true → l.length ≤ 20 ∧ bytesR l ≤ 300)) ∧ Below w.heap.size w w' := by
  refine cps fun R HR => ?_
  have hv := h
  obtain ⟨A, c, rfl, -⟩ := h.is
  have ht := RdT.lit1 22 hv
  go_enter Tryd.func25, Tryd.ntmps25
  go_wp2_with fail
  refine (great_any _ [l] 1 20 300 _ ht (by omega) (by omega) (by omega)).mono ?_
  rintro e w1 ⟨⟨g, rfl, hg⟩, rfl⟩
  have hres : (!g) = true → l.length ≤ 20 ∧ bytesR l ≤ 300 := fun hh => by
    obtain ⟨-, q1, q2⟩ := hg (by simpa using hh)
    simp [tot] at q1 q2
    exact ⟨q1, q2⟩
  have HRES := Lib.hid hres
  clear hg hres ht
  go_wp2
  exact HR.out _ _ ⟨⟨!g, rfl, HRES.out⟩, (Below.refl _ _).alloc (Nat.le_refl _) _⟩
set_option maxHeartbeats 1000000 in
theorem columns19_any (v : Value) (l : List Col) (w : World) (h : RdC w w.heap.size v l) :
    Calls Tryd.prog 26 #[v] w fun e w' => (∃ g : Bool, e = .returned (.bool g) ∧ (g = true → l.length ≤ 20 ∧ bytesR (namesC l) ≤ 300)) ∧ Below w.heap.size w w' := by
  refine cps fun R HR => ?_
  obtain ⟨i0, hi0, hz0, hz1, hz2⟩ := info_parts str_info
  have h0 := h
  obtain ⟨A, c, rfl, -⟩ := h.is
  have hfew := RdF.few h0
  clear h
  go_enter Tryd.func26, Tryd.ntmps26
  go_wp2
  go_loopw [3, 8] (fun o i wr => ∃ k : Nat, k ≤ l.length ∧ k ≤ 21 ∧ i = .int .i64 k ∧ Own wr w.heap.size 9 1 o k (strV (namesC (l.take k))) ∧ Below w.heap.size w wr) (fun _ i _ => l.length - (intOf i).toNat)
  case atStart => exact ⟨0, Nat.zero_le _, by omega, rfl, Own.nil_ _ _ _ _, Below.refl _ _⟩
  case round =>
    obtain ⟨k, hk, hk21, rfl, hO, hB⟩ := hrel
    by_cases hlt : k < l.length
    · obtain ⟨a, c3, hv, q0, q1, q2⟩ := RdC.at (h0.below hB) hlt
      injection hv with hA _ hcc
      subst hA
      subst hcc
      have hs1 := namesC_snoc hlt
      obtain ⟨x, hx⟩ : ∃ x, x = l[k] := ⟨_, rfl⟩
      rw [← hx] at q0 q1 q2 hs1
      have S1 := Lib.hid hs1
      clear hx hs1
      have dk : decide ((k : Int) < l.length) = true := decide_eq_true (by omega)
      have hOw := hO.below ((Below.refl wr.heap.size wr).alloc (Nat.le_refl _) (.cells #[.string x.name, .int .i64 x.kind, .bool x.null] 74)) (Nat.le_refl _)
      have hBw := hB.alloc hB.size (.cells #[.string x.name, .int .i64 x.kind, .bool x.null] 74)
      obtain ⟨A3, c4, rfl, -⟩ := hO.form
      by_cases hk20 : 20 < k
      · have d20 : decide ((20 : Int) < (k : Int)) = true := decide_eq_true (by omega)
        go_wp2
        exact HR.out _ _ ⟨⟨false, rfl, fun h => by cases h⟩, hBw⟩
      · have d20 : decide ((20 : Int) < (k : Int)) = false := decide_eq_false (by omega)
        go_wp2_with (at_builtin; refine wpList_push rfl _ _ _ rfl w.heap.size 9 i0 _ 16 Tryd.underlying22 hi0 hz0 hz1 hz2 rfl (by omega) (.slice A3 k c4) k _ (.string x.name) rfl hOw (by simp [Act.eval]) rfl (by omega) hBw.size ?_; intro v5 w5 hown5 hg5 hat5)
        exact ⟨⟨k + 1, by omega, by omega, by go_num, by rw [S1.out, strV_snoc]; exact hown5, below_grown hBw hg5 (fun g hg => (hO.lt g hg).1) hBw.size⟩, by simp [intOf]; omega⟩
    · obtain rfl : k = l.length := by omega
      rw [List.take_length] at hO
      clear hlt
      go_wp2_with fail
      refine (few19_any _ (namesC l) _ (RdS.of_own hO)).mono ?_
      rintro e w1 ⟨⟨g, rfl, hg⟩, b1⟩
      have hg2 : g = true → l.length ≤ 20 ∧ bytesR (namesC l) ≤ 300 := fun hh => by have := hg hh; rw [namesC_len] at this; exact this
      have HG := Lib.hid hg2
      clear hg hg2
      go_wp2
      exact HR.out _ _ ⟨⟨g, rfl, HG.out⟩, hB.trans (b1.mono hB.size)⟩
end Go.Proofs.YtamhdlopchhdjaaDoor

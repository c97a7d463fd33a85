/- slices.Index, slices.Contains of ints. -/
import Derived.Test.YtgiemhooeoakmaaDoorInts
namespace Go.Proofs.YtgiemhooeoakmaaDoor
open Go.RowKit Go.ChangeShapes Go.WideShapes
set_option linter.unusedVariables false
set_option linter.unusedSimpArgs false

/-- The place of a number; -1: it is not there. -/
def idxI : Nat → List Int → Int → Int
  | _, [], _ => -1
  | j, a :: r, x => if x = a then j else idxI (j + 1) r x
theorem idxI_mem : ∀ (l : List Int) (j : Nat) (x : Int), decide (0 ≤ idxI j l x) = decide (x ∈ l)
  | [], j, x => rfl
  | a :: r, j, x => by
    rw [idxI]
    by_cases h : x = a
    · rw [if_pos h, decide_eq_true (by omega), decide_eq_true (by simp [h])]
    · rw [if_neg h, idxI_mem r (j + 1) x]
      simp [h]
theorem indexInt_any (v : Value) (l : List Int) (x : Int) (w : World) {B : Nat} (h : RdI w B v l) :
    Calls Tryd.prog 124 #[v, .int .i64 x] w fun e w' => e = .returned (.int .i64 (idxI 0 l x)) ∧ w' = w := by
  refine cps fun R HR => ?_
  have h0 := h
  obtain ⟨A, c, rfl, -⟩ := h.is
  have hfew := h.few
  clear h
  go_enter Tryd.func124, Tryd.ntmps124
  go_wp2
  go_loopw [8] (fun i wr => ∃ k : Nat, k ≤ l.length ∧ i = .int .i64 k ∧ idxI k (l.drop k) x = idxI 0 l x ∧ wr = w) (fun i _ => l.length - (intOf i).toNat)
  case atStart => exact ⟨0, Nat.zero_le _, rfl, rfl, rfl⟩
  case round =>
    obtain ⟨k, hk, rfl, hN, rfl⟩ := hrel
    have HN := Lib.hid hN; clear hN
    by_cases hlt : k < l.length
    · obtain ⟨p, c3, hv, hcp⟩ := h0.at hlt
      injection hv with hA _ hcc
      subst hA
      subst hcc
      have hd : l.drop k = l[k] :: l.drop (k + 1) := List.drop_eq_getElem_cons hlt
      obtain ⟨s, hs⟩ : ∃ s, s = l[k] := ⟨_, rfl⟩
      rw [← hs] at hcp hd
      clear hs
      have dk : decide ((k : Int) < l.length) = true := decide_eq_true (by omega)
      by_cases hb : x = s
      · have HV := Lib.hid (show idxI 0 l x = k by rw [← HN.out, hd, idxI, if_pos hb])
        have d : (x == s) = true := by simp [hb]
        clear hd hb
        go_wp2
        exact HR.out _ _ ⟨by rw [HV.out]; try rfl, rfl⟩
      · have HV := Lib.hid (show idxI (k + 1) (l.drop (k + 1)) x = idxI 0 l x by rw [← HN.out, hd, idxI, if_neg hb])
        have d : (x == s) = false := by rw [beq_eq_false_iff_ne]; exact hb
        clear hd hb
        go_wp2
        exact ⟨⟨k + 1, by omega, by go_num, HV.out, trivial⟩, by simp [intOf]; omega⟩
    · have hd : l.drop k = [] := List.drop_of_length_le (by omega)
      have HV := Lib.hid (show idxI 0 l x = -1 by rw [← HN.out, hd, idxI])
      clear hd
      go_wp2
      exact HR.out _ _ ⟨by rw [HV.out]; try rfl, rfl⟩
theorem containsInt_any (v : Value) (l : List Int) (x : Int) (w : World) {B : Nat} (h : RdI w B v l) :
    Calls Tryd.prog 98 #[v, .int .i64 x] w fun e w' => e = .returned (.bool (decide (x ∈ l))) ∧ w' = w := by
  refine cps fun R HR => ?_
  have hx := idxI_mem l 0 x
  rw [← hx] at HR
  obtain ⟨n, hn⟩ : ∃ n, n = idxI 0 l x := ⟨_, rfl⟩
  rw [← hn] at HR
  have HN := Lib.hid hn
  clear hx hn
  go_enter Tryd.func98, Tryd.ntmps98
  go_wp2_with fail
  refine (indexInt_any v l x _ h).mono ?_
  rintro e w1 ⟨rfl, rfl⟩
  rw [← HN.out]
  go_wp2
  exact HR.out _ _ ⟨rfl, rfl⟩
end Go.Proofs.YtgiemhooeoakmaaDoor

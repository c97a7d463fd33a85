/- Layer 15: the reference's At. -/
import Derived.Test.YtgiemhooeoakmaaDoorHeadA
namespace Go.Proofs.YtgiemhooeoakmaaDoor
open Go.RowKit Go.ChangeShapes Go.WideShapes
set_option linter.unusedVariables false
set_option linter.unusedSimpArgs false

theorem refAt_any (v : Value) (l : Row) (s : ByteArray) (w : World) {B : Nat} (h : RdS w B v l) :
    Calls Tryd.prog 64 #[v, .string s] w fun e w' => e = .returned (.int .i64 (posF 0 l s)) ∧ w' = w := by
  refine cps fun R HR => ?_
  have h0 := h
  obtain ⟨A, c, rfl, -⟩ := h.is
  have hfew := h.few
  clear h
  go_enter Tryd.func64, Tryd.ntmps64
  go_wp2
  go_loopw [9] (fun i wr => ∃ k : Nat, k ≤ l.length ∧ i = .int .i64 k ∧ posF k (l.drop k) s = posF 0 l s ∧ wr = w) (fun i _ => l.length - (intOf i).toNat)
  case atStart => exact ⟨0, Nat.zero_le _, rfl, rfl, rfl⟩
  case round =>
    obtain ⟨k, hk, rfl, hN, rfl⟩ := hrel
    have HN := Lib.hid hN; clear hN
    by_cases hlt : k < l.length
    · obtain ⟨p, c3, hv, hcp⟩ := h0.at hlt
      injection hv with hA _ hcc
      subst hA
      subst hcc
      have hd : l.drop k = l[k] :: l.drop (k + 1) := List.drop_eq_getElem_cons hlt
      obtain ⟨x, hx⟩ : ∃ x, x = l[k] := ⟨_, rfl⟩
      rw [← hx] at hcp hd
      clear hx
      have dk : decide ((k : Int) < l.length) = true := decide_eq_true (by omega)
      by_cases hb : x = s
      · have HV := Lib.hid (show posF 0 l s = k by rw [← HN.out, hd, posF, if_pos hb])
        have d : (x.toList == s.toList) = true := by rw [str_eq]; exact decide_eq_true hb
        clear hd hb
        go_wp2
        exact HR.out _ _ ⟨by rw [HV.out], rfl⟩
      · have HV := Lib.hid (show posF (k + 1) (l.drop (k + 1)) s = posF 0 l s by rw [← HN.out, hd, posF, if_neg hb])
        have d : (x.toList == s.toList) = false := by rw [str_eq]; exact decide_eq_false hb
        clear hd hb
        go_wp2
        exact ⟨⟨k + 1, by omega, by go_num, HV.out, trivial⟩, by simp [intOf]; omega⟩
    · have hd : l.drop k = [] := List.drop_of_length_le (by omega)
      have HV := Lib.hid (show posF 0 l s = -1 by rw [← HN.out, hd, posF])
      clear hd
      go_wp2
      exact HR.out _ _ ⟨by rw [HV.out]; rfl, rfl⟩
theorem RdS.cap {w : World} {B c : Nat} {A : Option Addr} {n : Nat} {l : Row} (h : RdS w B (.slice A n c) l) : l.length ≤ c := by
  obtain ⟨A', c', h1, h2⟩ := h.is
  injection h1 with _ _ hc
  subst hc
  exact h2.cap
theorem posF_ge (l : Row) (s : ByteArray) : decide (0 ≤ posF 0 l s) = decide (s ∈ l) := by
  by_cases h : s ∈ l
  · have := posF_some h 0
    rw [decide_eq_true h, decide_eq_true (by omega)]
  · rw [posF_none h, decide_eq_false h]
    rfl
theorem posF_lt (l : Row) (s : ByteArray) : decide (posF 0 l s < 0) = !decide (s ∈ l) := by
  by_cases h : s ∈ l
  · have := posF_some h 0
    rw [decide_eq_true h, decide_eq_false (by omega)]
    rfl
  · rw [posF_none h, decide_eq_false h]
    rfl
end Go.Proofs.YtgiemhooeoakmaaDoor

/- Layer 5's Same. -/
import Derived.Test.YtamhdlopchhdjaaDoorTabA
import Derived.Lib.QuietBelow
import Derived.Lib.Strings
namespace Go.Proofs.YtamhdlopchhdjaaDoor
open Go.RowKit Go.ChangeShapes Go.WideShapes
set_option linter.unusedVariables false
set_option linter.unusedSimpArgs false

theorem RdS.next {w w' : World} {v : Value} {l : Row} (h : RdS w w.heap.size v l) (hb : Below w.heap.size w w') : RdS w' w'.heap.size v l := (h.below hb).more hb.size
theorem RdT.next {w w' : World} {v : Value} {t : Tbl} (h : RdT w w.heap.size v t) (hb : Below w.heap.size w w') : RdT w' w'.heap.size v t := (h.below hb).more hb.size
theorem str_eq (a b : ByteArray) : (a.toList == b.toList) = decide (a = b) := by
  rw [Bool.eq_iff_iff, beq_iff_eq, decide_eq_true_iff, ByteArray.toList_eq, ByteArray.toList_eq]
  constructor
  · intro h; exact ByteArray.ext (Array.toList_inj.1 h)
  · rintro rfl; rfl
def sameS (a b : Row) : Bool := decide (a = b)
def sameT (a b : Tbl) : Bool := decide (a = b)
theorem same_any (v1 v2 : Value) (a b : Row) (w : World) (h1 : RdS w w.heap.size v1 a) (h2 : RdS w w.heap.size v2 b) :
    Calls Tryd.prog 16 #[v1, v2] w fun e w' => e = .returned (.bool (sameS a b)) ∧ Below w.heap.size w w' := by
  refine cps fun R HR => ?_
  have g1 := h1; have g2 := h2
  obtain ⟨A, c, rfl, -⟩ := h1.is
  obtain ⟨A', c', rfl, -⟩ := h2.is
  have hf1 := h1.few
  have hf2 := h2.few
  go_enter Tryd.func16, Tryd.ntmps16
  by_cases hl : a.length = b.length
  · have d : ((a.length : Int) != (b.length : Int)) = false := by simp [hl]
    go_wp2
    go_loopw [13] (fun i wr => ∃ k : Nat, k ≤ a.length ∧ i = .int .i64 k ∧ a.take k = b.take k ∧ Below w.heap.size w wr) (fun i _ => a.length - (intOf i).toNat)
    case atStart => exact ⟨0, Nat.zero_le _, rfl, rfl, Below.refl _ _⟩
    case round =>
      obtain ⟨k, hk, rfl, hN, hB⟩ := hrel
      have HN := Lib.hid hN; clear hN
      by_cases hlt : k < a.length
      · obtain ⟨p, c3, hv, hc⟩ := (g1.below hB).at hlt
        injection hv with hA _ hcc
        subst hA
        subst hcc
        obtain ⟨p', c4, hv', hc'⟩ := (g2.below hB).at (k := k) (by omega)
        injection hv' with hA _ hcc
        subst hA
        subst hcc
        have hltb : k < b.length := by omega
        obtain ⟨x, hx⟩ : ∃ x, x = a[k] := ⟨_, rfl⟩
        obtain ⟨y, hy⟩ : ∃ y, y = b[k] := ⟨_, rfl⟩
        rw [← hx] at hc
        rw [← hy] at hc'
        have HX := Lib.hid hx; have HY := Lib.hid hy; have HL := Lib.hid hl
        clear hx hy
        have dk : decide ((k : Int) < a.length) = true := decide_eq_true (by omega)
        have hltI : (k : Int) < b.length := by omega
        clear h1 h2
        have hs1 : a.take (k + 1) = a.take k ++ [x] := by rw [HX.out]; exact List.take_succ_eq_append_getElem hlt
        have hs2 : b.take (k + 1) = b.take k ++ [y] := by rw [HY.out]; exact List.take_succ_eq_append_getElem hltb
        have S1 := Lib.hid hs1; have S2 := Lib.hid hs2
        clear hs1 hs2 HX HY hl
        by_cases he : x = y
        · have HNN := Lib.hid (show a.take (k + 1) = b.take (k + 1) by rw [S1.out, S2.out, HN.out, he])
          have d2 : (x.toList == y.toList) = true := by rw [str_eq]; exact decide_eq_true he
          clear he
          go_wp2
          go_quiet (fail)
          go_wp2
          exact ⟨⟨k + 1, by omega, by go_num, HNN.out, below_drewN hB _⟩, by simp [intOf]; omega⟩
        · have HNO := Lib.hid (show sameS a b = false by
            unfold sameS
            rw [decide_eq_false_iff_not]
            intro hab
            have h1 := S1.out
            have h2 := S2.out
            rw [hab, h2] at h1
            have h3 := HN.out
            rw [hab] at h3
            exact he (by simpa using h1.symm))
          have d2 : (x.toList == y.toList) = false := by rw [str_eq]; exact decide_eq_false he
          clear he
          go_wp2
          go_quiet (fail)
          go_wp2
          exact HR.out _ _ ⟨by rw [HNO.out]; rfl, below_drewN hB _⟩
      · have HY := Lib.hid (show sameS a b = true by
          unfold sameS
          rw [decide_eq_true_iff]
          have := HN.out
          rw [List.take_of_length_le (by omega), List.take_of_length_le (by omega)] at this
          exact this)
        go_wp2
        exact HR.out _ _ ⟨by rw [HY.out]; rfl, hB⟩
  · have HNO := Lib.hid (show sameS a b = false by
      unfold sameS
      rw [decide_eq_false_iff_not]
      rintro rfl
      exact hl rfl)
    have d : ((a.length : Int) != (b.length : Int)) = true := by rw [bne_iff_ne]; omega
    clear hl
    go_wp2
    exact HR.out _ _ ⟨by rw [HNO.out]; rfl, Below.refl _ _⟩
end Go.Proofs.YtamhdlopchhdjaaDoor

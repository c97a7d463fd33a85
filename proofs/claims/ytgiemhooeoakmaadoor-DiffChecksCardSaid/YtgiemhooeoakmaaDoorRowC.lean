/- Layers 17, 20, 23: may a value be; are columns few, rows small, tables few? Tables as the reference has them. -/
import Derived.Test.YtgiemhooeoakmaaDoorRowA
import Derived.Test.YtgiemhooeoakmaaDoorSchB
namespace Go.Proofs.YtgiemhooeoakmaaDoor
open Go.RowKit Go.ChangeShapes Go.WideShapes
set_option linter.unusedVariables false
set_option linter.unusedSimpArgs false

set_option maxHeartbeats 1000000 in
theorem fewCols_any (v : Value) (l : List Col) (w : World) (h : RdC w w.heap.size v l) :
    Calls Tryd.prog 85 #[v] w fun e w' => (∃ g : Bool, e = .returned (.bool g) ∧ (g = true → l.length ≤ 12 ∧ ∀ c ∈ l, c.name.size ≤ 40)) ∧ Below w.heap.size w w' := by
  refine cps fun R HR => ?_
  have h0 := h
  obtain ⟨A, c, rfl, -⟩ := h.is
  have hfew := RdF.few h0
  clear h
  go_enter Tryd.func85, Tryd.ntmps85
  go_wp2
  go_loopw [7] (fun i wr => ∃ k : Nat, k ≤ l.length ∧ i = .int .i64 k ∧ (∀ c ∈ l.take k, c.name.size ≤ 40) ∧ Below w.heap.size w wr) (fun i _ => l.length - (intOf i).toNat)
  case atStart => exact ⟨0, Nat.zero_le _, rfl, fun c hc => by simp at hc, Below.refl _ _⟩
  case round =>
    obtain ⟨k, hk, rfl, hN, hB⟩ := hrel
    have HN := Lib.hid hN; clear hN
    by_cases hlt : k < l.length
    · obtain ⟨a, c3, hv, q0, q1, q2⟩ := RdC.at (h0.below hB) hlt
      injection hv with hA _ hcc
      subst hA
      subst hcc
      have hs1 : l.take (k + 1) = l.take k ++ [l[k]] := List.take_succ_eq_append_getElem hlt
      obtain ⟨x, hx⟩ : ∃ x, x = l[k] := ⟨_, rfl⟩
      rw [← hx] at q0 q1 q2 hs1
      have S1 := Lib.hid hs1
      clear hx hs1
      have dk : decide ((k : Int) < l.length) = true := decide_eq_true (by omega)
      by_cases hb : 40 < x.name.size
      · have d : decide ((40 : Int) < x.name.size) = true := decide_eq_true (by omega)
        clear hb
        go_wp2
        exact HR.out _ _ ⟨⟨false, rfl, fun h => by cases h⟩, hB.alloc hB.size _⟩
      · have d : decide ((40 : Int) < x.name.size) = false := decide_eq_false (by omega)
        have hn2 : ∀ c ∈ l.take (k + 1), c.name.size ≤ 40 := fun c hc => by
          rw [S1.out] at hc
          rcases List.mem_append.1 hc with h | h
          · exact HN.out c h
          · rw [List.mem_singleton.1 h]; omega
        have N2 := Lib.hid hn2
        clear hb hn2
        go_wp2
        exact ⟨⟨k + 1, by omega, by go_num, N2.out, hB.alloc hB.size _⟩, by simp [intOf]; omega⟩
    · obtain rfl : k = l.length := by omega
      have hn := HN.out
      rw [List.take_length] at hn
      have N2 := Lib.hid hn
      clear hn hlt
      by_cases h12 : l.length ≤ 12
      · have d : decide ((l.length : Int) ≤ 12) = true := decide_eq_true (by omega)
        have H12 := Lib.hid h12
        clear h12
        go_wp2
        exact HR.out _ _ ⟨⟨true, rfl, fun _ => ⟨H12.out, N2.out⟩⟩, hB⟩
      · have d : decide ((l.length : Int) ≤ 12) = false := decide_eq_false (by omega)
        clear h12
        go_wp2
        exact HR.out _ _ ⟨⟨false, rfl, fun h => by cases h⟩, hB⟩
def smallT (t : VTab) : Prop := t.length ≤ 12 ∧ ∀ r ∈ t, r.length ≤ 12 ∧ ∀ x ∈ r, x.s.size ≤ 40
set_option maxHeartbeats 2000000 in
theorem small_any (v : Value) (t : VTab) (w : World) (h : RdVT w w.heap.size v t) :
    Calls Tryd.prog 86 #[v] w fun e w' => (∃ g : Bool, e = .returned (.bool g) ∧ (g = true → smallT t)) ∧ Below w.heap.size w w' := by
  refine cps fun R HR => ?_
  have h0 := h
  obtain ⟨A, c, vs, rfl, -, -⟩ := h.is
  have hfew := h0.few
  clear h
  go_enter Tryd.func86, Tryd.ntmps86
  go_wp2
  go_loopw [9] (fun i wr => ∃ k : Nat, k ≤ t.length ∧ i = .int .i64 k ∧ (∀ r ∈ t.take k, r.length ≤ 12 ∧ ∀ x ∈ r, x.s.size ≤ 40) ∧ Below w.heap.size w wr) (fun i _ => t.length - (intOf i).toNat)
  case atStart => exact ⟨0, Nat.zero_le _, rfl, fun c hc => by simp at hc, Below.refl _ _⟩
  case round =>
    obtain ⟨k, hk, rfl, hN, hB⟩ := hrel
    have HN := Lib.hid hN; clear hN
    obtain ⟨w3, rfl⟩ : ∃ w3 : World, w3 = wr := ⟨_, rfl⟩
    by_cases hlt : k < t.length
    · obtain ⟨a, c3, u, hv, hc, hu⟩ := (RdE.next (RdF.stays valV 4) h0 hB).at hlt
      injection hv with hA _ hcc
      subst hA
      subst hcc
      have hs1 : t.take (k + 1) = t.take k ++ [t[k]] := List.take_succ_eq_append_getElem hlt
      obtain ⟨x, hx⟩ : ∃ x, x = t[k] := ⟨_, rfl⟩
      rw [← hx] at hu hs1
      have S1 := Lib.hid hs1
      clear hx hs1
      have hu0 := hu
      obtain ⟨A2, c2, rfl, -⟩ := hu.is
      have hxf := RdF.few hu0
      clear hu
      have dk : decide ((k : Int) < t.length) = true := decide_eq_true (by omega)
      by_cases hx12 : 12 < x.length
      · have d : decide ((12 : Int) < x.length) = true := decide_eq_true (by omega)
        clear hx12
        go_wp2
        exact HR.out _ _ ⟨⟨false, rfl, fun h => by cases h⟩, hB⟩
      · have d : decide ((12 : Int) < x.length) = false := decide_eq_false (by omega)
        go_wp2
        go_loopw [18] (fun i wr => ∃ m : Nat, m ≤ x.length ∧ i = .int .i64 m ∧ (∀ y ∈ x.take m, y.s.size ≤ 40) ∧ Below w3.heap.size w3 wr) (fun i _ => x.length - (intOf i).toNat)
        case atStart => exact ⟨0, Nat.zero_le _, rfl, fun c hc => by simp at hc, Below.refl _ _⟩
        case round =>
          obtain ⟨m, hm, rfl, hM, hB3⟩ := hrel
          have HM := Lib.hid hM; clear hM
          by_cases hlt2 : m < x.length
          · obtain ⟨a2, c5, hv2, q0, q1, q2, q3⟩ := RdV.at (hu0.below hB3) hlt2
            injection hv2 with hA _ hcc
            subst hA
            subst hcc
            have hs2 : x.take (m + 1) = x.take m ++ [x[m]] := List.take_succ_eq_append_getElem hlt2
            obtain ⟨y, hy⟩ : ∃ y, y = x[m] := ⟨_, rfl⟩
            rw [← hy] at q0 q1 q2 q3 hs2
            have S2 := Lib.hid hs2
            clear hy hs2
            have dm : decide ((m : Int) < x.length) = true := decide_eq_true (by omega)
            by_cases hb : 40 < y.s.size
            · have d : decide ((40 : Int) < y.s.size) = true := decide_eq_true (by omega)
              clear hb
              go_wp2
              exact HR.out _ _ ⟨⟨false, rfl, fun h => by cases h⟩, hB.trans ((hB3.alloc hB3.size _).mono hB.size)⟩
            · have d : decide ((40 : Int) < y.s.size) = false := decide_eq_false (by omega)
              have hn2 : ∀ c ∈ x.take (m + 1), c.s.size ≤ 40 := fun c hc => by
                rw [S2.out] at hc
                rcases List.mem_append.1 hc with h | h
                · exact HM.out c h
                · rw [List.mem_singleton.1 h]; omega
              have N2 := Lib.hid hn2
              clear hb hn2
              go_wp2
              exact ⟨⟨m + 1, by omega, by go_num, N2.out, hB3.alloc hB3.size _⟩, by simp [intOf]; omega⟩
          · obtain rfl : m = x.length := by omega
            have hn := HM.out
            rw [List.take_length] at hn
            have hn2 : ∀ r ∈ t.take (k + 1), r.length ≤ 12 ∧ ∀ x ∈ r, x.s.size ≤ 40 := fun r hr => by
              rw [S1.out] at hr
              rcases List.mem_append.1 hr with h | h
              · exact HN.out r h
              · rw [List.mem_singleton.1 h]; exact ⟨by omega, hn⟩
            have N2 := Lib.hid hn2
            clear hn hn2 hlt2
            go_wp2
            exact ⟨⟨k + 1, by omega, by go_num, N2.out, hB.trans (hB3.mono hB.size)⟩, by simp [intOf]; omega⟩
    · obtain rfl : k = t.length := by omega
      have hn := HN.out
      rw [List.take_length] at hn
      have N2 := Lib.hid hn
      clear hn hlt
      by_cases h12 : t.length ≤ 12
      · have d : decide ((t.length : Int) ≤ 12) = true := decide_eq_true (by omega)
        have H12 := Lib.hid h12
        clear h12
        go_wp2
        exact HR.out _ _ ⟨⟨true, rfl, fun _ => ⟨H12.out, N2.out⟩⟩, hB⟩
      · have d : decide ((t.length : Int) ≤ 12) = false := decide_eq_false (by omega)
        clear h12
        go_wp2
        exact HR.out _ _ ⟨⟨false, rfl, fun h => by cases h⟩, hB⟩
end Go.Proofs.YtgiemhooeoakmaaDoor

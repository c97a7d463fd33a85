/- The closures of diff, handed to slices. -/
import Derived.Test.YtgiemhooeoakmaaDoorVal
import Derived.Test.YtgiemhooeoakmaaDoorGen
import Derived.Test.YtgiemhooeoakmaaDoorInts
namespace Go.Proofs.YtgiemhooeoakmaaDoor
open Go.RowKit Go.ChangeShapes Go.WideShapes
set_option linter.unusedVariables false
set_option linter.unusedSimpArgs false

set_option maxHeartbeats 1000000 in
theorem idxNull_any (v c0_ : Value) (l : List Int) (pr : Int → Bool) (w : World) (h : RdI w w.heap.size v l)
    (hp : ∀ x ∈ l, ∀ wk, Below w.heap.size w wk → Calls Tryd.prog 61 #[.int .i64 x, c0_] wk fun e w' => e = .returned (.bool (pr x)) ∧ Below wk.heap.size wk w') :
    Calls Tryd.prog 99 #[v, .func (.func 61) #[] #[c0_]] w fun e w' => e = .returned (.int .i64 (idxP pr 0 l)) ∧ Below w.heap.size w w' := by
  refine cps fun R HR => ?_
  have h0 := h
  obtain ⟨A, c, rfl, -⟩ := h.is
  have hfew := h0.few
  have HP := Lib.hid hp
  clear h hp
  go_enter Tryd.func99, Tryd.ntmps99
  go_wp2
  go_loopw [8] (fun i wr => ∃ k : Nat, k ≤ l.length ∧ i = .int .i64 k ∧ idxP pr k (l.drop k) = idxP pr 0 l ∧ Below w.heap.size w wr) (fun i _ => l.length - (intOf i).toNat)
  case atStart => exact ⟨0, Nat.zero_le _, rfl, rfl, Below.refl _ _⟩
  case round =>
    obtain ⟨k, hk, rfl, hN, hB⟩ := hrel
    have HN := Lib.hid hN; clear hN
    by_cases hlt : k < l.length
    · obtain ⟨p, c3, hv, q0⟩ := (h0.below hB).at hlt
      injection hv with hA _ hcc
      subst hA
      subst hcc
      have hd : l.drop k = l[k] :: l.drop (k + 1) := List.drop_eq_getElem_cons hlt
      have hm : l[k] ∈ l := List.getElem_mem hlt
      obtain ⟨x, hx⟩ : ∃ x, x = l[k] := ⟨_, rfl⟩
      rw [← hx] at q0 hd hm
      have HD := Lib.hid hd; have HM := Lib.hid hm
      clear hx hd hm
      have dk : decide ((k : Int) < l.length) = true := decide_eq_true (by omega)
      go_wp2_with fail
      refine (HP.out x HM.out _ hB).mono ?_
      rintro e w1 ⟨rfl, b1⟩
      have hB1 := hB.trans (b1.mono hB.size)
      obtain ⟨kb, hkb2⟩ : ∃ kb, kb = pr x := ⟨_, rfl⟩
      rw [← hkb2]
      have HKB := Lib.hid hkb2
      clear hkb2
      cases kb
      · have HV := Lib.hid (show idxP pr (k + 1) (l.drop (k + 1)) = idxP pr 0 l by rw [← HN.out, HD.out, idxP, ← HKB.out, if_neg (by simp)])
        go_wp2
        exact ⟨⟨k + 1, by omega, by go_num, HV.out, hB1⟩, by simp [intOf]; omega⟩
      · have HV := Lib.hid (show idxP pr 0 l = k by rw [← HN.out, HD.out, idxP, ← HKB.out, if_pos rfl])
        go_wp2
        exact HR.out _ _ ⟨by rw [HV.out]; try rfl, hB1⟩
    · have hd : l.drop k = [] := List.drop_of_length_le (by omega)
      have HV := Lib.hid (show idxP pr 0 l = -1 by rw [← HN.out, hd, idxP])
      clear hd
      go_wp2
      exact HR.out _ _ ⟨by rw [HV.out]; try rfl, hB⟩
theorem anyNull_any (v c0_ : Value) (l : List Int) (pr : Int → Bool) (w : World) (h : RdI w w.heap.size v l)
    (hp : ∀ x ∈ l, ∀ wk, Below w.heap.size w wk → Calls Tryd.prog 61 #[.int .i64 x, c0_] wk fun e w' => e = .returned (.bool (pr x)) ∧ Below wk.heap.size wk w') :
    Calls Tryd.prog 60 #[v, .func (.func 61) #[] #[c0_]] w fun e w' => e = .returned (.bool (l.any pr)) ∧ Below w.heap.size w w' := by
  refine cps fun R HR => ?_
  rw [← idxP_any pr l 0] at HR
  obtain ⟨n, hn⟩ : ∃ n, n = idxP pr 0 l := ⟨_, rfl⟩
  rw [← hn] at HR
  have HN := Lib.hid hn; have HP := Lib.hid hp
  clear hn hp
  go_enter Tryd.func60, Tryd.ntmps60
  go_wp2_with fail
  refine (idxNull_any v c0_ l pr _ h HP.out).mono ?_
  rintro e w1 ⟨rfl, b1⟩
  rw [← HN.out]
  go_wp2
  exact HR.out _ _ ⟨rfl, b1⟩
set_option maxHeartbeats 1000000 in
theorem idxUn_any (v c0_ c1_ : Value) (l : List Int) (pr : Int → Bool) (w : World) (h : RdI w w.heap.size v l)
    (hp : ∀ x ∈ l, ∀ wk, Below w.heap.size w wk → Calls Tryd.prog 102 #[.int .i64 x, c0_, c1_] wk fun e w' => e = .returned (.bool (pr x)) ∧ Below wk.heap.size wk w') :
    Calls Tryd.prog 99 #[v, .func (.func 102) #[] #[c0_, c1_]] w fun e w' => e = .returned (.int .i64 (idxP pr 0 l)) ∧ Below w.heap.size w w' := by
  refine cps fun R HR => ?_
  have h0 := h
  obtain ⟨A, c, rfl, -⟩ := h.is
  have hfew := h0.few
  have HP := Lib.hid hp
  clear h hp
  go_enter Tryd.func99, Tryd.ntmps99
  go_wp2
  go_loopw [8] (fun i wr => ∃ k : Nat, k ≤ l.length ∧ i = .int .i64 k ∧ idxP pr k (l.drop k) = idxP pr 0 l ∧ Below w.heap.size w wr) (fun i _ => l.length - (intOf i).toNat)
  case atStart => exact ⟨0, Nat.zero_le _, rfl, rfl, Below.refl _ _⟩
  case round =>
    obtain ⟨k, hk, rfl, hN, hB⟩ := hrel
    have HN := Lib.hid hN; clear hN
    by_cases hlt : k < l.length
    · obtain ⟨p, c3, hv, q0⟩ := (h0.below hB).at hlt
      injection hv with hA _ hcc
      subst hA
      subst hcc
      have hd : l.drop k = l[k] :: l.drop (k + 1) := List.drop_eq_getElem_cons hlt
      have hm : l[k] ∈ l := List.getElem_mem hlt
      obtain ⟨x, hx⟩ : ∃ x, x = l[k] := ⟨_, rfl⟩
      rw [← hx] at q0 hd hm
      have HD := Lib.hid hd; have HM := Lib.hid hm
      clear hx hd hm
      have dk : decide ((k : Int) < l.length) = true := decide_eq_true (by omega)
      go_wp2_with fail
      refine (HP.out x HM.out _ hB).mono ?_
      rintro e w1 ⟨rfl, b1⟩
      have hB1 := hB.trans (b1.mono hB.size)
      obtain ⟨kb, hkb2⟩ : ∃ kb, kb = pr x := ⟨_, rfl⟩
      rw [← hkb2]
      have HKB := Lib.hid hkb2
      clear hkb2
      cases kb
      · have HV := Lib.hid (show idxP pr (k + 1) (l.drop (k + 1)) = idxP pr 0 l by rw [← HN.out, HD.out, idxP, ← HKB.out, if_neg (by simp)])
        go_wp2
        exact ⟨⟨k + 1, by omega, by go_num, HV.out, hB1⟩, by simp [intOf]; omega⟩
      · have HV := Lib.hid (show idxP pr 0 l = k by rw [← HN.out, HD.out, idxP, ← HKB.out, if_pos rfl])
        go_wp2
        exact HR.out _ _ ⟨by rw [HV.out]; try rfl, hB1⟩
    · have hd : l.drop k = [] := List.drop_of_length_le (by omega)
      have HV := Lib.hid (show idxP pr 0 l = -1 by rw [← HN.out, hd, idxP])
      clear hd
      go_wp2
      exact HR.out _ _ ⟨by rw [HV.out]; try rfl, hB⟩
theorem anyUn_any (v c0_ c1_ : Value) (l : List Int) (pr : Int → Bool) (w : World) (h : RdI w w.heap.size v l)
    (hp : ∀ x ∈ l, ∀ wk, Below w.heap.size w wk → Calls Tryd.prog 102 #[.int .i64 x, c0_, c1_] wk fun e w' => e = .returned (.bool (pr x)) ∧ Below wk.heap.size wk w') :
    Calls Tryd.prog 60 #[v, .func (.func 102) #[] #[c0_, c1_]] w fun e w' => e = .returned (.bool (l.any pr)) ∧ Below w.heap.size w w' := by
  refine cps fun R HR => ?_
  rw [← idxP_any pr l 0] at HR
  obtain ⟨n, hn⟩ : ∃ n, n = idxP pr 0 l := ⟨_, rfl⟩
  rw [← hn] at HR
  have HN := Lib.hid hn; have HP := Lib.hid hp
  clear hn hp
  go_enter Tryd.func60, Tryd.ntmps60
  go_wp2_with fail
  refine (idxUn_any v c0_ c1_ l pr _ h HP.out).mono ?_
  rintro e w1 ⟨rfl, b1⟩
  rw [← HN.out]
  go_wp2
  exact HR.out _ _ ⟨rfl, b1⟩
set_option maxHeartbeats 1000000 in
theorem idxRow_any (v c0_ c1_ : Value) (l : List VRow) (pr : VRow → Bool) (w : World) (h : RdVT w w.heap.size v l)
    (hp : ∀ x ∈ l, ∀ wk u, Below w.heap.size w wk → RdV wk wk.heap.size u x → Calls Tryd.prog 101 #[u, c0_, c1_] wk fun e w' => e = .returned (.bool (pr x)) ∧ Below wk.heap.size wk w') :
    Calls Tryd.prog 100 #[v, .func (.func 101) #[] #[c0_, c1_]] w fun e w' => e = .returned (.int .i64 (idxP pr 0 l)) ∧ Below w.heap.size w w' := by
  refine cps fun R HR => ?_
  have h0 := h
  obtain ⟨A, c, vs, rfl, -, -⟩ := h.is
  have hfew := h0.few
  have HP := Lib.hid hp
  clear h hp
  go_enter Tryd.func100, Tryd.ntmps100
  go_wp2
  go_loopw [8] (fun i wr => ∃ k : Nat, k ≤ l.length ∧ i = .int .i64 k ∧ idxP pr k (l.drop k) = idxP pr 0 l ∧ Below w.heap.size w wr) (fun i _ => l.length - (intOf i).toNat)
  case atStart => exact ⟨0, Nat.zero_le _, rfl, rfl, Below.refl _ _⟩
  case round =>
    obtain ⟨k, hk, rfl, hN, hB⟩ := hrel
    have HN := Lib.hid hN; clear hN
    by_cases hlt : k < l.length
    · obtain ⟨p, c3, u, hv, q0, q1⟩ := (RdE.next (RdF.stays valV 4) h0 hB).at hlt
      injection hv with hA _ hcc
      subst hA
      subst hcc
      have hd : l.drop k = l[k] :: l.drop (k + 1) := List.drop_eq_getElem_cons hlt
      have hm : l[k] ∈ l := List.getElem_mem hlt
      obtain ⟨x, hx⟩ : ∃ x, x = l[k] := ⟨_, rfl⟩
      rw [← hx] at q1 hd hm
      have HD := Lib.hid hd; have HM := Lib.hid hm
      clear hx hd hm
      have dk : decide ((k : Int) < l.length) = true := decide_eq_true (by omega)
      go_wp2_with fail
      refine (HP.out x HM.out _ _ hB q1).mono ?_
      rintro e w1 ⟨rfl, b1⟩
      have hB1 := hB.trans (b1.mono hB.size)
      obtain ⟨kb, hkb2⟩ : ∃ kb, kb = pr x := ⟨_, rfl⟩
      rw [← hkb2]
      have HKB := Lib.hid hkb2
      clear hkb2
      cases kb
      · have HV := Lib.hid (show idxP pr (k + 1) (l.drop (k + 1)) = idxP pr 0 l by rw [← HN.out, HD.out, idxP, ← HKB.out, if_neg (by simp)])
        go_wp2
        exact ⟨⟨k + 1, by omega, by go_num, HV.out, hB1⟩, by simp [intOf]; omega⟩
      · have HV := Lib.hid (show idxP pr 0 l = k by rw [← HN.out, HD.out, idxP, ← HKB.out, if_pos rfl])
        go_wp2
        exact HR.out _ _ ⟨by rw [HV.out]; try rfl, hB1⟩
    · have hd : l.drop k = [] := List.drop_of_length_le (by omega)
      have HV := Lib.hid (show idxP pr 0 l = -1 by rw [← HN.out, hd, idxP])
      clear hd
      go_wp2
      exact HR.out _ _ ⟨by rw [HV.out]; try rfl, hB⟩
end Go.Proofs.YtgiemhooeoakmaaDoor

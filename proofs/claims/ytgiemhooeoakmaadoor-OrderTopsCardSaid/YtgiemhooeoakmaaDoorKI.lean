/- Layer 23: pairs; the closures handed to slices. Layer 23: matches' closure, matches, wide, fits, pair, others. Layer 23: pair, others. Layer 23: join.Check. Layer 23: columns, Columns. -/
import Derived.Test.YtgiemhooeoakmaaDoorKA
import Derived.Test.YtgiemhooeoakmaaDoorKF
import Derived.Test.YtgiemhooeoakmaaDoorKC
import Derived.Test.YtgiemhooeoakmaaDoorKD
import Derived.Test.YtgiemhooeoakmaaDoorKG
import Derived.Test.YtgiemhooeoakmaaDoorKH
namespace Go.Proofs.YtgiemhooeoakmaaDoor
open Go.RowKit Go.ChangeShapes Go.WideShapes
set_option linter.unusedVariables false
set_option linter.unusedSimpArgs false

structure OnP where
  left : ByteArray
  right : ByteArray
def onV (o : OnP) : List Value := [.string o.left, .string o.right]
theorem onV_len (o : OnP) : (onV o).length = 2 := rfl
theorem OnP.ext_iff' {a b : OnP} : a = b ↔ a.left = b.left ∧ a.right = b.right := by
  cases a; cases b; simp
instance decOn : DecidableEq OnP := fun a b => decidable_of_iff _ OnP.ext_iff'.symm
abbrev RdOn (w : World) (B : Nat) (v : Value) (l : List OnP) : Prop := RdF onV 2 w B v l
theorem RdOn.at {w : World} {B : Nat} {v : Value} {l : List OnP} (h : RdOn w B v l) {k : Nat} (hk : k < l.length) : ∃ a c, v = .slice (some a) l.length c ∧ w.cell? (a.add (k * 2)) = some (.string l[k].left) ∧
    w.cell? ⟨(a.add (k * 2)).block, (a.add (k * 2)).off + 1, none⟩ = some (.string l[k].right) := by
  obtain ⟨a, c, rfl, h0⟩ := RdF.at0 h onV_len (by omega) hk
  exact ⟨a, c, rfl, h0 _ rfl, RdF.atj h onV_len hk 0 rfl⟩
def prV (p : Int × Int) : List Value := [.int .i64 p.1, .int .i64 p.2]
theorem prV_len (p : Int × Int) : (prV p).length = 2 := rfl
abbrev RdPr (w : World) (B : Nat) (v : Value) (l : List (Int × Int)) : Prop := RdF prV 2 w B v l
theorem RdPr.at {w : World} {B : Nat} {v : Value} {l : List (Int × Int)} (h : RdPr w B v l) {k : Nat} (hk : k < l.length) : ∃ a c, v = .slice (some a) l.length c ∧ w.cell? (a.add (k * 2)) = some (.int .i64 l[k].1) ∧
    w.cell? ⟨(a.add (k * 2)).block, (a.add (k * 2)).off + 1, none⟩ = some (.int .i64 l[k].2) := by
  obtain ⟨a, c, rfl, h0⟩ := RdF.at0 h prV_len (by omega) hk
  exact ⟨a, c, rfl, h0 _ rfl, RdF.atj h prV_len hk 0 rfl⟩
theorem on_one (o : OnP) : ∀ u ∈ onV o, u.oneCell' = true := by
  intro u hu
  simp [onV] at hu
  rcases hu with rfl | rfl <;> rfl
set_option maxHeartbeats 1000000 in
theorem idxPr_any (v c0_ : Value) (l : List OnP) (pr : OnP → Bool) (w : World) (h : RdOn w w.heap.size v l)
    (hp : ∀ x ∈ l, ∀ wk, Below w.heap.size w wk → Calls Tryd.prog 115 #[.agg #[.string x.left, .string x.right], c0_] wk fun e w' => e = .returned (.bool (pr x)) ∧ Below wk.heap.size wk w') :
    Calls Tryd.prog 134 #[v, .func (.func 115) #[] #[c0_]] w fun e w' => e = .returned (.int .i64 (idxP pr 0 l)) ∧ Below w.heap.size w w' := by
  refine cps fun R HR => ?_
  have h0 := h
  obtain ⟨A, c, rfl, -⟩ := h.is
  have hfew := RdF.few h0
  have HP := Lib.hid hp
  clear h hp
  go_enter Tryd.func134, Tryd.ntmps134
  go_wp2
  go_loopw [8] (fun i wr => ∃ k : Nat, k ≤ l.length ∧ i = .int .i64 k ∧ idxP pr k (l.drop k) = idxP pr 0 l ∧ Below w.heap.size w wr) (fun i _ => l.length - (intOf i).toNat)
  case atStart => exact ⟨0, Nat.zero_le _, rfl, rfl, Below.refl _ _⟩
  case round =>
    obtain ⟨k, hk, rfl, hN, hB⟩ := hrel
    have HN := Lib.hid hN; clear hN
    by_cases hlt : k < l.length
    · obtain ⟨p, c3, hv, q0, q1⟩ := RdOn.at (h0.below hB) hlt
      injection hv with hA _ hcc
      subst hA
      subst hcc
      have hd : l.drop k = l[k] :: l.drop (k + 1) := List.drop_eq_getElem_cons hlt
      have hm : l[k] ∈ l := List.getElem_mem hlt
      obtain ⟨x, hx⟩ : ∃ x, x = l[k] := ⟨_, rfl⟩
      rw [← hx] at q0 q1 hd hm
      have HD := Lib.hid hd; have HM := Lib.hid hm
      clear hx hd hm
      have dk : decide ((k : Int) < l.length) = true := decide_eq_true (by omega)
      go_wp2_with fail
      refine (HP.out x HM.out _ hB).mono ?_
      rintro e w1 ⟨rfl, b1⟩
      have hB1 := hB.trans (b1.mono hB.size)
      obtain ⟨kb, hkb2⟩ : ∃ kb, kb = pr x := ⟨_, rfl⟩
      rw [← hkb2]
      have HKB := Lib.hid hkb2
      clear hkb2
      cases kb
      · have HV := Lib.hid (show idxP pr (k + 1) (l.drop (k + 1)) = idxP pr 0 l by rw [← HN.out, HD.out, idxP, ← HKB.out, if_neg (by simp)])
        go_wp2
        exact ⟨⟨k + 1, by omega, by go_num, HV.out, hB1⟩, by simp [intOf]; omega⟩
      · have HV := Lib.hid (show idxP pr 0 l = k by rw [← HN.out, HD.out, idxP, ← HKB.out, if_pos rfl])
        go_wp2
        exact HR.out _ _ ⟨by rw [HV.out]; try rfl, hB1⟩
    · have hd : l.drop k = [] := List.drop_of_length_le (by omega)
      have HV := Lib.hid (show idxP pr 0 l = -1 by rw [← HN.out, hd, idxP])
      clear hd
      go_wp2
      exact HR.out _ _ ⟨by rw [HV.out]; try rfl, hB⟩
theorem anyPr_any (v c0_ : Value) (l : List OnP) (pr : OnP → Bool) (w : World) (h : RdOn w w.heap.size v l)
    (hp : ∀ x ∈ l, ∀ wk, Below w.heap.size w wk → Calls Tryd.prog 115 #[.agg #[.string x.left, .string x.right], c0_] wk fun e w' => e = .returned (.bool (pr x)) ∧ Below wk.heap.size wk w') :
    Calls Tryd.prog 114 #[v, .func (.func 115) #[] #[c0_]] w fun e w' => e = .returned (.bool (l.any pr)) ∧ Below w.heap.size w w' := by
  refine cps fun R HR => ?_
  rw [← idxP_any pr l 0] at HR
  obtain ⟨n, hn⟩ : ∃ n, n = idxP pr 0 l := ⟨_, rfl⟩
  rw [← hn] at HR
  have HN := Lib.hid hn; have HP := Lib.hid hp
  clear hn hp
  go_enter Tryd.func114, Tryd.ntmps114
  go_wp2_with fail
  refine (idxPr_any v c0_ l pr _ h HP.out).mono ?_
  rintro e w1 ⟨rfl, b1⟩
  rw [← HN.out]
  go_wp2
  exact HR.out _ _ ⟨rfl, b1⟩
set_option maxHeartbeats 1000000 in
theorem idxOt_any (v c0_ : Value) (l : List OnP) (pr : OnP → Bool) (w : World) (h : RdOn w w.heap.size v l)
    (hp : ∀ x ∈ l, ∀ wk, Below w.heap.size w wk → Calls Tryd.prog 116 #[.agg #[.string x.left, .string x.right], c0_] wk fun e w' => e = .returned (.bool (pr x)) ∧ Below wk.heap.size wk w') :
    Calls Tryd.prog 134 #[v, .func (.func 116) #[] #[c0_]] w fun e w' => e = .returned (.int .i64 (idxP pr 0 l)) ∧ Below w.heap.size w w' := by
  refine cps fun R HR => ?_
  have h0 := h
  obtain ⟨A, c, rfl, -⟩ := h.is
  have hfew := RdF.few h0
  have HP := Lib.hid hp
  clear h hp
  go_enter Tryd.func134, Tryd.ntmps134
  go_wp2
  go_loopw [8] (fun i wr => ∃ k : Nat, k ≤ l.length ∧ i = .int .i64 k ∧ idxP pr k (l.drop k) = idxP pr 0 l ∧ Below w.heap.size w wr) (fun i _ => l.length - (intOf i).toNat)
  case atStart => exact ⟨0, Nat.zero_le _, rfl, rfl, Below.refl _ _⟩
  case round =>
    obtain ⟨k, hk, rfl, hN, hB⟩ := hrel
    have HN := Lib.hid hN; clear hN
    by_cases hlt : k < l.length
    · obtain ⟨p, c3, hv, q0, q1⟩ := RdOn.at (h0.below hB) hlt
      injection hv with hA _ hcc
      subst hA
      subst hcc
      have hd : l.drop k = l[k] :: l.drop (k + 1) := List.drop_eq_getElem_cons hlt
      have hm : l[k] ∈ l := List.getElem_mem hlt
      obtain ⟨x, hx⟩ : ∃ x, x = l[k] := ⟨_, rfl⟩
      rw [← hx] at q0 q1 hd hm
      have HD := Lib.hid hd; have HM := Lib.hid hm
      clear hx hd hm
      have dk : decide ((k : Int) < l.length) = true := decide_eq_true (by omega)
      go_wp2_with fail
      refine (HP.out x HM.out _ hB).mono ?_
      rintro e w1 ⟨rfl, b1⟩
      have hB1 := hB.trans (b1.mono hB.size)
      obtain ⟨kb, hkb2⟩ : ∃ kb, kb = pr x := ⟨_, rfl⟩
      rw [← hkb2]
      have HKB := Lib.hid hkb2
      clear hkb2
      cases kb
      · have HV := Lib.hid (show idxP pr (k + 1) (l.drop (k + 1)) = idxP pr 0 l by rw [← HN.out, HD.out, idxP, ← HKB.out, if_neg (by simp)])
        go_wp2
        exact ⟨⟨k + 1, by omega, by go_num, HV.out, hB1⟩, by simp [intOf]; omega⟩
      · have HV := Lib.hid (show idxP pr 0 l = k by rw [← HN.out, HD.out, idxP, ← HKB.out, if_pos rfl])
        go_wp2
        exact HR.out _ _ ⟨by rw [HV.out]; try rfl, hB1⟩
    · have hd : l.drop k = [] := List.drop_of_length_le (by omega)
      have HV := Lib.hid (show idxP pr 0 l = -1 by rw [← HN.out, hd, idxP])
      clear hd
      go_wp2
      exact HR.out _ _ ⟨by rw [HV.out]; try rfl, hB⟩
theorem anyOt_any (v c0_ : Value) (l : List OnP) (pr : OnP → Bool) (w : World) (h : RdOn w w.heap.size v l)
    (hp : ∀ x ∈ l, ∀ wk, Below w.heap.size w wk → Calls Tryd.prog 116 #[.agg #[.string x.left, .string x.right], c0_] wk fun e w' => e = .returned (.bool (pr x)) ∧ Below wk.heap.size wk w') :
    Calls Tryd.prog 114 #[v, .func (.func 116) #[] #[c0_]] w fun e w' => e = .returned (.bool (l.any pr)) ∧ Below w.heap.size w w' := by
  refine cps fun R HR => ?_
  rw [← idxP_any pr l 0] at HR
  obtain ⟨n, hn⟩ : ∃ n, n = idxP pr 0 l := ⟨_, rfl⟩
  rw [← hn] at HR
  have HN := Lib.hid hn; have HP := Lib.hid hp
  clear hn hp
  go_enter Tryd.func114, Tryd.ntmps114
  go_wp2_with fail
  refine (idxOt_any v c0_ l pr _ h HP.out).mono ?_
  rintro e w1 ⟨rfl, b1⟩
  rw [← HN.out]
  go_wp2
  exact HR.out _ _ ⟨rfl, b1⟩
set_option maxHeartbeats 1000000 in
theorem idxFt_any (v c0_ : Value) (l : List VRow) (pr : VRow → Bool) (w : World) (h : RdVT w w.heap.size v l)
    (hp : ∀ x ∈ l, ∀ wk u, Below w.heap.size w wk → RdV wk wk.heap.size u x → Calls Tryd.prog 106 #[u, c0_] wk fun e w' => e = .returned (.bool (pr x)) ∧ Below wk.heap.size wk w') :
    Calls Tryd.prog 100 #[v, .func (.func 106) #[] #[c0_]] w fun e w' => e = .returned (.int .i64 (idxP pr 0 l)) ∧ Below w.heap.size w w' := by
  refine cps fun R HR => ?_
  have h0 := h
  obtain ⟨A, c, vs, rfl, -, -⟩ := h.is
  have hfew := h0.few
  have HP := Lib.hid hp
  clear h hp
  go_enter Tryd.func100, Tryd.ntmps100
  go_wp2
  go_loopw [8] (fun i wr => ∃ k : Nat, k ≤ l.length ∧ i = .int .i64 k ∧ idxP pr k (l.drop k) = idxP pr 0 l ∧ Below w.heap.size w wr) (fun i _ => l.length - (intOf i).toNat)
  case atStart => exact ⟨0, Nat.zero_le _, rfl, rfl, Below.refl _ _⟩
  case round =>
    obtain ⟨k, hk, rfl, hN, hB⟩ := hrel
    have HN := Lib.hid hN; clear hN
    by_cases hlt : k < l.length
    · obtain ⟨p, c3, u, hv, q0, q1⟩ := (RdE.next (RdF.stays valV 4) h0 hB).at hlt
      injection hv with hA _ hcc
      subst hA
      subst hcc
      have hd : l.drop k = l[k] :: l.drop (k + 1) := List.drop_eq_getElem_cons hlt
      have hm : l[k] ∈ l := List.getElem_mem hlt
      obtain ⟨x, hx⟩ : ∃ x, x = l[k] := ⟨_, rfl⟩
      rw [← hx] at q1 hd hm
      have HD := Lib.hid hd; have HM := Lib.hid hm
      clear hx hd hm
      have dk : decide ((k : Int) < l.length) = true := decide_eq_true (by omega)
      go_wp2_with fail
      refine (HP.out x HM.out _ _ hB q1).mono ?_
      rintro e w1 ⟨rfl, b1⟩
      have hB1 := hB.trans (b1.mono hB.size)
      obtain ⟨kb, hkb2⟩ : ∃ kb, kb = pr x := ⟨_, rfl⟩
      rw [← hkb2]
      have HKB := Lib.hid hkb2
      clear hkb2
      cases kb
      · have HV := Lib.hid (show idxP pr (k + 1) (l.drop (k + 1)) = idxP pr 0 l by rw [← HN.out, HD.out, idxP, ← HKB.out, if_neg (by simp)])
        go_wp2
        exact ⟨⟨k + 1, by omega, by go_num, HV.out, hB1⟩, by simp [intOf]; omega⟩
      · have HV := Lib.hid (show idxP pr 0 l = k by rw [← HN.out, HD.out, idxP, ← HKB.out, if_pos rfl])
        go_wp2
        exact HR.out _ _ ⟨by rw [HV.out]; try rfl, hB1⟩
    · have hd : l.drop k = [] := List.drop_of_length_le (by omega)
      have HV := Lib.hid (show idxP pr 0 l = -1 by rw [← HN.out, hd, idxP])
      clear hd
      go_wp2
      exact HR.out _ _ ⟨by rw [HV.out]; try rfl, hB⟩
theorem anyFt_any (v c0_ : Value) (l : List VRow) (pr : VRow → Bool) (w : World) (h : RdVT w w.heap.size v l)
    (hp : ∀ x ∈ l, ∀ wk u, Below w.heap.size w wk → RdV wk wk.heap.size u x → Calls Tryd.prog 106 #[u, c0_] wk fun e w' => e = .returned (.bool (pr x)) ∧ Below wk.heap.size wk w') :
    Calls Tryd.prog 94 #[v, .func (.func 106) #[] #[c0_]] w fun e w' => e = .returned (.bool (l.any pr)) ∧ Below w.heap.size w w' := by
  refine cps fun R HR => ?_
  rw [← idxP_any pr l 0] at HR
  obtain ⟨n, hn⟩ : ∃ n, n = idxP pr 0 l := ⟨_, rfl⟩
  rw [← hn] at HR
  have HN := Lib.hid hn; have HP := Lib.hid hp
  clear hn hp
  go_enter Tryd.func94, Tryd.ntmps94
  go_wp2_with fail
  refine (idxFt_any v c0_ l pr _ h HP.out).mono ?_
  rintro e w1 ⟨rfl, b1⟩
  rw [← HN.out]
  go_wp2
  exact HR.out _ _ ⟨rfl, b1⟩
set_option maxHeartbeats 1000000 in
theorem idxMt_any (v c0_ c1_ : Value) (l : List (Int × Int)) (pr : (Int × Int) → Bool) (w : World) (h : RdPr w w.heap.size v l)
    (hp : ∀ x ∈ l, ∀ wk, Below w.heap.size w wk → Calls Tryd.prog 131 #[.agg #[.int .i64 x.1, .int .i64 x.2], c0_, c1_] wk fun e w' => e = .returned (.bool (pr x)) ∧ Below wk.heap.size wk w') :
    Calls Tryd.prog 141 #[v, .func (.func 131) #[] #[c0_, c1_]] w fun e w' => e = .returned (.int .i64 (idxP pr 0 l)) ∧ Below w.heap.size w w' := by
  refine cps fun R HR => ?_
  have h0 := h
  obtain ⟨A, c, rfl, -⟩ := h.is
  have hfew := RdF.few h0
  have HP := Lib.hid hp
  clear h hp
  go_enter Tryd.func141, Tryd.ntmps141
  go_wp2
  go_loopw [8] (fun i wr => ∃ k : Nat, k ≤ l.length ∧ i = .int .i64 k ∧ idxP pr k (l.drop k) = idxP pr 0 l ∧ Below w.heap.size w wr) (fun i _ => l.length - (intOf i).toNat)
  case atStart => exact ⟨0, Nat.zero_le _, rfl, rfl, Below.refl _ _⟩
  case round =>
    obtain ⟨k, hk, rfl, hN, hB⟩ := hrel
    have HN := Lib.hid hN; clear hN
    by_cases hlt : k < l.length
    · obtain ⟨p, c3, hv, q0, q1⟩ := RdPr.at (h0.below hB) hlt
      injection hv with hA _ hcc
      subst hA
      subst hcc
      have hd : l.drop k = l[k] :: l.drop (k + 1) := List.drop_eq_getElem_cons hlt
      have hm : l[k] ∈ l := List.getElem_mem hlt
      obtain ⟨x, hx⟩ : ∃ x, x = l[k] := ⟨_, rfl⟩
      rw [← hx] at q0 q1 hd hm
      have HD := Lib.hid hd; have HM := Lib.hid hm
      clear hx hd hm
      have dk : decide ((k : Int) < l.length) = true := decide_eq_true (by omega)
      go_wp2_with fail
      refine (HP.out x HM.out _ hB).mono ?_
      rintro e w1 ⟨rfl, b1⟩
      have hB1 := hB.trans (b1.mono hB.size)
      obtain ⟨kb, hkb2⟩ : ∃ kb, kb = pr x := ⟨_, rfl⟩
      rw [← hkb2]
      have HKB := Lib.hid hkb2
      clear hkb2
      cases kb
      · have HV := Lib.hid (show idxP pr (k + 1) (l.drop (k + 1)) = idxP pr 0 l by rw [← HN.out, HD.out, idxP, ← HKB.out, if_neg (by simp)])
        go_wp2
        exact ⟨⟨k + 1, by omega, by go_num, HV.out, hB1⟩, by simp [intOf]; omega⟩
      · have HV := Lib.hid (show idxP pr 0 l = k by rw [← HN.out, HD.out, idxP, ← HKB.out, if_pos rfl])
        go_wp2
        exact HR.out _ _ ⟨by rw [HV.out]; try rfl, hB1⟩
    · have hd : l.drop k = [] := List.drop_of_length_le (by omega)
      have HV := Lib.hid (show idxP pr 0 l = -1 by rw [← HN.out, hd, idxP])
      clear hd
      go_wp2
      exact HR.out _ _ ⟨by rw [HV.out]; try rfl, hB⟩
theorem anyMt_any (v c0_ c1_ : Value) (l : List (Int × Int)) (pr : (Int × Int) → Bool) (w : World) (h : RdPr w w.heap.size v l)
    (hp : ∀ x ∈ l, ∀ wk, Below w.heap.size w wk → Calls Tryd.prog 131 #[.agg #[.int .i64 x.1, .int .i64 x.2], c0_, c1_] wk fun e w' => e = .returned (.bool (pr x)) ∧ Below wk.heap.size wk w') :
    Calls Tryd.prog 130 #[v, .func (.func 131) #[] #[c0_, c1_]] w fun e w' => e = .returned (.bool (l.any pr)) ∧ Below w.heap.size w w' := by
  refine cps fun R HR => ?_
  rw [← idxP_any pr l 0] at HR
  obtain ⟨n, hn⟩ : ∃ n, n = idxP pr 0 l := ⟨_, rfl⟩
  rw [← hn] at HR
  have HN := Lib.hid hn; have HP := Lib.hid hp
  clear hn hp
  go_enter Tryd.func130, Tryd.ntmps130
  go_wp2_with fail
  refine (idxMt_any v c0_ c1_ l pr _ h HP.out).mono ?_
  rintro e w1 ⟨rfl, b1⟩
  rw [← HN.out]
  go_wp2
  exact HR.out _ _ ⟨rfl, b1⟩
/-- Is a pair one of another one's columns? -/
def touch (o p : OnP) : Bool := decide (p.left = o.left) || decide (p.right = o.right)
theorem pair1_any (p o : OnP) (g : Nat) (w : World) (h0 : w.cell? ⟨g, 0, none⟩ = some (.string o.left)) (h1 : w.cell? ⟨g, 1, none⟩ = some (.string o.right)) :
    Calls Tryd.prog 115 #[.agg #[.string p.left, .string p.right], .pointer (some ⟨g, 0, none⟩)] w fun e w' => e = .returned (.bool (touch o p)) ∧ Below w.heap.size w w' := by
  refine cps fun R HR => ?_
  unfold touch at HR
  obtain ⟨pl, pr⟩ := p
  obtain ⟨ol, or⟩ := o
  dsimp only at h0 h1 HR
  have hg := World.block_lt_of_cell? w _ h0
  have bw := (Below.refl w.heap.size w).alloc (Nat.le_refl _) (.cells #[.string pl, .string pr] 125)
  have d1 : (pl.toList == ol.toList) = decide (pl = ol) := str_eq _ _
  have d2 : (pr.toList == or.toList) = decide (pr = or) := str_eq _ _
  obtain ⟨t1, ht1⟩ : ∃ t, t = decide (pl = ol) := ⟨_, rfl⟩
  obtain ⟨t2, ht2⟩ : ∃ t, t = decide (pr = or) := ⟨_, rfl⟩
  rw [← ht1] at d1 HR
  rw [← ht2] at d2 HR
  clear ht1 ht2
  go_enter Tryd.func115, Tryd.ntmps115
  cases t1
  · go_wp2
    exact HR.out _ _ ⟨rfl, bw⟩
  · go_wp2
    exact HR.out _ _ ⟨rfl, bw⟩
theorem others1_any (p : OnP) (s : ByteArray) (g : Nat) (w : World) (h0 : w.cell? ⟨g, 0, none⟩ = some (.string s)) :
    Calls Tryd.prog 116 #[.agg #[.string p.left, .string p.right], .pointer (some ⟨g, 0, none⟩)] w fun e w' => e = .returned (.bool (decide (p.right = s))) ∧ Below w.heap.size w w' := by
  refine cps fun R HR => ?_
  obtain ⟨pl, pr⟩ := p
  dsimp only at HR
  have hg := World.block_lt_of_cell? w _ h0
  have bw := (Below.refl w.heap.size w).alloc (Nat.le_refl _) (.cells #[.string pl, .string pr] 125)
  have d2 : (pr.toList == s.toList) = decide (pr = s) := str_eq _ _
  obtain ⟨t2, ht2⟩ : ∃ t, t = decide (pr = s) := ⟨_, rfl⟩
  rw [← ht2] at d2 HR
  clear ht2
  go_enter Tryd.func116, Tryd.ntmps116
  go_wp2
  exact HR.out _ _ ⟨rfl, bw⟩
theorem fits1_any (g : Nat) (A : Option Addr) (n c : Nat) (v : Value) (r : VRow) (w : World) (h0 : w.cell? ⟨g, 0, none⟩ = some (.slice A n c)) (hr : RdV w w.heap.size v r) :
    Calls Tryd.prog 106 #[v, .pointer (some ⟨g, 0, none⟩)] w fun e w' => e = .returned (.bool (!decide (r.length = n))) ∧ Below w.heap.size w w' := by
  refine cps fun R HR => ?_
  obtain ⟨A2, c2, rfl, -⟩ := hr.is
  have d : ((r.length : Int) != n) = !decide (r.length = n) := by rw [Bool.eq_iff_iff]; simp only [bne_iff_ne, Bool.not_eq_true', decide_eq_false_iff_not]; omega
  obtain ⟨t, ht⟩ : ∃ t, t = decide (r.length = n) := ⟨_, rfl⟩
  rw [← ht] at d HR
  clear ht
  go_enter Tryd.func106, Tryd.ntmps106
  go_wp2
  exact HR.out _ _ ⟨rfl, Below.refl _ _⟩
end Go.Proofs.YtgiemhooeoakmaaDoor

namespace Go.Proofs.YtgiemhooeoakmaaDoor
open Go.RowKit Go.ChangeShapes Go.WideShapes
set_option linter.unusedVariables false
set_option linter.unusedSimpArgs false

theorem hsz (w : World) (o : Obj) : (w.alloc o).heap.size = w.heap.size + 1 := by simp
/-- Do two rows not match at a pair of places? -/
def mis1 (x y : VRow) (p : Int × Int) : Bool := decide ((x.getD p.1.toNat val0).kind = 0) || !decide (x.getD p.1.toNat val0 = y.getD p.2.toNat val0)
def matchP (ps : List (Int × Int)) (x y : VRow) : Bool := !ps.any (mis1 x y)
set_option maxHeartbeats 2000000 in
set_option maxRecDepth 100000 in
theorem match1_any (gx gy : Nat) (vx vy : Value) (x y : VRow) (p : Int × Int) (w : World) (hx : w.cell? ⟨gx, 0, none⟩ = some vx) (hy : w.cell? ⟨gy, 0, none⟩ = some vy) (rx : RdV w w.heap.size vx x) (ry : RdV w w.heap.size vy y) (h0 : 0 ≤ p.1) (h1 : p.1 < x.length) (h2 : 0 ≤ p.2) (h3 : p.2 < y.length) :
    Calls Tryd.prog 131 #[.agg #[.int .i64 p.1, .int .i64 p.2], .pointer (some ⟨gx, 0, none⟩), .pointer (some ⟨gy, 0, none⟩)] w fun e w' => e = .returned (.bool (mis1 x y p)) ∧ Below w.heap.size w w' := by
  refine cps fun R HR => ?_
  obtain ⟨p1, p2⟩ := p
  dsimp only at h0 h1 h2 h3 ⊢
  obtain ⟨q, rfl⟩ := Int.eq_ofNat_of_zero_le h0
  obtain ⟨k, rfl⟩ := Int.eq_ofNat_of_zero_le h2
  have hq : q < x.length := by omega
  have hk : k < y.length := by omega
  have hu : mis1 x y ((q : Int), (k : Int)) = (decide (x[q].kind = 0) || !decide (x[q] = y[k])) := by unfold mis1; rw [Int.toNat_natCast, Int.toNat_natCast, getD_at hq, getD_at hk]
  rw [hu] at HR
  have hfx := RdF.few rx
  have hfy := RdF.few ry
  obtain ⟨w0, hw0⟩ : ∃ w0, w0 = w.alloc (.cells #[.int .i64 (q : Int), .int .i64 (k : Int)] 169) := ⟨_, rfl⟩
  have b0 : Below w.heap.size w w0 := by rw [hw0]; exact (Below.refl _ _).alloc (Nat.le_refl _) _
  have X := Box.new w 169 #[.int .i64 (q : Int), .int .i64 (k : Int)]
  rw [← hw0] at X
  have z0 := X.cell 0
  have z1 := X.cell 1
  simp at z0 z1
  have hx0 := (b0.cell (World.block_lt_of_cell? w _ hx)).trans hx
  have hy0 := (b0.cell (World.block_lt_of_cell? w _ hy)).trans hy
  obtain ⟨a, c, rfl, p0, p1, p2, p3⟩ := RdV.at (RdF.next rx b0) hq
  obtain ⟨a', c', rfl, q0, q1, q2, q3⟩ := RdV.at (RdF.next ry b0) hk
  obtain ⟨⟨xk, xs, xn, xb⟩, hxq⟩ : ∃ z, z = x[q] := ⟨_, rfl⟩
  obtain ⟨⟨yk, ys, yn, yb⟩, hyk⟩ : ∃ z, z = y[k] := ⟨_, rfl⟩
  rw [← hxq] at p0 p1 p2 p3
  rw [← hyk] at q0 q1 q2 q3
  rw [← hxq, ← hyk] at HR
  obtain ⟨cv, hcv⟩ : ∃ cv, cv = cmpV ⟨xk, xs, xn, xb⟩ ⟨yk, ys, yn, yb⟩ := ⟨_, rfl⟩
  have hz := cmpV_zero (a := ⟨xk, xs, xn, xb⟩) (b := ⟨yk, ys, yn, yb⟩)
  rw [← hcv] at hz
  have gS : ∀ dn os, Calls Tryd.prog 105 #[.agg #[.int .i64 xk, .string xs, .int .i64 xn, .bool xb], .agg #[.int .i64 yk, .string ys, .int .i64 yn, .bool yb]] (Go.Sort.grow (redrawn w0 dn) os) fun e w'' => e = .returned (.int .i64 cv) ∧ ∃ p : Regrown, w'' = Go.Sort.grow (redrawn w0 p.d) p.os := fun dn os => Calls.regrown_of (by
    rw [hcv]
    exact compare_any ⟨xk, xs, xn, xb⟩ ⟨yk, ys, yn, yb⟩ _)
  have k0 := cell_regrown hx0
  have k1 := cell_regrown hy0
  have k2 := cell_regrown z0
  have k3 := cell_regrown z1
  have e0 := cell_regrown p0
  have e1 := cell_regrown p1
  have e2 := cell_regrown p2
  have e3 := cell_regrown p3
  have f0 := cell_regrown q0
  have f1 := cell_regrown q1
  have f2 := cell_regrown q2
  have f3 := cell_regrown q3
  have i1 : (q : Int) < x.length := h1
  have i2 : (k : Int) < y.length := h3
  have dz : (cv != 0) = !decide ((⟨xk, xs, xn, xb⟩ : Val) = ⟨yk, ys, yn, yb⟩) := by rw [Bool.eq_iff_iff, bne_iff_ne, Bool.not_eq_true', decide_eq_false_iff_not]; exact not_congr hz
  obtain ⟨t, ht⟩ : ∃ t, t = decide ((⟨xk, xs, xn, xb⟩ : Val) = ⟨yk, ys, yn, yb⟩) := ⟨_, rfl⟩
  rw [← ht] at dz HR
  have HW0 := Lib.hid hw0; have HB0 := Lib.hid b0
  clear hxq hyk hu hx hy p0 p1 p2 p3 q0 q1 q2 q3 rx ry h1 h3 h0 h2 hcv hz ht hw0 b0 hx0 hy0 z0 z1 X
  dsimp only at HR
  go_enter Tryd.func131, Tryd.ntmps131
  by_cases hk0 : xk = 0
  · have dk : (xk == 0) = true := by rw [beq_iff_eq]; exact hk0
    rw [decide_eq_true hk0] at HR
    clear hk0
    go_wp2
    rw [← HW0.out]
    refine wp_region_quiet_below (by kernel_rfl) (by kernel_rfl) ?_
    repeat (go_big_quiet_step ((go_at_call 105; with_reducible exact gS _ _)))
    refine wpQuiet_nil ?_
    intro w9 hw9
    have bel : Below w0.heap.size w0 w9 := by obtain ⟨p, rfl⟩ := hw9; exact below_regrown _ p.d p.os
    clear hw9 gS k0 k1 k2 k3 e0 e1 e2 e3 f0 f1 f2 f3
    go_wp2
    exact HR.out _ _ ⟨rfl, HB0.out.trans (bel.mono HB0.out.size)⟩
  · have dk : (xk == 0) = false := by rw [beq_eq_false_iff_ne]; exact hk0
    rw [decide_eq_false hk0] at HR
    clear hk0
    go_wp2
    rw [← HW0.out]
    refine wp_region_quiet_below (by kernel_rfl) (by kernel_rfl) ?_
    repeat (go_big_quiet_step ((go_at_call 105; with_reducible exact gS _ _)))
    refine wpQuiet_nil ?_
    intro w9 hw9
    have bel : Below w0.heap.size w0 w9 := by obtain ⟨p, rfl⟩ := hw9; exact below_regrown _ p.d p.os
    clear hw9 gS k0 k1 k2 k3 e0 e1 e2 e3 f0 f1 f2 f3
    go_wp2
    exact HR.out _ _ ⟨rfl, HB0.out.trans (bel.mono HB0.out.size)⟩
set_option maxHeartbeats 1000000 in
theorem matches_any (A1 A2 A4 : Option Addr) (n1 c1 n2 c2 n4 c4 : Nat) (va vx vy : Value) (ps : List (Int × Int)) (x y : VRow) (w : World) (ha : RdPr w w.heap.size va ps) (hx : RdV w w.heap.size vx x) (hy : RdV w w.heap.size vy y)
    (hb : ∀ p ∈ ps, (0 ≤ p.1 ∧ p.1 < x.length) ∧ 0 ≤ p.2 ∧ p.2 < y.length) :
    Calls Tryd.prog 108 #[.agg #[.slice A1 n1 c1, .slice A2 n2 c2, va, .slice A4 n4 c4], vx, vy] w fun e w' => e = .returned (.bool (matchP ps x y)) ∧ Below w.heap.size w w' := by
  refine cps fun R HR => ?_
  have ha0 := ha; have hx0 := hx; have hy0 := hy
  obtain ⟨A3, c3, rfl, -⟩ := ha.is
  obtain ⟨A5, c5, rfl, -⟩ := hx.is
  obtain ⟨A6, c6, rfl, -⟩ := hy.is
  clear ha hx hy
  obtain ⟨Y, hY⟩ : ∃ Y, Y = ps.any (mis1 x y) := ⟨_, rfl⟩
  have hm : matchP ps x y = !Y := by rw [hY]; rfl
  rw [hm] at HR
  have HY := Lib.hid hY
  obtain ⟨w0, hw0⟩ : ∃ w0, w0 = ((w.alloc (.cells #[.slice A1 n1 c1, .slice A2 n2 c2, .slice A3 ps.length c3, .slice A4 n4 c4] 130)).alloc (.cells #[.slice A5 x.length c5] 61)).alloc (.cells #[.slice A6 y.length c6] 61) := ⟨_, rfl⟩
  have b0 : Below w.heap.size w w0 := by rw [hw0]; exact (((Below.refl _ _).alloc (Nat.le_refl _) _).alloc (by simp) _).alloc (by simp; omega) _
  have X := ((Box.new w 130 #[.slice A1 n1 c1, .slice A2 n2 c2, .slice A3 ps.length c3, .slice A4 n4 c4]).alloc (.cells #[.slice A5 x.length c5] 61)).alloc (.cells #[.slice A6 y.length c6] 61)
  have X5 := (Box.new (w.alloc (.cells #[.slice A1 n1 c1, .slice A2 n2 c2, .slice A3 ps.length c3, .slice A4 n4 c4] 130)) 61 #[.slice A5 x.length c5]).alloc (.cells #[.slice A6 y.length c6] 61)
  have X6 := Box.new ((w.alloc (.cells #[.slice A1 n1 c1, .slice A2 n2 c2, .slice A3 ps.length c3, .slice A4 n4 c4] 130)).alloc (.cells #[.slice A5 x.length c5] 61)) 61 #[.slice A6 y.length c6]
  rw [← hw0] at X X5 X6
  simp only [hsz] at X5 X6
  have x2 := X.cell 2
  simp at x2
  have hP : ∀ p ∈ ps, ∀ wk, Below w0.heap.size w0 wk → Calls Tryd.prog 131 #[.agg #[.int .i64 p.1, .int .i64 p.2], .pointer (some ⟨w.heap.size + 1, 0, none⟩), .pointer (some ⟨w.heap.size + 1 + 1, 0, none⟩)] wk fun e w' => e = .returned (.bool (mis1 x y p)) ∧ Below wk.heap.size wk w' :=
    fun p hp wk hk => match1_any _ _ _ _ x y p wk ((X5.below hk X5.lt).cell 0) ((X6.below hk X6.lt).cell 0) (RdF.next (RdF.next hx0 b0) hk) (RdF.next (RdF.next hy0 b0) hk) (hb p hp).1.1 (hb p hp).1.2 (hb p hp).2.1 (hb p hp).2.2
  have HP := Lib.hid hP; have HW0 := Lib.hid hw0; have HB0 := Lib.hid b0
  clear X X5 X6 hP hw0 b0 hb hY hm
  go_enter Tryd.func108, Tryd.ntmps108
  go_wp2_with fail
  rw [← HW0.out]
  refine (anyMt_any _ _ _ ps (mis1 x y) _ (RdF.next ha0 HB0.out) HP.out).mono ?_
  rintro e w1 ⟨rfl, b1⟩
  rw [← HY.out]
  go_wp2
  exact HR.out _ _ ⟨rfl, HB0.out.trans (b1.mono HB0.out.size)⟩
/-- Do the second table's columns come out? -/
def wideB (k : Int) : Bool := decide (k = 1) || decide (k = 2)
theorem wide_any (k : Int) (w : World) : Calls Tryd.prog 82 #[.int .i64 k] w fun e w' => e = .returned (.bool (wideB k)) ∧ w' = w := by
  refine cps fun R HR => ?_
  unfold wideB at HR
  have d1 : (k == 1) = decide (k = 1) := by rw [Bool.eq_iff_iff]; simp
  have d2 : (k == 2) = decide (k = 2) := by rw [Bool.eq_iff_iff]; simp
  obtain ⟨t1, ht1⟩ : ∃ t, t = decide (k = 1) := ⟨_, rfl⟩
  obtain ⟨t2, ht2⟩ : ∃ t, t = decide (k = 2) := ⟨_, rfl⟩
  rw [← ht1] at d1 HR
  rw [← ht2] at d2 HR
  clear ht1 ht2
  go_enter Tryd.func82, Tryd.ntmps82
  cases t1
  · go_wp2
    exact HR.out _ _ ⟨rfl, rfl⟩
  · go_wp2
    exact HR.out _ _ ⟨rfl, rfl⟩
/-- Has each row as many values? -/
def fitsB (n : Nat) (t : VTab) : Bool := !t.any fun r => !decide (r.length = n)
theorem fitsB_iff {n : Nat} {t : VTab} : fitsB n t = true ↔ ∀ r ∈ t, r.length = n := by
  unfold fitsB
  simp [List.any_eq_false]
theorem jfits_any (A1 : Option Addr) (n1 c1 : Nat) (v : Value) (t : VTab) (w : World) (ht : RdVT w w.heap.size v t) :
    Calls Tryd.prog 73 #[.agg #[.slice A1 n1 c1, v]] w fun e w' => e = .returned (.bool (fitsB n1 t)) ∧ Below w.heap.size w w' := by
  refine cps fun R HR => ?_
  unfold fitsB at HR
  have ht0 := ht
  obtain ⟨A2, c2, vs, rfl, -, -⟩ := ht.is
  clear ht
  obtain ⟨Y, hY⟩ : ∃ Y, Y = t.any fun r => !decide (r.length = n1) := ⟨_, rfl⟩
  rw [← hY] at HR
  obtain ⟨w0, hw0⟩ : ∃ w0, w0 = w.alloc (.cells #[.slice A1 n1 c1, .slice A2 t.length c2] 25) := ⟨_, rfl⟩
  have b0 : Below w.heap.size w w0 := by rw [hw0]; exact (Below.refl _ _).alloc (Nat.le_refl _) _
  have X := Box.new w 25 #[.slice A1 n1 c1, .slice A2 t.length c2]
  rw [← hw0] at X
  have x1 := X.cell 1
  simp at x1
  have hP : ∀ r ∈ t, ∀ wk u, Below w0.heap.size w0 wk → RdV wk wk.heap.size u r → Calls Tryd.prog 106 #[u, .pointer (some ⟨w.heap.size, 0, none⟩)] wk fun e w' => e = .returned (.bool (!decide (r.length = n1))) ∧ Below wk.heap.size wk w' :=
    fun r hr wk u hk hu => fits1_any _ A1 n1 c1 u r wk ((X.below hk X.lt).cell 0) hu
  have HP := Lib.hid hP; have HW0 := Lib.hid hw0; have HB0 := Lib.hid b0; have HY := Lib.hid hY
  clear X hP hw0 b0 hY
  go_enter Tryd.func73, Tryd.ntmps73
  go_wp2_with fail
  rw [← HW0.out]
  refine (anyFt_any _ _ t (fun r => !decide (r.length = n1)) _ (RdE.next (RdF.stays valV 4) ht0 HB0.out) HP.out).mono ?_
  rintro e w1 ⟨rfl, b1⟩
  rw [← HY.out]
  go_wp2
  exact HR.out _ _ ⟨rfl, HB0.out.trans (b1.mono HB0.out.size)⟩
end Go.Proofs.YtgiemhooeoakmaaDoor

namespace Go.Proofs.YtgiemhooeoakmaaDoor
open Go.RowKit Go.ChangeShapes Go.WideShapes
set_option linter.unusedVariables false
set_option linter.unusedSimpArgs false

/-- What of a pair may not be, behind others. -/
def pairC (a b : List Col) (o : OnP) (ahead : List OnP) : Nat :=
  if o.left ∈ namesC a ∧ o.right ∈ namesC b then (if (findC a o.left).kind ≠ (findC b o.right).kind then 21 else if ahead.any (touch o) then 15 else 0) else 16
set_option maxHeartbeats 2000000 in
theorem pair_any (va vb vh : Value) (a b : List Col) (o : OnP) (ahead : List OnP) (w : World) (ha : RdC w w.heap.size va a) (hb : RdC w w.heap.size vb b) (hh : RdOn w w.heap.size vh ahead) :
    Calls Tryd.prog 79 #[va, vb, .agg #[.string o.left, .string o.right], vh] w fun e w' => e = .returned (.int .i64 (pairC a b o ahead)) ∧ Below w.heap.size w w' := by
  refine cps fun R HR => ?_
  have ha0 := ha; have hb0 := hb; have hh0 := hh
  obtain ⟨A1, c1, rfl, -⟩ := ha.is
  obtain ⟨A2, c2, rfl, -⟩ := hb.is
  obtain ⟨A3, c3, rfl, -⟩ := hh.is
  clear ha hb hh
  obtain ⟨ol, or⟩ := o
  dsimp only
  obtain ⟨Y, hY⟩ : ∃ Y, Y = pairC a b ⟨ol, or⟩ ahead := ⟨_, rfl⟩
  rw [← hY] at HR
  unfold pairC at hY
  dsimp only at hY
  obtain ⟨w0, hw0⟩ : ∃ w0, w0 = w.alloc (.cells #[.string ol, .string or] 125) := ⟨_, rfl⟩
  have b0 : Below w.heap.size w w0 := by rw [hw0]; exact (Below.refl _ _).alloc (Nat.le_refl _) _
  have X := Box.new w 125 #[.string ol, .string or]
  rw [← hw0] at X
  have x0 := X.cell 0
  simp at x0
  obtain ⟨fa, hfa⟩ : ∃ f, f = findC a ol := ⟨_, rfl⟩
  obtain ⟨fb, hfb⟩ : ∃ f, f = findC b or := ⟨_, rfl⟩
  obtain ⟨ta, hta⟩ : ∃ t, t = decide (ol ∈ namesC a) := ⟨_, rfl⟩
  obtain ⟨tb, htb⟩ : ∃ t, t = decide (or ∈ namesC b) := ⟨_, rfl⟩
  obtain ⟨pa, hpa⟩ : ∃ t, t = atC (namesC a) ol := ⟨_, rfl⟩
  obtain ⟨pb, hpb⟩ : ∃ t, t = atC (namesC b) or := ⟨_, rfl⟩
  rw [← hfa, ← hfb] at hY
  have HX := Lib.hid X; have HW0 := Lib.hid hw0; have HB0 := Lib.hid b0; have HY := Lib.hid hY; have HFA := Lib.hid hfa; have HFB := Lib.hid hfb; have HTA := Lib.hid hta; have HTB := Lib.hid htb; have HPA := Lib.hid hpa; have HPB := Lib.hid hpb
  clear X hw0 b0 hY hfa hfb hta htb hpa hpb
  go_enter Tryd.func79, Tryd.ntmps79
  go_wp2_with fail
  rw [← HW0.out]
  refine (find_any _ a ol _ (RdF.next ha0 HB0.out)).mono ?_
  rintro e w1 ⟨rfl, b1⟩
  rw [← HFA.out, ← HTA.out, ← HPA.out]
  obtain ⟨fan, fak, fau⟩ := fa
  dsimp only
  obtain ⟨w2, hw2⟩ : ∃ w2, w2 = w1.alloc (.cells #[.string fan, .int .i64 fak, .bool fau] 99) := ⟨_, rfl⟩
  have Z := Box.new w1 99 #[.string fan, .int .i64 fak, .bool fau]
  have b2 : Below w1.heap.size w1 w2 := by rw [hw2]; exact (Below.refl _ _).alloc (Nat.le_refl _) _
  rw [← hw2] at Z
  have b02 := b1.trans (b2.mono b1.size)
  have bw2 := HB0.out.trans (b02.mono HB0.out.size)
  have X2 := HX.out.below b02 HX.out.lt
  have X1 := HX.out.below b1 HX.out.lt
  have y1 := X1.cell 1
  have y1l := X1.lt
  simp at y1
  clear X1
  have HZ := Lib.hid Z; have HW2 := Lib.hid hw2; have HX2 := Lib.hid X2
  clear Z hw2 X2 b2 x0
  go_wp2_with fail
  rw [← HW2.out]
  refine (find_any _ b or _ (RdF.next hb0 bw2)).mono ?_
  rintro e w3 ⟨rfl, b3⟩
  rw [← HFB.out, ← HTB.out, ← HPB.out]
  obtain ⟨fbn, fbk, fbu⟩ := fb
  dsimp only
  obtain ⟨w4, hw4⟩ : ∃ w4, w4 = w3.alloc (.cells #[.string fbn, .int .i64 fbk, .bool fbu] 99) := ⟨_, rfl⟩
  have Z4 := Box.new w3 99 #[.string fbn, .int .i64 fbk, .bool fbu]
  have b4 : Below w3.heap.size w3 w4 := by rw [hw4]; exact (Below.refl _ _).alloc (Nat.le_refl _) _
  rw [← hw4] at Z4
  have b24 := b3.trans (b4.mono b3.size)
  have bw4 := bw2.trans (b24.mono bw2.size)
  have Z24 := HZ.out.below b3 HZ.out.lt
  have X4 := HX2.out.below b24 HX2.out.lt
  have z1 := Z24.cell 1
  have z1l := Z24.lt
  simp at z1
  have HX4 := Lib.hid X4; have HW4 := Lib.hid hw4
  clear Z4 hw4 Z24 X4 b4 y1 y1l
  cases ta
  · have hy : Y = 16 := by rw [HY.out, if_neg (by intro h; have := HTA.out; rw [decide_eq_true h.1] at this; cases this)]
    subst hy
    go_wp2
    rw [← HW4.out]
    exact HR.out _ _ ⟨rfl, bw4⟩
  · cases tb
    · have hy : Y = 16 := by rw [HY.out, if_neg (by intro h; have := HTB.out; rw [decide_eq_true h.2] at this; cases this)]
      subst hy
      go_wp2
      rw [← HW4.out]
      exact HR.out _ _ ⟨rfl, bw4⟩
    · have hy := HY.out
      rw [if_pos ⟨of_decide_eq_true HTA.out.symm, of_decide_eq_true HTB.out.symm⟩] at hy
      have HY2 := Lib.hid hy
      clear hy
      by_cases hk : fak = fbk
      · have hy := HY2.out
        rw [if_neg (by simpa using hk)] at hy
        have HY3 := Lib.hid hy
        have dk : (fak != fbk) = false := by rw [hk]; simp
        obtain ⟨tt, htt⟩ : ∃ t, t = ahead.any (touch ⟨ol, or⟩) := ⟨_, rfl⟩
        have HTT := Lib.hid htt
        clear hy hk htt
        have hx4 := HX4.out.lt
        go_wp2_with fail
        rw [← HW4.out]
        refine (anyPr_any _ _ ahead (touch ⟨ol, or⟩) _ (RdF.next hh0 bw4) (fun p hp wk hk => pair1_any p ⟨ol, or⟩ w.heap.size wk ((HX4.out.below hk HX4.out.lt).cell 0) ((HX4.out.below hk HX4.out.lt).cell 1))).mono ?_
        rintro e w5 ⟨rfl, b5⟩
        rw [← HTT.out]
        have bw5 := bw4.trans (b5.mono bw4.size)
        cases tt
        · have hy : Y = 0 := by rw [HY3.out, ← HTT.out]; rfl
          subst hy
          go_wp2
          exact HR.out _ _ ⟨rfl, bw5⟩
        · have hy : Y = 15 := by rw [HY3.out, ← HTT.out]; rfl
          subst hy
          go_wp2
          exact HR.out _ _ ⟨rfl, bw5⟩
      · have hy : Y = 21 := by rw [HY2.out, if_pos hk]
        subst hy
        have dk : (fak != fbk) = true := by rw [bne_iff_ne]; exact hk
        clear hk
        go_wp2
        rw [← HW4.out]
        exact HR.out _ _ ⟨rfl, bw4⟩
/-- Is a name a pair's Right? -/
def rightB (on : List OnP) (s : ByteArray) : Bool := on.any fun o => decide (o.right = s)
/-- The columns that come out, by their numbers. -/
def othF (on : List OnP) : Nat → List Col → List Int
  | _, [] => []
  | j, c :: r => (if rightB on c.name = true then [] else [(j : Int)]) ++ othF on (j + 1) r
theorem othF_snoc (on : List OnP) : ∀ (l : List Col) (j : Nat) (c : Col), othF on j (l ++ [c]) = othF on j l ++ (if rightB on c.name = true then [] else [((j + l.length : Nat) : Int)])
  | [], j, c => by simp [othF]
  | x :: l, j, c => by
    rw [List.cons_append, othF, othF, othF_snoc on l (j + 1) c, List.append_assoc]
    congr 3
    simp only [List.length_cons]
    have : j + 1 + l.length = j + (l.length + 1) := by omega
    rw [this]
theorem othF_len (on : List OnP) : ∀ (l : List Col) (j : Nat), (othF on j l).length ≤ l.length
  | [], j => Nat.le_refl _
  | c :: l, j => by
    rw [othF, List.length_append]
    have := othF_len on l (j + 1)
    split <;> simp <;> omega
theorem othF_mem (on : List OnP) : ∀ (l : List Col) (j : Nat) (p : Int), p ∈ othF on j l → (j : Int) ≤ p ∧ p < j + l.length
  | [], j, p, h => by cases h
  | c :: l, j, p, h => by
    rw [othF] at h
    rcases List.mem_append.1 h with h | h
    · split at h
      · cases h
      · rw [List.mem_singleton] at h; subst h; simp; omega
    · have := othF_mem on l (j + 1) p h
      simp
      omega
set_option maxHeartbeats 2000000 in
theorem others_any (vb vo : Value) (b : List Col) (on : List OnP) (w : World) (hb : RdC w w.heap.size vb b) (ho : RdOn w w.heap.size vo on) (hl : b.length ≤ 100000) :
    Calls Tryd.prog 80 #[vb, vo] w fun e w' => ∃ o, e = .returned o ∧ Own w' w.heap.size 3 1 o (othF on 0 b).length (intV (othF on 0 b)) ∧ Below w.heap.size w w' := by
  refine cps fun R HR => ?_
  obtain ⟨i0, hi0, hz0, hz1, hz2⟩ := info_parts int_info
  have hb0 := hb; have ho0 := ho
  obtain ⟨A1, c1, rfl, -⟩ := hb.is
  obtain ⟨A2, c2, rfl, -⟩ := ho.is
  clear hb ho
  go_enter Tryd.func80, Tryd.ntmps80
  go_wp2
  go_loopw [5, 10] (fun o i wr => ∃ k : Nat, k ≤ b.length ∧ i = .int .i64 k ∧ Own wr w.heap.size 3 1 o (othF on 0 (b.take k)).length (intV (othF on 0 (b.take k))) ∧ Below w.heap.size w wr) (fun _ i _ => b.length - (intOf i).toNat)
  case atStart => exact ⟨0, Nat.zero_le _, rfl, Own.nil_ _ _ _ _, Below.refl _ _⟩
  case round =>
    obtain ⟨k, hk, rfl, hO, hB⟩ := hrel
    by_cases hlt : k < b.length
    · obtain ⟨p, c3, hv, q0, q1, q2⟩ := RdC.at (hb0.below hB) hlt
      injection hv with hA hln hcc
      subst hA
      subst hcc
      clear hln
      have hs1 : othF on 0 (b.take (k + 1)) = othF on 0 (b.take k) ++ (if rightB on b[k].name = true then [] else [(k : Int)]) := by
        rw [List.take_succ_eq_append_getElem hlt, othF_snoc, List.length_take, Nat.min_eq_left (by omega), Nat.zero_add]
      have hlL : (othF on 0 (b.take k)).length ≤ k := by have := othF_len on (b.take k) 0; rw [List.length_take] at this; omega
      obtain ⟨x, hx⟩ : ∃ x, x = b[k] := ⟨_, rfl⟩
      rw [← hx] at q0 q1 q2 hs1
      obtain ⟨L, hL⟩ : ∃ L, L = othF on 0 (b.take k) := ⟨_, rfl⟩
      rw [← hL] at hs1 hO hlL
      obtain ⟨xs, xk, xb⟩ := x
      dsimp only at q0 q1 q2 hs1
      obtain ⟨t, ht⟩ : ∃ t, t = rightB on xs := ⟨_, rfl⟩
      rw [← ht] at hs1
      have S1 := Lib.hid hs1; have HTT := Lib.hid ht
      have dk : decide ((k : Int) < b.length) = true := decide_eq_true (by omega)
      obtain ⟨w0, hw0⟩ : ∃ w0, w0 = wr.alloc (.cells #[.string xs, .int .i64 xk, .bool xb] 99) := ⟨_, rfl⟩
      have b0 : Below wr.heap.size wr w0 := by rw [hw0]; exact (Below.refl _ _).alloc (Nat.le_refl _) _
      have X := Box.new wr 99 #[.string xs, .int .i64 xk, .bool xb]
      rw [← hw0] at X
      have hB0 := hB.trans (b0.mono hB.size)
      have hO0 := hO.below b0 (Nat.le_refl _)
      have HX := Lib.hid X; have HW0 := Lib.hid hw0
      clear hx hs1 hL X hw0 ht
      go_wp2_with fail
      rw [← HW0.out]
      refine (anyOt_any _ _ on (fun o => decide (o.right = xs)) _ (RdF.next ho0 hB0) (fun p hp wk hk => others1_any p xs wr.heap.size wk ((HX.out.below hk HX.out.lt).cell 0))).mono ?_
      rintro e w1 ⟨rfl, b1⟩
      rw [show (on.any fun o => decide (o.right = xs)) = t by rw [HTT.out]; rfl]
      have hB1 := hB0.trans (b1.mono hB0.size)
      have hO1 := hO0.below b1 (Nat.le_refl _)
      have hlt1 := hO.lt
      have HLT := Lib.hid hlt1
      clear hlt1
      cases t
      · have hs : othF on 0 (b.take (k + 1)) = L ++ [(k : Int)] := by rw [S1.out, if_neg (by simp)]
        have S2 := Lib.hid hs
        clear hs
        go_wp2_with (at_builtin; refine wpList_push rfl _ _ _ rfl w.heap.size 3 i0 _ 8 Tryd.underlying102 hi0 hz0 hz1 hz2 rfl (by omega) u5 L.length _ (.int .i64 k) rfl hO1 (by simp [Act.eval]) rfl (by omega) hB1.size ?_; intro v5 w6 hown5 hg5 hat5)
        exact ⟨⟨k + 1, by omega, by go_num, by rw [S2.out, intV_snoc, List.length_append]; exact hown5, below_grown hB1 hg5 (fun g hg => (HLT.out g hg).1) hB1.size⟩, by simp [intOf]; omega⟩
      · have hs : othF on 0 (b.take (k + 1)) = L := by rw [S1.out, if_pos rfl, List.append_nil]
        have S2 := Lib.hid hs
        clear hs
        go_wp2
        exact ⟨⟨k + 1, by omega, by go_num, by rw [S2.out]; exact hO1, hB1⟩, by simp [intOf]; omega⟩
    · obtain rfl : k = b.length := by omega
      rw [List.take_length] at hO
      clear hlt
      go_wp2
      exact HR.out _ _ ⟨_, rfl, hO, hB⟩
end Go.Proofs.YtgiemhooeoakmaaDoor

namespace Go.Proofs.YtgiemhooeoakmaaDoor
open Go.RowKit Go.ChangeShapes Go.WideShapes
set_option linter.unusedVariables false
set_option linter.unusedSimpArgs false

/-- The first pair that may not be, so many being behind. -/
def pairF (a b : List Col) (on : List OnP) : Nat → List OnP → Nat × Nat
  | j, [] => (j, 0)
  | j, o :: r => if pairC a b o (on.take j) ≠ 0 then (j, pairC a b o (on.take j)) else pairF a b on (j + 1) r
def dupB (a b : List Col) (on : List OnP) : Bool := b.any fun c => !rightB on c.name && decide (c.name ∈ namesC a)
def jchk (a b : List Col) (on : List OnP) (kind : Int) : Nat × Nat :=
  if (chkC a).2 ≠ 0 then (0, (chkC a).2) else if (chkC b).2 ≠ 0 then (0, (chkC b).2) else if kind < 1 ∨ 4 < kind then (0, 22) else if on = [] then (0, 13) else
    if (pairF a b on 0 on).2 ≠ 0 then pairF a b on 0 on else if (wideB kind && dupB a b on) = true then (on.length, 15) else (on.length, 0)
theorem oth_any (on : List OnP) (p : Col → Bool) : ∀ (l : List Col) (j : Nat) (b : List Col), (∀ k, l[k]? = b[j + k]?) → (othF on j l).any (fun i => p (b.getD i.toNat col0)) = l.any (fun c => !rightB on c.name && p c)
  | [], j, b, h => rfl
  | c :: l, j, b, h => by
    rw [othF, List.any_append, List.any_cons, oth_any on p l (j + 1) b (fun k => by have := h (k + 1); rw [List.getElem?_cons_succ] at this; rw [this]; congr 1; omega)]
    congr 1
    have h0 := h 0
    rw [List.getElem?_cons_zero, Nat.add_zero] at h0
    cases hr : rightB on c.name
    · simp [List.getD_eq_getElem?_getD, ← h0]
    · simp
set_option maxHeartbeats 8000000 in
set_option maxRecDepth 100000 in
theorem jcheck_any (va vb vo : Value) (a b : List Col) (on : List OnP) (kind : Int) (w : World) (ha : RdC w w.heap.size va a) (hb : RdC w w.heap.size vb b) (ho : RdOn w w.heap.size vo on) (hla : a.length ≤ 100000) (hlb : b.length ≤ 100000) (hlo : on.length ≤ 100000)
    (hca : ∀ c ∈ a, c.name.size ≤ 100000) (hcb : ∀ c ∈ b, c.name.size ≤ 100000) (hT : Tab w) :
    Calls Tryd.prog 35 #[va, vb, vo, .int .i64 kind] w fun e w' => e = .returned (.tuple #[.int .i64 (jchk a b on kind).1, .int .i64 (jchk a b on kind).2]) ∧ Below w.heap.size w w' := by
  refine cps fun R HR => ?_
  have ha0 := ha; have hb0 := hb; have ho0 := ho
  obtain ⟨A1, c1, rfl, -⟩ := ha.is
  obtain ⟨A2, c2, rfl, -⟩ := hb.is
  obtain ⟨A3, c3, rfl, -⟩ := ho.is
  clear ha hb ho
  have hcap := ho0.cap
  obtain ⟨Y, hY⟩ : ∃ Y, Y = jchk a b on kind := ⟨_, rfl⟩
  rw [← hY] at HR
  unfold jchk at hY
  have HY := Lib.hid hY; have HCA := Lib.hid hca; have HCB := Lib.hid hcb; have HT := Lib.hid hT
  clear hY hca hcb hT
  obtain ⟨w0, hw0⟩ : ∃ w0, w0 = w.alloc (.cells #[.slice A1 a.length c1, .slice A2 b.length c2] 22) := ⟨_, rfl⟩
  have b0 : Below w.heap.size w w0 := by rw [hw0]; exact (Below.refl _ _).alloc (Nat.le_refl _) _
  have X := Box.new w 22 #[.slice A1 a.length c1, .slice A2 b.length c2]
  rw [← hw0] at X
  have HX := Lib.hid X; have HW0 := Lib.hid hw0; have HB0 := Lib.hid b0
  clear X hw0 b0
  obtain ⟨ca, hca⟩ : ∃ n, n = chkC a := ⟨_, rfl⟩
  obtain ⟨cb, hcb⟩ : ∃ n, n = chkC b := ⟨_, rfl⟩
  have HCa := Lib.hid hca; have HCb := Lib.hid hcb
  clear hca hcb
  go_enter Tryd.func35, Tryd.ntmps35
  go_wp2
  rw [← HW0.out]
  go_loopw [26] (fun i wr => ∃ k : Nat, k ≤ 2 ∧ i = .int .i64 k ∧ (1 ≤ k → (chkC a).2 = 0) ∧ (2 ≤ k → (chkC b).2 = 0) ∧ Below w0.heap.size w0 wr) (fun i _ => 2 - (intOf i).toNat)
  case atStart => exact ⟨0, Nat.zero_le _, rfl, (fun h => by omega), (fun h => by omega), Below.refl _ _⟩
  case round =>
    obtain ⟨k, hk2, rfl, hK1, hK2, hBr⟩ := hrel
    have HK1 := Lib.hid hK1; have HK2 := Lib.hid hK2
    have bwr := HB0.out.trans (hBr.mono HB0.out.size)
    have X2 := HX.out.below hBr HX.out.lt
    have y0 := X2.cell 0
    have y1 := X2.cell 1
    simp at y0 y1
    clear hK1 hK2 X2
    rcases (by omega : k = 0 ∨ k = 1 ∨ k = 2) with rfl | rfl | rfl
    · go_wp2_with fail
      refine (schCheck_any _ a _ (RdF.next ha0 bwr) hla HCA.out (HT.out.below bwr)).mono ?_
      rintro e w3 ⟨rfl, b3⟩
      have bw3 := bwr.trans (b3.mono bwr.size)
      have hB3 := hBr.trans (b3.mono hBr.size)
      rw [← HCa.out]
      obtain ⟨ca1, ca2⟩ := ca
      by_cases h0 : ca2 = 0
      · subst h0
        have K1 := Lib.hid (show (chkC a).2 = 0 by rw [← HCa.out])
        go_wp2
        exact ⟨⟨1, by omega, by go_num, fun _ => K1.out, (fun h => by omega), hB3⟩, by simp [intOf]⟩
      · have dne : ((ca2 : Int) != 0) = true := by rw [bne_iff_ne]; omega
        have hy := HY.out
        rw [← HCa.out, if_pos (by simpa using h0)] at hy
        subst hy
        clear h0
        go_wp2
        exact HR.out _ _ ⟨rfl, bw3⟩
    · have K1 := Lib.hid (HK1.out (by omega))
      go_wp2_with fail
      refine (schCheck_any _ b _ (RdF.next hb0 bwr) hlb HCB.out (HT.out.below bwr)).mono ?_
      rintro e w3 ⟨rfl, b3⟩
      have bw3 := bwr.trans (b3.mono bwr.size)
      have hB3 := hBr.trans (b3.mono hBr.size)
      rw [← HCb.out]
      obtain ⟨cb1, cb2⟩ := cb
      by_cases h0 : cb2 = 0
      · subst h0
        have K2 := Lib.hid (show (chkC b).2 = 0 by rw [← HCb.out])
        go_wp2
        exact ⟨⟨2, by omega, by go_num, fun _ => K1.out, fun _ => K2.out, hB3⟩, by simp [intOf]⟩
      · have dne : ((cb2 : Int) != 0) = true := by rw [bne_iff_ne]; omega
        have hy := HY.out
        rw [if_neg (by rw [K1.out]; simp), ← HCb.out, if_pos (by simpa using h0)] at hy
        subst hy
        clear h0
        go_wp2
        exact HR.out _ _ ⟨rfl, bw3⟩
    · have hy := HY.out
      rw [if_neg (by rw [HK1.out (by omega)]; simp), if_neg (by rw [HK2.out (by omega)]; simp)] at hy
      have HY2 := Lib.hid hy
      clear hy HY HK1 HK2 y0 y1
      obtain ⟨w3, rfl⟩ : ∃ w3 : World, w3 = wr := ⟨_, rfl⟩
      by_cases hkd : kind < 1
      · have d1 : decide (kind < 1) = true := decide_eq_true hkd
        have hy := HY2.out
        rw [if_pos (.inl hkd)] at hy
        subst hy
        clear hkd
        go_wp2
        exact HR.out _ _ ⟨rfl, bwr⟩
      · have d1 : decide (kind < 1) = false := decide_eq_false hkd
        by_cases hkd4 : 4 < kind
        · have d2 : decide (4 < kind) = true := decide_eq_true hkd4
          have hy := HY2.out
          rw [if_pos (.inr hkd4)] at hy
          subst hy
          clear hkd hkd4
          go_wp2
          exact HR.out _ _ ⟨rfl, bwr⟩
        · have d2 : decide (4 < kind) = false := decide_eq_false hkd4
          have hy := HY2.out
          rw [if_neg (by omega)] at hy
          have HY3 := Lib.hid hy
          clear hkd hkd4 hy HY2
          by_cases hn : on = []
          · have hy := HY3.out
            rw [if_pos hn] at hy
            subst hy
            subst hn
            go_wp2
            exact HR.out _ _ ⟨rfl, bwr⟩
          · have hpos : 0 < on.length := List.length_pos_iff.2 hn
            have dn : ((on.length : Int) == 0) = false := by rw [beq_eq_false_iff_ne]; omega
            have hy := HY3.out
            rw [if_neg hn] at hy
            obtain ⟨P, hP⟩ : ∃ P, P = pairF a b on 0 on := ⟨_, rfl⟩
            rw [← hP] at hy
            have HY4 := Lib.hid hy; have HP := Lib.hid hP
            clear hn hy HY3 hP
            go_wp2
            go_loopw [52] (fun i wr => ∃ k : Nat, k ≤ on.length ∧ i = .int .i64 k ∧ pairF a b on k (on.drop k) = P ∧ Below w3.heap.size w3 wr) (fun i _ => on.length - (intOf i).toNat)
            case atStart => exact ⟨0, Nat.zero_le _, rfl, HP.out.symm, Below.refl _ _⟩
            case round =>
              obtain ⟨k, hk, rfl, hN, hB⟩ := hrel
              have HN := Lib.hid hN
              have bw4 := bwr.trans (hB.mono bwr.size)
              clear hN
              by_cases hlt : k < on.length
              · obtain ⟨p, c6, hv, q0, q1⟩ := RdOn.at (RdF.next ho0 bw4) hlt
                injection hv with hA hln hcc
                subst hA
                subst hcc
                clear hln
                have hs2 : on.drop k = on[k] :: on.drop (k + 1) := List.drop_eq_getElem_cons hlt
                obtain ⟨x, hx⟩ : ∃ x, x = on[k] := ⟨_, rfl⟩
                rw [← hx] at q0 q1 hs2
                have S2 := Lib.hid hs2
                clear hx hs2
                obtain ⟨pc, hpc⟩ : ∃ pc, pc = pairC a b x (on.take k) := ⟨_, rfl⟩
                obtain ⟨xl, xr⟩ := x
                dsimp only at q0 q1
                obtain ⟨ws, hws⟩ : ∃ ws, ws = wr.alloc (.cells #[.string xl, .string xr] 125) := ⟨_, rfl⟩
                have bws : Below wr.heap.size wr ws := by rw [hws]; exact (Below.refl _ _).alloc (Nat.le_refl _) _
                have Z := Box.new wr 125 #[.string xl, .string xr]
                rw [← hws] at Z
                have z0 := Z.cell 0
                have z1 := Z.cell 1
                simp at z0 z1
                have k0 := cell_regrown z0
                have k1 := cell_regrown z1
                have bww := bw4.trans (bws.mono bw4.size)
                have gP : ∀ dn os, Calls Tryd.prog 79 #[.slice A1 a.length c1, .slice A2 b.length c2, .agg #[.string xl, .string xr], .slice (some p) k c3] (Go.Sort.grow (redrawn ws dn) os) fun e w'' => e = .returned (.int .i64 pc) ∧ ∃ q : Regrown, w'' = Go.Sort.grow (redrawn ws q.d) q.os := fun dn os => Calls.regrown_of (by
                  have br := below_regrown ws dn os
                  rw [hpc]
                  exact pair_any _ _ _ a b ⟨xl, xr⟩ (on.take k) _ (RdF.next (RdF.next ha0 bww) br) (RdF.next (RdF.next hb0 bww) br) (RdF.next (RdF.next (RdF.take ho0 onV_len hk) bww) br))
                have HPC := Lib.hid hpc; have HWS := Lib.hid hws
                have hkc : k ≤ c3 := by omega
                have dk : decide ((k : Int) < on.length) = true := decide_eq_true (by omega)
                have hBs := hB.trans (bws.mono hB.size)
                clear hpc hws Z z0 z1
                go_wp2
                rw [← HWS.out]
                refine wp_region_quiet_below (by kernel_rfl) (by kernel_rfl) ?_
                repeat (go_big_quiet_step ((go_at_call 79; with_reducible exact gP _ _)))
                refine wpQuiet_nil ?_
                intro w9 hw9
                have bel : Below ws.heap.size ws w9 := by obtain ⟨q, rfl⟩ := hw9; exact below_regrown _ q.d q.os
                clear hw9 gP k0 k1
                have hB9 := hBs.trans (bel.mono hBs.size)
                have bw9 := bww.trans (bel.mono bww.size)
                by_cases hz : pc = 0
                · have hn2 : pairF a b on (k + 1) (on.drop (k + 1)) = P := by
                    have h := HN.out
                    rw [S2.out, pairF, ← HPC.out, if_neg (by simpa using hz)] at h
                    exact h
                  have N2 := Lib.hid hn2
                  subst hz
                  clear hn2
                  go_wp2
                  exact ⟨⟨k + 1, by omega, by go_num, N2.out, hB9⟩, by simp [intOf]; omega⟩
                · have dz : ((pc : Int) != 0) = true := by rw [bne_iff_ne]; omega
                  have hp : P = (k, pc) := by
                    have h := HN.out
                    rw [S2.out, pairF, ← HPC.out, if_pos hz] at h
                    exact h.symm
                  have hy := HY4.out
                  rw [hp, if_pos hz] at hy
                  subst hy
                  clear hz
                  go_wp2
                  exact HR.out _ _ ⟨rfl, bw9⟩
              · have hp : P = (k, 0) := by
                  have h := HN.out
                  rw [List.drop_of_length_le (by omega), pairF] at h
                  exact h.symm
                have hy := HY4.out
                rw [hp, if_neg (by simp)] at hy
                obtain ⟨wd, hwd⟩ : ∃ wd, wd = wideB kind := ⟨_, rfl⟩
                rw [← hwd] at hy
                have HY5 := Lib.hid hy; have HWD := Lib.hid hwd
                obtain ⟨w4, rfl⟩ : ∃ w4 : World, w4 = wr := ⟨_, rfl⟩
                clear hp hy hwd
                go_wp2_with fail
                refine (others_any _ _ b on _ (RdF.next hb0 bw4) (RdF.next ho0 bw4) hlb).mono ?_
                rintro e w5 ⟨o, rfl, ho5, b5⟩
                have bw5 := bw4.trans (b5.mono bw4.size)
                have ho6 := RdI.of_own ho5
                obtain ⟨L, hL⟩ : ∃ L, L = othF on 0 b := ⟨_, rfl⟩
                rw [← hL] at ho6
                have hlm : ∀ p ∈ L, 0 ≤ p ∧ p < b.length := fun p hp => by
                  rw [hL] at hp
                  have := othF_mem on b 0 p hp
                  omega
                have hdup : dupB a b on = L.any (fun i => decide ((b.getD i.toNat col0).name ∈ namesC a)) := by
                  rw [hL]
                  exact (oth_any on (fun c => decide (c.name ∈ namesC a)) b 0 b (fun k => by rw [Nat.zero_add])).symm
                have hLl : L.length ≤ 100000 := by rw [hL]; have := othF_len on b 0; omega
                obtain ⟨oA, oc, rfl, -⟩ := ho6.is
                have HLM := Lib.hid hlm; have HDUP := Lib.hid hdup
                clear hL hlm hdup ho5
                go_wp2
                go_loopw [73] (fun i wr => ∃ k : Nat, k ≤ L.length ∧ i = .int .i64 k ∧ (wd = true → (L.take k).any (fun i => decide ((b.getD i.toNat col0).name ∈ namesC a)) = false) ∧ Below w5.heap.size w5 wr) (fun i _ => L.length - (intOf i).toNat)
                case atStart => exact ⟨0, Nat.zero_le _, rfl, fun _ => rfl, Below.refl _ _⟩
                case round =>
                  obtain ⟨m, hm, rfl, hM, hB6⟩ := hrel
                  have bw6 := bw5.trans (hB6.mono bw5.size)
                  have HM := Lib.hid hM
                  clear hM
                  by_cases hltm : m < L.length
                  · obtain ⟨p, c7, hv, hcm⟩ := (ho6.below hB6).at hltm
                    injection hv with hA hln hcc
                    subst hA
                    subst hcc
                    clear hln
                    obtain ⟨hp0, hp1⟩ := HLM.out _ (List.getElem_mem hltm)
                    have hs3 := List.take_succ_eq_append_getElem hltm
                    obtain ⟨x, hx⟩ : ∃ x, x = L[m] := ⟨_, rfl⟩
                    rw [← hx] at hcm hp0 hp1 hs3
                    obtain ⟨q, rfl⟩ := Int.eq_ofNat_of_zero_le hp0
                    have hq : q < b.length := by omega
                    obtain ⟨p8, c8, hv8, q0, q1, q2⟩ := RdC.at (RdF.next hb0 bw6) hq
                    injection hv8 with hA hln hcc
                    subst hA
                    subst hcc
                    clear hln
                    have hget : b.getD ((q : Int)).toNat col0 = b[q] := by rw [Int.toNat_natCast, List.getD_eq_getElem?_getD, List.getElem?_eq_getElem hq]; rfl
                    obtain ⟨y, hy⟩ : ∃ y, y = b[q] := ⟨_, rfl⟩
                    rw [← hy] at q0 q1 q2 hget
                    obtain ⟨ys, yk, yb⟩ := y
                    dsimp only at q0 q1 q2
                    have S3 := Lib.hid hs3; have HGET := Lib.hid hget
                    obtain ⟨tw, htw⟩ : ∃ tw, tw = decide (ys ∈ namesC a) := ⟨_, rfl⟩
                    have HTW := Lib.hid htw
                    have dm : decide ((m : Int) < L.length) = true := decide_eq_true (by omega)
                    have hqI : (q : Int) < b.length := hp1
                    clear hx hs3 hget hy htw hp0 hp1
                    go_wp2_with fail
                    refine (find_any _ a ys _ (RdF.next ha0 bw6)).mono ?_
                    rintro e w7 ⟨rfl, b7⟩
                    rw [← HTW.out]
                    obtain ⟨ff, hff⟩ : ∃ ff, ff = findC a ys := ⟨_, rfl⟩
                    rw [← hff]
                    obtain ⟨f1, f2, f3⟩ := ff
                    dsimp only
                    obtain ⟨pp, hpp⟩ : ∃ pp, pp = atC (namesC a) ys := ⟨_, rfl⟩
                    rw [← hpp]
                    clear hff hpp
                    have hB7 := hB6.trans (b7.mono hB6.size)
                    have hB8 := hB7.alloc hB7.size (.cells #[.string f1, .int .i64 f2, .bool f3] 99)
                    have bw8 := bw5.trans (hB8.mono bw5.size)
                    cases tw
                    · have hn : wd = true → (L.take (m + 1)).any (fun i => decide ((b.getD i.toNat col0).name ∈ namesC a)) = false := fun h => by
                        rw [S3.out, List.any_append, HM.out h, List.any_cons, HGET.out, ← HTW.out]
                        rfl
                      have HNN := Lib.hid hn
                      clear hn
                      go_wp2
                      exact ⟨⟨m + 1, by omega, by go_num, HNN.out, hB8⟩, by simp [intOf]; omega⟩
                    · go_wp2_with fail
                      refine (wide_any kind _).mono ?_
                      rintro e w9 ⟨rfl, rfl⟩
                      rw [← HWD.out]
                      cases wd
                      · go_wp2
                        exact ⟨⟨m + 1, by omega, by go_num, (fun h => by cases h), hB8⟩, by simp [intOf]; omega⟩
                      · have hd : dupB a b on = true := by
                          rw [HDUP.out]
                          refine any_take_le _ L hltm ?_
                          have h := S3.out
                          have h2 : L[m] = (q : Int) := by
                            rw [List.take_succ_eq_append_getElem hltm] at h
                            have h := List.append_cancel_left h
                            injection h
                          show decide ((b.getD (L[m]).toNat col0).name ∈ namesC a) = true
                          rw [h2, HGET.out, ← HTW.out]
                        have hy := HY5.out
                        rw [hd] at hy
                        replace hy : Y = (on.length, 15) := hy
                        subst hy
                        clear hd
                        go_wp2
                        exact HR.out _ _ ⟨rfl, bw8⟩
                  · have hd : (wd && dupB a b on) = false := by
                      cases wd
                      · rfl
                      · rw [HDUP.out, ← HM.out rfl, List.take_of_length_le (by omega)]; rfl
                    have hy := HY5.out
                    rw [hd, if_neg (by simp)] at hy
                    subst hy
                    clear hd
                    go_wp2
                    exact HR.out _ _ ⟨rfl, bw6⟩
end Go.Proofs.YtgiemhooeoakmaaDoor

namespace Go.Proofs.YtgiemhooeoakmaaDoor
open Go.RowKit Go.ChangeShapes Go.WideShapes
set_option linter.unusedVariables false
set_option linter.unusedSimpArgs false

theorem col_info : (Tryd.prog.info? 99).map (fun i => (i.zero, i.size, i.bytes)) = some (some (.agg #[.string ⟨#[]⟩, .int .i64 0, .bool false]), 3, 32) := by kernel_rfl
theorem colF_one (l : List Col) : ∀ u ∈ l.flatMap colV, u.oneCell' = true := fun u hu => by
  obtain ⟨x, -, hx⟩ := List.mem_flatMap.1 hu
  simp [colV] at hx
  rcases hx with rfl | rfl | rfl <;> rfl
theorem cloneC_any (v : Value) (l : List Col) (w : World) (h : RdC w w.heap.size v l) (hl : l.length ≤ 100000) :
    Calls Tryd.prog 107 #[v] w fun e w' => ∃ u, e = .returned u ∧ Own w' w.heap.size 99 3 u l.length (l.flatMap colV) ∧ Below w.heap.size w w' := by
  refine cps fun R HR => ?_
  obtain ⟨A, c, rfl, hr⟩ := h.is
  obtain ⟨i0, hi0, hz0, hz1, hz2⟩ := info_parts col_info
  cases A with
  | none =>
    have hn := hr.nil rfl
    have hx : l = [] := List.eq_nil_of_length_eq_zero hn
    subst hx
    have heq := fun w' => Lib.run_eql_slice_nil (P := Tryd.prog) w' 22 99 none 0 c 0 0 Tryd.underlying22
    go_enter Tryd.func107, Tryd.ntmps107
    go_wp2
    exact HR.out _ _ ⟨_, rfl, Own.nil_ _ _ _ _, Below.refl _ _⟩
  | some ad =>
    have heq := fun w' => Lib.run_eql_slice_nil (P := Tryd.prog) w' 22 99 (some ad) l.length c 0 0 Tryd.underlying22
    go_enter Tryd.func107, Tryd.ntmps107
    go_wp2_with (at_builtin; refine wpList_append_Own _ rfl _ _ _ rfl w.heap.size 99 i0 _ 3 32 Tryd.underlying22 hi0 hz0 hz1 hz2 rfl (by omega) (by omega) (.slice (some ⟨w.heap.size, 0, none⟩) 0 0) 0 [] rfl (Own.made w _ _ _ (Nat.le_refl _)) w.heap.size (some ad) l.length c (l.flatMap colV) rfl (hr.alloc (Nat.le_refl _) _) (colF_one l) (by simp only [maxLen]; omega) (by omega) (by simp) ?_; intro v1 w1 hown1 hg1 hat1)
    refine HR.out _ _ ⟨v1, rfl, by simpa using hown1, ?_⟩
    exact below_grown ((Below.refl w.heap.size w).alloc (Nat.le_refl _) _) hg1 (fun g hg => by simp [Value.ownBlock] at hg; omega) (by simp)
theorem own_ne {v u : Value} (h : Apart v u) : u.ownBlock = none ∨ u.ownBlock ≠ v.ownBlock := by
  cases hu : u.ownBlock with
  | none => exact .inl rfl
  | some g => right; intro e; exact h g e.symm hu
/-- A column of the second table's, as it comes out. -/
def nullC (kind : Int) (c : Col) : Col := ⟨c.name, c.kind, c.null || decide (kind = 2)⟩
def colsJ (a b : List Col) (on : List OnP) (kind : Int) : List Col := a ++ if wideB kind = true then (b.filter fun c => !rightB on c.name).map (nullC kind) else []
theorem oth_map {α : Type} (on : List OnP) (f : Col → α) : ∀ (l : List Col) (j : Nat) (b : List Col), (∀ k, l[k]? = b[j + k]?) → (othF on j l).map (fun i => f (b.getD i.toNat col0)) = (l.filter fun c => !rightB on c.name).map f
  | [], j, b, h => rfl
  | c :: l, j, b, h => by
    rw [othF, List.map_append, oth_map on f l (j + 1) b (fun k => by have := h (k + 1); rw [List.getElem?_cons_succ] at this; rw [this]; congr 1; omega)]
    have h0 := h 0
    rw [List.getElem?_cons_zero, Nat.add_zero] at h0
    cases hr : rightB on c.name
    · simp [hr, List.getD_eq_getElem?_getD, ← h0]
    · simp [hr]
theorem colsJ_len (a b : List Col) (on : List OnP) (kind : Int) : (colsJ a b on kind).length ≤ a.length + b.length := by
  unfold colsJ
  rw [List.length_append]
  split
  · rw [List.length_map]
    have := List.length_filter_le (fun c : Col => !rightB on c.name) b
    omega
  · simp
set_option maxHeartbeats 4000000 in
theorem jcolumns_any (va vb vo : Value) (a b : List Col) (on : List OnP) (kind : Int) (w : World) (ha : RdC w w.heap.size va a) (hb : RdC w w.heap.size vb b) (ho : RdOn w w.heap.size vo on) (hla : a.length ≤ 100000) (hlb : b.length ≤ 100000) :
    Calls Tryd.prog 74 #[va, vb, vo, .int .i64 kind] w fun e w' => ∃ o, e = .returned o ∧ Own w' w.heap.size 99 3 o (colsJ a b on kind).length ((colsJ a b on kind).flatMap colV) ∧ Below w.heap.size w w' := by
  refine cps fun R HR => ?_
  obtain ⟨i0, hi0, hz0, hz1, hz2⟩ := info_parts col_info
  have ha0 := ha; have hb0 := hb; have ho0 := ho
  obtain ⟨A1, c1, rfl, -⟩ := ha.is
  obtain ⟨A2, c2, rfl, -⟩ := hb.is
  obtain ⟨A3, c3, rfl, -⟩ := ho.is
  clear ha hb ho
  obtain ⟨Y, hY⟩ : ∃ Y, Y = colsJ a b on kind := ⟨_, rfl⟩
  rw [← hY] at HR
  unfold colsJ at hY
  obtain ⟨wd, hwd⟩ : ∃ wd, wd = wideB kind := ⟨_, rfl⟩
  rw [← hwd] at hY
  have HY := Lib.hid hY; have HWD := Lib.hid hwd
  clear hY hwd
  go_enter Tryd.func74, Tryd.ntmps74
  go_wp2_with fail
  refine (cloneC_any _ a _ ha0 hla).mono ?_
  rintro e w1 ⟨o, rfl, ho1, b1⟩
  go_wp2_with fail
  refine (wide_any kind _).mono ?_
  rintro e w2 ⟨rfl, rfl⟩
  rw [← HWD.out]
  cases wd
  · have hy : Y = a := by rw [HY.out, if_neg (by simp), List.append_nil]
    subst hy
    go_wp2
    exact HR.out _ _ ⟨_, rfl, ho1, b1⟩
  · have hy := HY.out
    rw [if_pos rfl] at hy
    have HY2 := Lib.hid hy
    clear hy HY
    obtain ⟨w9, rfl⟩ : ∃ w9 : World, w9 = w2 := ⟨_, rfl⟩
    go_wp2_with fail
    refine (others_any _ _ b on _ (RdF.next hb0 b1) (RdF.next ho0 b1) hlb).mono ?_
    rintro e w5 ⟨p5, rfl, ho5, b5⟩
    have bw5 := b1.trans (b5.mono b1.size)
    have ho6 := RdI.of_own ho5
    have ho15 := ho1.below b5 (Nat.le_refl _)
    obtain ⟨L, hL⟩ : ∃ L, L = othF on 0 b := ⟨_, rfl⟩
    rw [← hL] at ho6
    have hlm : ∀ p ∈ L, 0 ≤ p ∧ p < b.length := fun p hp => by
      rw [hL] at hp
      have := othF_mem on b 0 p hp
      omega
    have hmap : L.map (fun i => nullC kind (b.getD i.toNat col0)) = (b.filter fun c => !rightB on c.name).map (nullC kind) := by
      rw [hL]
      exact oth_map on (nullC kind) b 0 b (fun k => by rw [Nat.zero_add])
    have hLl : L.length ≤ 100000 := by rw [hL]; have := othF_len on b 0; omega
    have hap : Apart o p5 := fun g h1 h2 => by
      have := (ho1.lt g h1).2
      have := (ho5.lt g h2).1
      omega
    have ho5n : Own w5 w.heap.size 3 1 p5 L.length (intV L) := by rw [hL]; exact ho5.mono b1.size
    obtain ⟨oA, oc, rfl, -⟩ := ho6.is
    have HLM := Lib.hid hlm; have HMAP := Lib.hid hmap
    obtain ⟨t2, ht2⟩ : ∃ t, t = decide (kind = 2) := ⟨_, rfl⟩
    have d2 : (kind == 2) = t2 := by rw [ht2, Bool.eq_iff_iff]; simp
    have HT2 := Lib.hid ht2
    clear hL hlm hmap ho5 ht2
    go_wp2
    go_loopw [9, 21] (fun o i wr => ∃ k : Nat, k ≤ L.length ∧ i = .int .i64 k ∧ Own wr w.heap.size 99 3 o (a.length + k) ((a ++ (L.take k).map (fun i => nullC kind (b.getD i.toNat col0))).flatMap colV) ∧ Below w.heap.size w wr ∧ Own wr w.heap.size 3 1 (.slice oA L.length oc) L.length (intV L) ∧ Apart o (.slice oA L.length oc)) (fun _ i _ => L.length - (intOf i).toNat)
    case atStart => exact ⟨0, Nat.zero_le _, rfl, by simpa using ho15, bw5, ho5n, hap⟩
    case round =>
      obtain ⟨m, hm, rfl, hO, hB6, hI, hA6⟩ := hrel
      by_cases hltm : m < L.length
      · obtain ⟨p, c7, hv, hcm⟩ := (RdI.of_own hI).at hltm
        injection hv with hA hln hcc
        subst hA
        subst hcc
        clear hln
        obtain ⟨hp0, hp1⟩ := HLM.out _ (List.getElem_mem hltm)
        have hs3 := List.take_succ_eq_append_getElem hltm
        obtain ⟨x, hx⟩ : ∃ x, x = L[m] := ⟨_, rfl⟩
        rw [← hx] at hcm hp0 hp1 hs3
        obtain ⟨q, rfl⟩ := Int.eq_ofNat_of_zero_le hp0
        have hq : q < b.length := by omega
        obtain ⟨p8, c8, hv8, q0, q1, q2⟩ := RdC.at (RdF.next hb0 hB6) hq
        injection hv8 with hA hln hcc
        subst hA
        subst hcc
        clear hln
        have hget : b.getD ((q : Int)).toNat col0 = b[q] := by rw [Int.toNat_natCast, List.getD_eq_getElem?_getD, List.getElem?_eq_getElem hq]; rfl
        obtain ⟨y, hy⟩ : ∃ y, y = b[q] := ⟨_, rfl⟩
        rw [← hy] at q0 q1 q2 hget
        have hs4 : a ++ (L.take (m + 1)).map (fun i => nullC kind (b.getD i.toNat col0)) = (a ++ (L.take m).map (fun i => nullC kind (b.getD i.toNat col0))) ++ [nullC kind y] := by
          rw [hs3, List.map_append, List.append_assoc, List.map_cons, List.map_nil, hget]
        obtain ⟨M, hM⟩ : ∃ M, M = a ++ (L.take m).map (fun i => nullC kind (b.getD i.toNat col0)) := ⟨_, rfl⟩
        rw [← hM] at hs4 hO
        obtain ⟨ys, yk, yb⟩ := y
        dsimp only at q0 q1 q2
        have hs5 : nullC kind ⟨ys, yk, yb⟩ = ⟨ys, yk, yb || t2⟩ := by unfold nullC; rw [HT2.out]
        rw [hs5] at hs4
        have S4 := Lib.hid hs4
        have dm : decide ((m : Int) < L.length) = true := decide_eq_true (by omega)
        have hqI : (q : Int) < b.length := hp1
        have hlt := hO.lt
        have HLT := Lib.hid hlt
        clear hx hs3 hget hy hp0 hp1 hs4 hs5 hM hlt
        obtain ⟨nb, hnb⟩ : ∃ nb, nb = (yb || t2) := ⟨_, rfl⟩
        have hOw : Own (wr.alloc (.cells #[.string ys, .int .i64 yk, .bool nb] 99)) w.heap.size 99 3 u9 (a.length + m) (M.flatMap colV) := hO.below ((Below.refl wr.heap.size wr).alloc (Nat.le_refl _) _) (Nat.le_refl _)
        have hB7 := hB6.alloc hB6.size (.cells #[.string ys, .int .i64 yk, .bool nb] 99)
        have hIw : Own (wr.alloc (.cells #[.string ys, .int .i64 yk, .bool nb] 99)) w.heap.size 3 1 (.slice (some p) L.length oc) L.length (intV L) := hI.below ((Below.refl wr.heap.size wr).alloc (Nat.le_refl _) _) (Nat.le_refl _)
        have hIlt := hI.lt
        have hon : ∀ u ∈ (#[.string ys, .int .i64 yk, .bool nb] : Array Value).toList, u.oneCell' = true := colF_one [⟨ys, yk, nb⟩]
        have HON := Lib.hid hon; have HOW := Lib.hid hOw; have HB7 := Lib.hid hB7; have HIW := Lib.hid hIw; have HIL := Lib.hid hIlt; have HA6 := Lib.hid hA6
        have hfin : (a ++ (L.take (m + 1)).map (fun i => nullC kind (b.getD i.toNat col0))).flatMap colV = M.flatMap colV ++ (#[.string ys, .int .i64 yk, .bool nb] : Array Value).toList := by rw [S4.out, ← hnb]; simp [colV]
        have HFIN := Lib.hid hfin
        clear hon hOw hB7 hfin hO hIw hIlt hI hA6
        cases yb <;> cases t2
        all_goals
          have hnb2 := hnb
          simp only [Bool.or_false, Bool.or_true, Bool.true_or, Bool.false_or] at hnb2
          subst hnb2
          clear hnb
          go_wp2_with (at_builtin; refine wpList_pushF rfl _ _ _ rfl w.heap.size 99 i0 _ 3 32 Tryd.underlying22 hi0 hz0 hz1 hz2 rfl (by omega) (by omega) u9 (a.length + m) _ _ rfl rfl HOW.out (by simp [Act.eval]) HON.out (by omega) HB7.out.size ?_; intro v9 w9' hown9 hg9 hat9)
          exact ⟨⟨m + 1, by omega, by go_num, by rw [HFIN.out]; exact hown9, below_grown HB7.out hg9 (fun g hg => (HLT.out g hg).1) HB7.out.size, HIW.out.kept hg9 (own_ne HA6.out), apart_push HA6.out (fun g hg => by rw [hsz]; exact Nat.lt_succ_of_lt (HIL.out g hg).2) hat9⟩, by simp [intOf]; omega⟩
      · obtain rfl : m = L.length := by omega
        have hfin : a ++ (L.take L.length).map (fun i => nullC kind (b.getD i.toNat col0)) = Y := by rw [List.take_length, HMAP.out, HY2.out]
        have hfl : a.length + L.length = Y.length := by rw [← hfin, List.length_append, List.length_map, List.take_length]
        rw [hfin, hfl] at hO
        clear hltm hfin hfl
        go_wp2
        exact HR.out _ _ ⟨_, rfl, hO, hB6⟩
theorem jColumns_any (va vb vo : Value) (a b : List Col) (on : List OnP) (kind : Int) (w : World) (ha : RdC w w.heap.size va a) (hb : RdC w w.heap.size vb b) (ho : RdOn w w.heap.size vo on) (hla : a.length ≤ 100000) (hlb : b.length ≤ 100000) (hlo : on.length ≤ 100000)
    (hca : ∀ c ∈ a, c.name.size ≤ 100000) (hcb : ∀ c ∈ b, c.name.size ≤ 100000) (hT : Tab w) :
    Calls Tryd.prog 38 #[va, vb, vo, .int .i64 kind] w fun e w' => (∃ o, e = .returned (.tuple #[o, .int .i64 (jchk a b on kind).2]) ∧ RdC w' w'.heap.size o (if (jchk a b on kind).2 = 0 then colsJ a b on kind else [])) ∧ Below w.heap.size w w' := by
  refine cps fun R HR => ?_
  obtain ⟨Y, hY⟩ : ∃ Y, Y = jchk a b on kind := ⟨_, rfl⟩
  rw [← hY] at HR
  have HY := Lib.hid hY
  clear hY
  obtain ⟨y1, y2⟩ := Y
  go_enter Tryd.func38, Tryd.ntmps38
  go_wp2_with fail
  refine (jcheck_any _ _ _ a b on kind _ ha hb ho hla hlb hlo hca hcb hT).mono ?_
  rintro e w1 ⟨rfl, b1⟩
  rw [← HY.out]
  by_cases hz : y2 = 0
  · subst hz
    go_wp2_with fail
    refine (jcolumns_any _ _ _ a b on kind _ (RdF.next ha b1) (RdF.next hb b1) (RdF.next ho b1) hla hlb).mono ?_
    rintro e w2 ⟨o, rfl, ho2, b2⟩
    have hrd := RdF.of_own colV_len (by omega) ho2
    go_wp2
    exact HR.out _ _ ⟨⟨_, rfl, by rw [if_pos trivial]; exact hrd⟩, b1.trans (b2.mono b1.size)⟩
  · have dz : ((y2 : Int) != 0) = true := by rw [bne_iff_ne]; omega
    have hn : (if y2 = 0 then colsJ a b on kind else []) = ([] : List Col) := if_neg hz
    have HN := Lib.hid hn
    clear hn hz
    go_wp2
    exact HR.out _ _ ⟨⟨_, rfl, by rw [HN.out]; exact RdF.nil _ _⟩, b1⟩
end Go.Proofs.YtgiemhooeoakmaaDoor


/- Layer 22: keys; the closures handed to slices. Layer 22: Check. Layer 22: the order of rows by keys; the closure that by hands out. Layer 22: by. Layer 22: the insertion sort of slices, at the closure of by. Layer 22: Sort. Layer 22: order.Sort, order.Compare. Layer 22: the document's example. Layer 22, the law: is a case short? How a case is opened. -/
import Derived.BigRegion
import Derived.Test.YtgiemhooeoakmaaDoorKA
import Derived.Test.YtgiemhooeoakmaaDoorKC
import Derived.Test.YtgiemhooeoakmaaDoorKD
import Derived.Test.YtgiemhooeoakmaaDoorKF
import Derived.Test.YtgiemhooeoakmaaDoorKG
import Derived.Test.YtgiemhooeoakmaaDoorKI
import Derived.Test.YtgiemhooeoakmaaDoorKM0
import Derived.Test.YtgiemhooeoakmaaDoorKH
import Derived.Test.YtgiemhooeoakmaaDoorKE
namespace Go.Proofs.YtgiemhooeoakmaaDoor
open Go.RowKit Go.ChangeShapes Go.WideShapes
set_option linter.unusedVariables false
set_option linter.unusedSimpArgs false

structure KeyP where
  col : ByteArray
  down : Bool
def keyV (o : KeyP) : List Value := [.string o.col, .bool o.down]
theorem keyV_len (o : KeyP) : (keyV o).length = 2 := rfl
def rkeyV (o : KeyP) : List Value := [.string o.col, .int .i64 (nullI o.down)]
theorem rkeyV_len (o : KeyP) : (rkeyV o).length = 2 := rfl
abbrev RdKey (w : World) (B : Nat) (v : Value) (l : List KeyP) : Prop := RdF keyV 2 w B v l
abbrev RdRKey (w : World) (B : Nat) (v : Value) (l : List KeyP) : Prop := RdF rkeyV 2 w B v l
theorem RdKey.at {w : World} {B : Nat} {v : Value} {l : List KeyP} (h : RdKey w B v l) {k : Nat} (hk : k < l.length) : ∃ a c, v = .slice (some a) l.length c ∧ w.cell? (a.add (k * 2)) = some (.string l[k].col) ∧
    w.cell? ⟨(a.add (k * 2)).block, (a.add (k * 2)).off + 1, none⟩ = some (.bool l[k].down) := by
  obtain ⟨a, c, rfl, h0⟩ := RdF.at0 h keyV_len (by omega) hk
  exact ⟨a, c, rfl, h0 _ rfl, RdF.atj h keyV_len hk 0 rfl⟩
theorem RdRKey.at {w : World} {B : Nat} {v : Value} {l : List KeyP} (h : RdRKey w B v l) {k : Nat} (hk : k < l.length) : ∃ a c, v = .slice (some a) l.length c ∧ w.cell? (a.add (k * 2)) = some (.string l[k].col) ∧
    w.cell? ⟨(a.add (k * 2)).block, (a.add (k * 2)).off + 1, none⟩ = some (.int .i64 (nullI l[k].down)) := by
  obtain ⟨a, c, rfl, h0⟩ := RdF.at0 h rkeyV_len (by omega) hk
  exact ⟨a, c, rfl, h0 _ rfl, RdF.atj h rkeyV_len hk 0 rfl⟩
theorem key_one (o : KeyP) : ∀ u ∈ keyV o, u.oneCell' = true := by
  intro u hu
  simp [keyV] at hu
  rcases hu with rfl | rfl <;> rfl
theorem rkey_one (o : KeyP) : ∀ u ∈ rkeyV o, u.oneCell' = true := by
  intro u hu
  simp [rkeyV] at hu
  rcases hu with rfl | rfl <;> rfl
set_option maxHeartbeats 1000000 in
theorem idxCk_any (v c0_ : Value) (l : List KeyP) (pr : KeyP → Bool) (w : World) (h : RdKey w w.heap.size v l)
    (hp : ∀ x ∈ l, ∀ wk, Below w.heap.size w wk → Calls Tryd.prog 89 #[.agg #[.string x.col, .bool x.down], c0_] wk fun e w' => e = .returned (.bool (pr x)) ∧ Below wk.heap.size wk w') :
    Calls Tryd.prog 118 #[v, .func (.func 89) #[] #[c0_]] w fun e w' => e = .returned (.int .i64 (idxP pr 0 l)) ∧ Below w.heap.size w w' := by
  refine cps fun R HR => ?_
  have h0 := h
  obtain ⟨A, c, rfl, -⟩ := h.is
  have hfew := RdF.few h0
  have HP := Lib.hid hp
  clear h hp
  go_enter Tryd.func118, Tryd.ntmps118
  go_wp2
  go_loopw [8] (fun i wr => ∃ k : Nat, k ≤ l.length ∧ i = .int .i64 k ∧ idxP pr k (l.drop k) = idxP pr 0 l ∧ Below w.heap.size w wr) (fun i _ => l.length - (intOf i).toNat)
  case atStart => exact ⟨0, Nat.zero_le _, rfl, rfl, Below.refl _ _⟩
  case round =>
    obtain ⟨k, hk, rfl, hN, hB⟩ := hrel
    have HN := Lib.hid hN; clear hN
    by_cases hlt : k < l.length
    · obtain ⟨p, c3, hv, q0, q1⟩ := RdKey.at (h0.below hB) hlt
      injection hv with hA _ hcc
      subst hA
      subst hcc
      have hd : l.drop k = l[k] :: l.drop (k + 1) := List.drop_eq_getElem_cons hlt
      have hm : l[k] ∈ l := List.getElem_mem hlt
      obtain ⟨x, hx⟩ : ∃ x, x = l[k] := ⟨_, rfl⟩
      rw [← hx] at q0 q1 hd hm
      have HD := Lib.hid hd; have HM := Lib.hid hm
      clear hx hd hm
      have dk : decide ((k : Int) < l.length) = true := decide_eq_true (by omega)
      go_wp2_with fail
      refine (HP.out x HM.out _ hB).mono ?_
      rintro e w1 ⟨rfl, b1⟩
      have hB1 := hB.trans (b1.mono hB.size)
      obtain ⟨kb, hkb2⟩ : ∃ kb, kb = pr x := ⟨_, rfl⟩
      rw [← hkb2]
      have HKB := Lib.hid hkb2
      clear hkb2
      cases kb
      · have HV := Lib.hid (show idxP pr (k + 1) (l.drop (k + 1)) = idxP pr 0 l by rw [← HN.out, HD.out, idxP, ← HKB.out, if_neg (by simp)])
        go_wp2
        exact ⟨⟨k + 1, by omega, by go_num, HV.out, hB1⟩, by simp [intOf]; omega⟩
      · have HV := Lib.hid (show idxP pr 0 l = k by rw [← HN.out, HD.out, idxP, ← HKB.out, if_pos rfl])
        go_wp2
        exact HR.out _ _ ⟨by rw [HV.out]; try rfl, hB1⟩
    · have hd : l.drop k = [] := List.drop_of_length_le (by omega)
      have HV := Lib.hid (show idxP pr 0 l = -1 by rw [← HN.out, hd, idxP])
      clear hd
      go_wp2
      exact HR.out _ _ ⟨by rw [HV.out]; try rfl, hB⟩
theorem anyCk_any (v c0_ : Value) (l : List KeyP) (pr : KeyP → Bool) (w : World) (h : RdKey w w.heap.size v l)
    (hp : ∀ x ∈ l, ∀ wk, Below w.heap.size w wk → Calls Tryd.prog 89 #[.agg #[.string x.col, .bool x.down], c0_] wk fun e w' => e = .returned (.bool (pr x)) ∧ Below wk.heap.size wk w') :
    Calls Tryd.prog 88 #[v, .func (.func 89) #[] #[c0_]] w fun e w' => e = .returned (.bool (l.any pr)) ∧ Below w.heap.size w w' := by
  refine cps fun R HR => ?_
  rw [← idxP_any pr l 0] at HR
  obtain ⟨n, hn⟩ : ∃ n, n = idxP pr 0 l := ⟨_, rfl⟩
  rw [← hn] at HR
  have HN := Lib.hid hn; have HP := Lib.hid hp
  clear hn hp
  go_enter Tryd.func88, Tryd.ntmps88
  go_wp2_with fail
  refine (idxCk_any v c0_ l pr _ h HP.out).mono ?_
  rintro e w1 ⟨rfl, b1⟩
  rw [← HN.out]
  go_wp2
  exact HR.out _ _ ⟨rfl, b1⟩
set_option maxHeartbeats 1000000 in
theorem idxBy_any (v c0_ : Value) (l : List VRow) (pr : VRow → Bool) (w : World) (h : RdVT w w.heap.size v l)
    (hp : ∀ x ∈ l, ∀ wk u, Below w.heap.size w wk → RdV wk wk.heap.size u x → Calls Tryd.prog 119 #[u, c0_] wk fun e w' => e = .returned (.bool (pr x)) ∧ Below wk.heap.size wk w') :
    Calls Tryd.prog 100 #[v, .func (.func 119) #[] #[c0_]] w fun e w' => e = .returned (.int .i64 (idxP pr 0 l)) ∧ Below w.heap.size w w' := by
  refine cps fun R HR => ?_
  have h0 := h
  obtain ⟨A, c, vs, rfl, -, -⟩ := h.is
  have hfew := h0.few
  have HP := Lib.hid hp
  clear h hp
  go_enter Tryd.func100, Tryd.ntmps100
  go_wp2
  go_loopw [8] (fun i wr => ∃ k : Nat, k ≤ l.length ∧ i = .int .i64 k ∧ idxP pr k (l.drop k) = idxP pr 0 l ∧ Below w.heap.size w wr) (fun i _ => l.length - (intOf i).toNat)
  case atStart => exact ⟨0, Nat.zero_le _, rfl, rfl, Below.refl _ _⟩
  case round =>
    obtain ⟨k, hk, rfl, hN, hB⟩ := hrel
    have HN := Lib.hid hN; clear hN
    by_cases hlt : k < l.length
    · obtain ⟨p, c3, u, hv, q0, q1⟩ := (RdE.next (RdF.stays valV 4) h0 hB).at hlt
      injection hv with hA _ hcc
      subst hA
      subst hcc
      have hd : l.drop k = l[k] :: l.drop (k + 1) := List.drop_eq_getElem_cons hlt
      have hm : l[k] ∈ l := List.getElem_mem hlt
      obtain ⟨x, hx⟩ : ∃ x, x = l[k] := ⟨_, rfl⟩
      rw [← hx] at q1 hd hm
      have HD := Lib.hid hd; have HM := Lib.hid hm
      clear hx hd hm
      have dk : decide ((k : Int) < l.length) = true := decide_eq_true (by omega)
      go_wp2_with fail
      refine (HP.out x HM.out _ _ hB q1).mono ?_
      rintro e w1 ⟨rfl, b1⟩
      have hB1 := hB.trans (b1.mono hB.size)
      obtain ⟨kb, hkb2⟩ : ∃ kb, kb = pr x := ⟨_, rfl⟩
      rw [← hkb2]
      have HKB := Lib.hid hkb2
      clear hkb2
      cases kb
      · have HV := Lib.hid (show idxP pr (k + 1) (l.drop (k + 1)) = idxP pr 0 l by rw [← HN.out, HD.out, idxP, ← HKB.out, if_neg (by simp)])
        go_wp2
        exact ⟨⟨k + 1, by omega, by go_num, HV.out, hB1⟩, by simp [intOf]; omega⟩
      · have HV := Lib.hid (show idxP pr 0 l = k by rw [← HN.out, HD.out, idxP, ← HKB.out, if_pos rfl])
        go_wp2
        exact HR.out _ _ ⟨by rw [HV.out]; try rfl, hB1⟩
    · have hd : l.drop k = [] := List.drop_of_length_le (by omega)
      have HV := Lib.hid (show idxP pr 0 l = -1 by rw [← HN.out, hd, idxP])
      clear hd
      go_wp2
      exact HR.out _ _ ⟨by rw [HV.out]; try rfl, hB⟩
theorem anyBy_any (v c0_ : Value) (l : List VRow) (pr : VRow → Bool) (w : World) (h : RdVT w w.heap.size v l)
    (hp : ∀ x ∈ l, ∀ wk u, Below w.heap.size w wk → RdV wk wk.heap.size u x → Calls Tryd.prog 119 #[u, c0_] wk fun e w' => e = .returned (.bool (pr x)) ∧ Below wk.heap.size wk w') :
    Calls Tryd.prog 94 #[v, .func (.func 119) #[] #[c0_]] w fun e w' => e = .returned (.bool (l.any pr)) ∧ Below w.heap.size w w' := by
  refine cps fun R HR => ?_
  rw [← idxP_any pr l 0] at HR
  obtain ⟨n, hn⟩ : ∃ n, n = idxP pr 0 l := ⟨_, rfl⟩
  rw [← hn] at HR
  have HN := Lib.hid hn; have HP := Lib.hid hp
  clear hn hp
  go_enter Tryd.func94, Tryd.ntmps94
  go_wp2_with fail
  refine (idxBy_any v c0_ l pr _ h HP.out).mono ?_
  rintro e w1 ⟨rfl, b1⟩
  rw [← HN.out]
  go_wp2
  exact HR.out _ _ ⟨rfl, b1⟩
theorem check1_any (p : KeyP) (s : ByteArray) (g : Nat) (w : World) (h0 : w.cell? ⟨g, 0, none⟩ = some (.string s)) :
    Calls Tryd.prog 89 #[.agg #[.string p.col, .bool p.down], .pointer (some ⟨g, 0, none⟩)] w fun e w' => e = .returned (.bool (decide (p.col = s))) ∧ Below w.heap.size w w' := by
  refine cps fun R HR => ?_
  obtain ⟨pl, pr⟩ := p
  dsimp only at HR
  have hg := World.block_lt_of_cell? w _ h0
  have bw := (Below.refl w.heap.size w).alloc (Nat.le_refl _) (.cells #[.string pl, .bool pr] 146)
  have d2 : (pl.toList == s.toList) = decide (pl = s) := str_eq _ _
  obtain ⟨t2, ht2⟩ : ∃ t, t = decide (pl = s) := ⟨_, rfl⟩
  rw [← ht2] at d2 HR
  clear ht2
  go_enter Tryd.func89, Tryd.ntmps89
  go_wp2
  exact HR.out _ _ ⟨rfl, bw⟩
theorem by1_any (g : Nat) (A : Option Addr) (n c : Nat) (v : Value) (r : VRow) (w : World) (h0 : w.cell? ⟨g, 0, none⟩ = some (.slice A n c)) (hr : RdV w w.heap.size v r) :
    Calls Tryd.prog 119 #[v, .pointer (some ⟨g, 0, none⟩)] w fun e w' => e = .returned (.bool (!decide (r.length = n))) ∧ Below w.heap.size w w' := by
  refine cps fun R HR => ?_
  obtain ⟨A2, c2, rfl, -⟩ := hr.is
  have d : ((r.length : Int) != n) = !decide (r.length = n) := by rw [Bool.eq_iff_iff]; simp only [bne_iff_ne, Bool.not_eq_true', decide_eq_false_iff_not]; omega
  obtain ⟨t, ht⟩ : ∃ t, t = decide (r.length = n) := ⟨_, rfl⟩
  rw [← ht] at d HR
  clear ht
  go_enter Tryd.func119, Tryd.ntmps119
  go_wp2
  exact HR.out _ _ ⟨rfl, Below.refl _ _⟩
end Go.Proofs.YtgiemhooeoakmaaDoor

namespace Go.Proofs.YtgiemhooeoakmaaDoor
open Go.RowKit Go.ChangeShapes Go.WideShapes
set_option linter.unusedVariables false
set_option linter.unusedSimpArgs false

def keyF (l : List Col) (ks : List KeyP) : Nat → List KeyP → Nat × Nat
  | j, [] => (j, 0)
  | j, k :: r => if k.col ∈ namesC l then (if ((ks.take j).any fun p => decide (p.col = k.col)) = true then (j, 15) else keyF l ks (j + 1) r) else (j, 16)
def kchk (l : List Col) (ks : List KeyP) : Nat × Nat := if (chkC l).2 ≠ 0 then (0, (chkC l).2) else keyF l ks 0 ks
set_option maxHeartbeats 4000000 in
set_option maxRecDepth 100000 in
theorem ocheck_any (vk vl : Value) (ks : List KeyP) (l : List Col) (w : World) (hk : RdKey w w.heap.size vk ks) (hl : RdC w w.heap.size vl l) (hll : l.length ≤ 100000) (hca : ∀ c ∈ l, c.name.size ≤ 100000) (hT : Tab w) :
    Calls Tryd.prog 43 #[vk, vl] w fun e w' => e = .returned (.tuple #[.int .i64 (kchk l ks).1, .int .i64 (kchk l ks).2]) ∧ Below w.heap.size w w' := by
  refine cps fun R HR => ?_
  have hk0 := hk; have hl0 := hl
  obtain ⟨A1, c1, rfl, -⟩ := hk.is
  obtain ⟨A2, c2, rfl, -⟩ := hl.is
  clear hk hl
  have hcap := RdF.cap hk0
  have hfk := RdF.few hk0
  obtain ⟨Y, hY⟩ : ∃ Y, Y = kchk l ks := ⟨_, rfl⟩
  rw [← hY] at HR
  unfold kchk at hY
  obtain ⟨ca, hca2⟩ : ∃ n, n = chkC l := ⟨_, rfl⟩
  rw [← hca2] at hY
  have HY := Lib.hid hY; have HCA := Lib.hid hca2
  clear hY hca2
  go_enter Tryd.func43, Tryd.ntmps43
  go_wp2_with fail
  refine (schCheck_any _ l _ hl0 hll hca hT).mono ?_
  rintro e w3 ⟨rfl, b3⟩
  rw [← HCA.out]
  obtain ⟨ca1, ca2⟩ := ca
  by_cases h0 : ca2 = 0
  · subst h0
    have hy := HY.out
    rw [if_neg (by simp)] at hy
    have HP := Lib.hid hy
    clear hy HY
    go_wp2
    obtain ⟨w4, rfl⟩ : ∃ w4 : World, w4 = w3 := ⟨_, rfl⟩
    go_loopw [23] (fun i wr => ∃ k : Nat, k ≤ ks.length ∧ i = .int .i64 k ∧ keyF l ks k (ks.drop k) = Y ∧ Below w4.heap.size w4 wr) (fun i _ => ks.length - (intOf i).toNat)
    case atStart => exact ⟨0, Nat.zero_le _, rfl, HP.out.symm, Below.refl _ _⟩
    case round =>
      obtain ⟨k, hk, rfl, hN, hB⟩ := hrel
      have HN := Lib.hid hN
      have bw := b3.trans (hB.mono b3.size)
      clear hN
      by_cases hlt : k < ks.length
      · obtain ⟨p, c6, hv, q0, q1⟩ := RdKey.at (RdF.next hk0 bw) hlt
        injection hv with hA hln hcc
        subst hA
        subst hcc
        clear hln
        have hs2 : ks.drop k = ks[k] :: ks.drop (k + 1) := List.drop_eq_getElem_cons hlt
        obtain ⟨x, hx⟩ : ∃ x, x = ks[k] := ⟨_, rfl⟩
        rw [← hx] at q0 q1 hs2
        obtain ⟨xc, xd⟩ := x
        dsimp only at q0 q1
        obtain ⟨tt, htt⟩ : ∃ t, t = ((ks.take k).any fun p => decide (p.col = xc)) := ⟨_, rfl⟩
        have hn0 : xc ∉ namesC l → Y = (k, 16) := fun h => by
          have h2 := HN.out
          rw [hs2, keyF, if_neg h] at h2
          exact h2.symm
        have hn1 : xc ∈ namesC l → tt = true → Y = (k, 15) := fun h ht => by
          have h2 := HN.out
          rw [hs2, keyF, if_pos h] at h2
          dsimp only at h2
          rw [← htt, if_pos ht] at h2
          exact h2.symm
        have hn2 : xc ∈ namesC l → tt = false → keyF l ks (k + 1) (ks.drop (k + 1)) = Y := fun h ht => by
          have h2 := HN.out
          rw [hs2, keyF, if_pos h] at h2
          dsimp only at h2
          rw [← htt, if_neg (by rw [ht]; simp)] at h2
          exact h2
        have HN0 := Lib.hid hn0; have HN1 := Lib.hid hn1; have HN2 := Lib.hid hn2; have HTT := Lib.hid htt
        obtain ⟨ws, hws⟩ : ∃ ws, ws = wr.alloc (.cells #[.string xc, .bool xd] 146) := ⟨_, rfl⟩
        have bws : Below wr.heap.size wr ws := by rw [hws]; exact (Below.refl _ _).alloc (Nat.le_refl _) _
        have Z := Box.new wr 146 #[.string xc, .bool xd]
        rw [← hws] at Z
        have z0 := Z.cell 0
        simp at z0
        have bww := bw.trans (bws.mono bw.size)
        have hBs := hB.trans (bws.mono hB.size)
        obtain ⟨tb, htb⟩ : ∃ t, t = decide (xc ∈ namesC l) := ⟨_, rfl⟩
        obtain ⟨fc, hfc⟩ : ∃ f, f = findC l xc := ⟨_, rfl⟩
        have HWS := Lib.hid hws; have HZ := Lib.hid Z; have HTB := Lib.hid htb; have HFC := Lib.hid hfc
        have dk : decide ((k : Int) < ks.length) = true := decide_eq_true (by omega)
        have hkc : k ≤ c1 := by omega
        clear hx hs2 hn0 hn1 hn2 htt hws Z htb hfc
        go_wp2_with fail
        rw [← HWS.out]
        refine (find_any _ l xc _ (RdF.next hl0 bww)).mono ?_
        rintro e w5 ⟨rfl, b5⟩
        rw [← HFC.out, ← HTB.out]
        obtain ⟨fn, fk, fu⟩ := fc
        dsimp only
        have bw5 := bww.trans (b5.mono bww.size)
        have hB5 := hBs.trans (b5.mono hBs.size)
        have b6 := b5.alloc b5.size (.cells #[.string fn, .int .i64 fk, .bool fu] 99)
        have bw6 := bww.trans (b6.mono bww.size)
        have hB6 := hBs.trans (b6.mono hBs.size)
        have Z6 := HZ.out.below b6 HZ.out.lt
        cases tb
        · have hy := HN0.out (of_decide_eq_false HTB.out.symm)
          subst hy
          clear z0
          go_wp2
          exact HR.out _ _ ⟨rfl, bw6⟩
        · have hmem := of_decide_eq_true HTB.out.symm
          have HM := Lib.hid hmem; have HZ6 := Lib.hid Z6
          clear hmem Z6 z0
          go_wp2_with fail
          refine (anyCk_any _ _ (ks.take k) (fun p => decide (p.col = xc)) _ (RdF.next (RdF.take hk0 keyV_len (by omega)) bw6) (fun p hp wk hk => check1_any p xc wr.heap.size wk ((HZ6.out.below hk HZ6.out.lt).cell 0))).mono ?_
          rintro e w7 ⟨rfl, b7⟩
          rw [← HTT.out]
          have bw7 := bw6.trans (b7.mono bw6.size)
          have hB7 := hB6.trans (b7.mono hB6.size)
          cases tt
          · have HNN := Lib.hid (HN2.out HM.out rfl)
            go_wp2
            exact ⟨⟨k + 1, by omega, by go_num, HNN.out, hB7⟩, by simp [intOf]; omega⟩
          · have hy := HN1.out HM.out rfl
            subst hy
            go_wp2
            exact HR.out _ _ ⟨rfl, bw7⟩
      · obtain rfl : k = ks.length := by omega
        have hy : Y = (ks.length, 0) := by rw [← HN.out, List.drop_length, keyF]
        subst hy
        clear hlt
        go_wp2
        exact HR.out _ _ ⟨rfl, bw⟩
  · have dne : ((ca2 : Int) != 0) = true := by rw [bne_iff_ne]; omega
    have hy := HY.out
    rw [if_pos (by simpa using h0)] at hy
    subst hy
    clear h0
    go_wp2
    exact HR.out _ _ ⟨rfl, b3⟩
end Go.Proofs.YtgiemhooeoakmaaDoor

namespace Go.Proofs.YtgiemhooeoakmaaDoor
open Go.RowKit Go.ChangeShapes Go.WideShapes
set_option linter.unusedVariables false
set_option linter.unusedSimpArgs false

theorem compareBytes_small : ∀ a b : List UInt8, Lib.compareBytes a b = -1 ∨ Lib.compareBytes a b = 0 ∨ Lib.compareBytes a b = 1
  | [], [] => by simp [Lib.compareBytes]
  | [], _ :: _ => by simp [Lib.compareBytes]
  | _ :: _, [] => by simp [Lib.compareBytes]
  | x :: a, y :: b => by
    unfold Lib.compareBytes
    split
    · simp
    · split
      · simp
      · exact compareBytes_small a b
theorem cmpV_small (a b : Val) : cmpV a b = -1 ∨ cmpV a b = 0 ∨ cmpV a b = 1 := by
  have hI : ∀ x y : Int, cmpI x y = -1 ∨ cmpI x y = 0 ∨ cmpI x y = 1 := fun x y => by
    unfold cmpI
    split
    · simp
    · split <;> simp
  have hS : cmpS a.s b.s = -1 ∨ cmpS a.s b.s = 0 ∨ cmpS a.s b.s = 1 := compareBytes_small _ _
  have hB : cmpB a.b b.b = -1 ∨ cmpB a.b b.b = 0 ∨ cmpB a.b b.b = 1 := by cases a.b <;> cases b.b <;> simp [cmpB]
  have h1 := hI a.kind b.kind
  have h2 := hI a.n b.n
  have key : ∀ l : List Int, (∀ x ∈ l, x = -1 ∨ x = 0 ∨ x = 1) → orI l = -1 ∨ orI l = 0 ∨ orI l = 1 := fun l => by
    induction l with
    | nil => intro _; simp [orI]
    | cons x r ih =>
      intro h
      unfold orI
      split
      · exact ih fun y hy => h y (List.mem_cons_of_mem _ hy)
      · exact h x List.mem_cons_self
  refine key _ fun x hx => ?_
  simp only [List.mem_cons, List.not_mem_nil, or_false] at hx
  rcases hx with rfl | rfl | rfl | rfl
  · exact h1
  · exact hS
  · exact h2
  · exact hB
/-- What one key says of two rows. -/
def key1 (l : List Col) (k : KeyP) (x y : VRow) : Int := if k.down = true then -cmpV (x.getD (atC (namesC l) k.col) val0) (y.getD (atC (namesC l) k.col) val0) else cmpV (x.getD (atC (namesC l) k.col) val0) (y.getD (atC (namesC l) k.col) val0)
/-- What keys say of two rows. -/
def cmpK (l : List Col) : List KeyP → VRow → VRow → Int
  | [], _, _ => 0
  | k :: r, x, y => if key1 l k x y = 0 then cmpK l r x y else key1 l k x y
set_option maxHeartbeats 8000000 in
set_option maxRecDepth 100000 in
theorem by2_any (gk gl : Nat) (vk vl vx vy : Value) (ks : List KeyP) (l : List Col) (x y : VRow) (w : World) (hgk : w.cell? ⟨gk, 0, none⟩ = some vk) (hgl : w.cell? ⟨gl, 0, none⟩ = some vl) (hk : RdKey w w.heap.size vk ks) (hl : RdC w w.heap.size vl l) (hx : RdV w w.heap.size vx x) (hy : RdV w w.heap.size vy y)
    (hm : ∀ k ∈ ks, k.col ∈ namesC l) (hxl : x.length = l.length) (hyl : y.length = l.length) :
    Calls Tryd.prog 120 #[vx, vy, .pointer (some ⟨gk, 0, none⟩), .pointer (some ⟨gl, 0, none⟩)] w fun e w' => e = .returned (.int .i64 (cmpK l ks x y)) ∧ Below w.heap.size w w' := by
  refine cps fun R HR => ?_
  have hk0 := hk; have hl0 := hl; have hx0 := hx; have hy0 := hy
  obtain ⟨A1, c1, rfl, -⟩ := hk.is
  obtain ⟨A2, c2, rfl, -⟩ := hl.is
  obtain ⟨A3, c3, rfl, -⟩ := hx.is
  obtain ⟨A4, c4, rfl, -⟩ := hy.is
  clear hk hl hx hy
  have hfk := RdF.few hk0
  have hgkb := World.block_lt_of_cell? w _ hgk
  have hglb := World.block_lt_of_cell? w _ hgl
  obtain ⟨Y, hY⟩ : ∃ Y, Y = cmpK l ks x y := ⟨_, rfl⟩
  rw [← hY] at HR
  have HY := Lib.hid hY; have HM := Lib.hid hm; have HXL := Lib.hid hxl; have HYL := Lib.hid hyl
  clear hY hm hxl hyl
  go_enter Tryd.func120, Tryd.ntmps120
  go_wp2
  go_loopw [15] (fun i wr => ∃ k : Nat, k ≤ ks.length ∧ i = .int .i64 k ∧ cmpK l (ks.drop k) x y = Y ∧ Below w.heap.size w wr) (fun i _ => ks.length - (intOf i).toNat)
  case atStart => exact ⟨0, Nat.zero_le _, rfl, HY.out.symm, Below.refl _ _⟩
  case round =>
    obtain ⟨k, hk, rfl, hN, hB⟩ := hrel
    have HN := Lib.hid hN
    clear hN
    by_cases hlt : k < ks.length
    · obtain ⟨p, c6, hv, q0, q1⟩ := RdKey.at (RdF.next hk0 hB) hlt
      injection hv with hA hln hcc
      subst hA
      subst hcc
      clear hln
      have hs2 : ks.drop k = ks[k] :: ks.drop (k + 1) := List.drop_eq_getElem_cons hlt
      have hmem := HM.out _ (List.getElem_mem hlt)
      obtain ⟨o, hoe⟩ : ∃ o, o = ks[k] := ⟨_, rfl⟩
      rw [← hoe] at q0 q1 hs2 hmem
      obtain ⟨xc, xd⟩ := o
      dsimp only at q0 q1 hmem
      obtain ⟨N, hN⟩ : ∃ N, N = key1 l ⟨xc, xd⟩ x y := ⟨_, rfl⟩
      have hn0 : N = 0 → cmpK l (ks.drop (k + 1)) x y = Y := fun h => by
        have h2 := HN.out
        rw [hs2, cmpK, ← hN, if_pos h] at h2
        exact h2
      have hn1 : N ≠ 0 → Y = N := fun h => by
        have h2 := HN.out
        rw [hs2, cmpK, ← hN, if_neg h] at h2
        exact h2.symm
      have hia := atC_lt hmem
      rw [namesC_len] at hia
      obtain ⟨ws, hws⟩ : ∃ ws, ws = wr.alloc (.cells #[.string xc, .bool xd] 146) := ⟨_, rfl⟩
      have bws : Below wr.heap.size wr ws := by rw [hws]; exact (Below.refl _ _).alloc (Nat.le_refl _) _
      have Z := Box.new wr 146 #[.string xc, .bool xd]
      rw [← hws] at Z
      have hBs := hB.trans (bws.mono hB.size)
      have y0 := (hBs.cell (p := ⟨gl, 0, none⟩) hglb).trans hgl
      have z0 := Z.cell 0
      simp at z0
      rw [hws] at y0
      have dm : decide (xc ∈ namesC l) = true := decide_eq_true hmem
      obtain ⟨fc, hfc⟩ : ∃ f, f = findC l xc := ⟨_, rfl⟩
      obtain ⟨na, hna⟩ : ∃ n, n = atC (namesC l) xc := ⟨_, rfl⟩
      rw [← hna] at hia
      have hix : na < x.length := by rw [HXL.out]; exact hia
      have hiy : na < y.length := by rw [HYL.out]; exact hia
      have hNN : N = if xd = true then -cmpV x[na] y[na] else cmpV x[na] y[na] := by rw [hN]; unfold key1; dsimp only; rw [← hna, getD_at hix, getD_at hiy]
      obtain ⟨ax, dx, hvx, e0, e1, e2, e3⟩ := RdV.at hx0 hix
      injection hvx with hA hln hcc
      subst hA
      subst hcc
      clear hln
      obtain ⟨ay, dy, hvy, f0, f1, f2, f3⟩ := RdV.at hy0 hiy
      injection hvy with hA hln hcc
      subst hA
      subst hcc
      clear hln
      obtain ⟨xx, hxx⟩ : ∃ z, z = x[na] := ⟨_, rfl⟩
      obtain ⟨yy, hyy⟩ : ∃ z, z = y[na] := ⟨_, rfl⟩
      rw [← hxx] at e0 e1 e2 e3
      rw [← hyy] at f0 f1 f2 f3
      rw [← hxx, ← hyy] at hNN
      have hsm := cmpV_small xx yy
      have dk : decide ((k : Int) < ks.length) = true := decide_eq_true (by omega)
      have iix : (na : Int) < x.length := by omega
      have iiy : (na : Int) < y.length := by omega
      have HN0 := Lib.hid hn0; have HN1 := Lib.hid hn1; have HWS := Lib.hid hws; have HFC := Lib.hid hfc; have HNA := Lib.hid hna; have HNN := Lib.hid hNN; have HDM := Lib.hid dm; have HSM := Lib.hid hsm; have HZ := Lib.hid Z
      clear hoe hs2 hN hn0 hn1 hws hfc hna hNN dm hsm Z hmem hia hix hiy hxx hyy
      obtain ⟨xk, xs, xn, xb⟩ := xx
      obtain ⟨yk, ys, yn, yb⟩ := yy
      dsimp only at e0 e1 e2 e3 f0 f1 f2 f3

      go_wp2_with fail
      rw [← HWS.out]
      refine (find_any _ l xc _ (RdF.next hl0 hBs)).mono ?_
      rintro e w5 ⟨rfl, b5⟩
      rw [← HFC.out, HDM.out, ← HNA.out]
      obtain ⟨fn, fk, fu⟩ := fc
      dsimp only
      have b6 := b5.alloc b5.size (.cells #[.string fn, .int .i64 fk, .bool fu] 99)
      have hB6 := hBs.trans (b6.mono hBs.size)
      have Z6 := HZ.out.below b6 HZ.out.lt
      obtain ⟨w6, hw6⟩ : ∃ w6, w6 = w5.alloc (.cells #[.string fn, .int .i64 fk, .bool fu] 99) := ⟨_, rfl⟩
      rw [← hw6] at Z6 hB6
      have mk : ∀ w', Below w6.heap.size w6 w' → w'.cell? (ax.add (na * 4)) = some (.int .i64 xk) ∧ w'.cell? ⟨(ax.add (na * 4)).block, (ax.add (na * 4)).off + 1, none⟩ = some (.string xs) ∧ w'.cell? ⟨(ax.add (na * 4)).block, (ax.add (na * 4)).off + 2, none⟩ = some (.int .i64 xn) ∧ w'.cell? ⟨(ax.add (na * 4)).block, (ax.add (na * 4)).off + 3, none⟩ = some (.bool xb) ∧ w'.cell? (ay.add (na * 4)) = some (.int .i64 yk) ∧ w'.cell? ⟨(ay.add (na * 4)).block, (ay.add (na * 4)).off + 1, none⟩ = some (.string ys) ∧ w'.cell? ⟨(ay.add (na * 4)).block, (ay.add (na * 4)).off + 2, none⟩ = some (.int .i64 yn) ∧ w'.cell? ⟨(ay.add (na * 4)).block, (ay.add (na * 4)).off + 3, none⟩ = some (.bool yb) ∧ Below w6.heap.size w6 w' := fun w' hb => by
        have hbw := hB6.trans (hb.mono hB6.size)
        exact ⟨(hbw.cell (World.block_lt_of_cell? w _ e0)).trans e0, (hbw.cell (World.block_lt_of_cell? w _ e1)).trans e1, (hbw.cell (World.block_lt_of_cell? w _ e2)).trans e2, (hbw.cell (World.block_lt_of_cell? w _ e3)).trans e3, (hbw.cell (World.block_lt_of_cell? w _ f0)).trans f0, (hbw.cell (World.block_lt_of_cell? w _ f1)).trans f1, (hbw.cell (World.block_lt_of_cell? w _ f2)).trans f2, (hbw.cell (World.block_lt_of_cell? w _ f3)).trans f3, hb⟩
      have MK := Lib.hid mk; have HW6 := Lib.hid hw6; have HZ6 := Lib.hid Z6
      obtain ⟨M, hM⟩ : ∃ M, M = cmpV ⟨xk, xs, xn, xb⟩ ⟨yk, ys, yn, yb⟩ := ⟨_, rfl⟩
      have HMM := Lib.hid hM
      have CC : ∀ wq : World, Calls Tryd.prog 105 #[.agg #[.int .i64 xk, .string xs, .int .i64 xn, .bool xb], .agg #[.int .i64 yk, .string ys, .int .i64 yn, .bool yb]] wq fun e w' => e = .returned (.int .i64 M) ∧ Below wq.heap.size wq w' := fun wq => by rw [hM]; exact compare_any ⟨xk, xs, xn, xb⟩ ⟨yk, ys, yn, yb⟩ wq
      have hMs : M = -1 ∨ M = 0 ∨ M = 1 := by rw [hM]; exact HSM.out
      have HMS := Lib.hid hMs
      clear mk hw6 Z6 z0 y0 e0 e1 e2 e3 f0 f1 f2 f3 hM hMs
      go_wp2
      rw [← HW6.out]
      go_region_held3 (fun w' => w'.cell? (ax.add (na * 4)) = some (.int .i64 xk) ∧ w'.cell? ⟨(ax.add (na * 4)).block, (ax.add (na * 4)).off + 1, none⟩ = some (.string xs) ∧ w'.cell? ⟨(ax.add (na * 4)).block, (ax.add (na * 4)).off + 2, none⟩ = some (.int .i64 xn) ∧ w'.cell? ⟨(ax.add (na * 4)).block, (ax.add (na * 4)).off + 3, none⟩ = some (.bool xb) ∧ w'.cell? (ay.add (na * 4)) = some (.int .i64 yk) ∧ w'.cell? ⟨(ay.add (na * 4)).block, (ay.add (na * 4)).off + 1, none⟩ = some (.string ys) ∧ w'.cell? ⟨(ay.add (na * 4)).block, (ay.add (na * 4)).off + 2, none⟩ = some (.int .i64 yn) ∧ w'.cell? ⟨(ay.add (na * 4)).block, (ay.add (na * 4)).off + 3, none⟩ = some (.bool yb) ∧ Below w6.heap.size w6 w') (first | (exact MK.out _ (Below.drew (Below.refl _ _))) | (go_split_ands; exact MK.out _ (by assumption)) | (go_split_ands; exact MK.out _ (keepB (by assumption) (by assumption))) | go_keep)
        (first | (go_at_call 105; go_split_ands; refine (CC _).mono ?_; rintro e w7 ⟨rfl, b7⟩; have cb7 : Below w6.heap.size w6 w7 := keepB b7 (by assumption)))
      have Z7 := HZ6.out.below cb7 HZ6.out.lt
      have z1 := Z7.cell 1
      simp at z1
      have hB7 := hB6.trans (cb7.mono hB6.size)
      obtain ⟨w8, rfl⟩ : ∃ w8 : World, w8 = w7 := ⟨_, rfl⟩
      have hNm : N = if xd = true then -M else M := by rw [HNN.out, HMM.out]
      have HNm := Lib.hid hNm
      clear CC Z7 hNm
      cases xd
      · have hnm : N = M := by rw [HNm.out]; rfl
        by_cases hz : M = 0
        · have HV := Lib.hid (HN0.out (by rw [hnm, hz]))
          subst hz
          clear hnm
          go_wp2
          exact ⟨⟨k + 1, by omega, by go_num, HV.out, hB7⟩, by simp [intOf]; omega⟩
        · have hy : Y = M := by rw [HN1.out (by rw [hnm]; exact hz), hnm]
          have dne : (M != 0) = true := by rw [bne_iff_ne]; exact hz
          subst hy
          clear hnm hz
          go_wp2
          exact HR.out _ _ ⟨rfl, hB7⟩
      · have hnm : N = -M := by rw [HNm.out]; rfl
        rcases HMS.out with hM1 | hM1 | hM1
        · have hy : Y = 1 := by rw [HN1.out (by rw [hnm, hM1]; decide), hnm, hM1]; rfl
          subst hM1
          subst hy
          clear hnm
          go_wp2
          exact HR.out _ _ ⟨rfl, hB7⟩
        · have HV := Lib.hid (HN0.out (by rw [hnm, hM1]; rfl))
          subst hM1
          clear hnm
          go_wp2
          exact ⟨⟨k + 1, by omega, by go_num, HV.out, hB7⟩, by simp [intOf]; omega⟩
        · have hy : Y = -1 := by rw [HN1.out (by rw [hnm, hM1]; decide), hnm, hM1]
          subst hM1
          subst hy
          clear hnm
          go_wp2
          exact HR.out _ _ ⟨rfl, hB7⟩
    · obtain rfl : k = ks.length := by omega
      have hy : Y = 0 := by rw [← HN.out, List.drop_length, cmpK]
      subst hy
      clear hlt
      go_wp2
      exact HR.out _ _ ⟨rfl, hB⟩
end Go.Proofs.YtgiemhooeoakmaaDoor

namespace Go.Proofs.YtgiemhooeoakmaaDoor
open Go.RowKit Go.ChangeShapes Go.WideShapes
set_option linter.unusedVariables false
set_option linter.unusedSimpArgs false

theorem keyF_mem (l : List Col) (ks : List KeyP) : ∀ (r : List KeyP) (j : Nat), (keyF l ks j r).2 = 0 → ∀ k ∈ r, k.col ∈ namesC l
  | [], j, h, k, hk => by cases hk
  | x :: r, j, h, k, hk => by
    rw [keyF] at h
    split at h
    · rename_i h1
      split at h
      · cases h
      · rcases List.mem_cons.1 hk with rfl | hk
        · exact h1
        · exact keyF_mem l ks r (j + 1) h k hk
    · cases h
theorem kchk_mem {l : List Col} {ks : List KeyP} (h : (kchk l ks).2 = 0) : ∀ k ∈ ks, k.col ∈ namesC l := by
  unfold kchk at h
  split at h
  · rename_i h1; exact absurd h h1
  · exact keyF_mem l ks ks 0 h
/-- Why rows can't be in order; 0: they can. -/
def byE (l : List Col) (ks : List KeyP) (rows : VTab) : Nat := if (kchk l ks).2 ≠ 0 then (kchk l ks).2 else if fitsB l.length rows = true then 0 else 10
theorem byE_ok {l : List Col} {ks : List KeyP} {rows : VTab} (h : byE l ks rows = 0) : (kchk l ks).2 = 0 ∧ ∀ r ∈ rows, r.length = l.length := by
  unfold byE at h
  split at h
  · rename_i h1; exact absurd h h1
  · rename_i h1
    split at h
    · rename_i h2; exact ⟨by simpa using h1, fitsB_iff.1 h2⟩
    · cases h
/-- The closure that by hands out, where it hands one out. -/
def ByF (w : World) (f vk vl : Value) (b : Nat) : Prop := ∃ gk gl, f = .func (.func 120) #[] #[.pointer (some ⟨gk, 0, none⟩), .pointer (some ⟨gl, 0, none⟩)] ∧ w.cell? ⟨gk, 0, none⟩ = some vk ∧ w.cell? ⟨gl, 0, none⟩ = some vl ∧ b ≤ gk ∧ b ≤ gl
set_option maxHeartbeats 4000000 in
set_option maxRecDepth 100000 in
theorem by_any (vk vl vr : Value) (ks : List KeyP) (l : List Col) (rows : VTab) (w : World) (hk : RdKey w w.heap.size vk ks) (hl : RdC w w.heap.size vl l) (hr : RdVT w w.heap.size vr rows) (hll : l.length ≤ 100000) (hca : ∀ c ∈ l, c.name.size ≤ 100000) (hT : Tab w) :
    Calls Tryd.prog 90 #[vk, vl, vr] w fun e w' => (∃ f, e = .returned (.tuple #[f, .int .i64 (byE l ks rows)]) ∧ (byE l ks rows = 0 → ByF w' f vk vl w.heap.size)) ∧ Below w.heap.size w w' := by
  refine cps fun R HR => ?_
  have hk0 := hk; have hl0 := hl; have hr0 := hr
  obtain ⟨A1, c1, rfl, -⟩ := hk.is
  obtain ⟨A2, c2, rfl, -⟩ := hl.is
  obtain ⟨A3, c3, vs, rfl, -, -⟩ := hr.is
  clear hk hl hr
  obtain ⟨Y, hY⟩ : ∃ Y, Y = byE l ks rows := ⟨_, rfl⟩
  rw [← hY] at HR
  unfold byE at hY
  obtain ⟨kc, hkc⟩ : ∃ n, n = kchk l ks := ⟨_, rfl⟩
  obtain ⟨ft, hft⟩ : ∃ n, n = fitsB l.length rows := ⟨_, rfl⟩
  rw [← hkc, ← hft] at hY
  obtain ⟨g, hg⟩ : ∃ g, g = w.heap.size := ⟨_, rfl⟩
  obtain ⟨w0, hw0⟩ : ∃ w0, w0 = (w.alloc (.cells #[.slice A1 ks.length c1] 73)).alloc (.cells #[.slice A2 l.length c2] 22) := ⟨_, rfl⟩
  have b0 : Below w.heap.size w w0 := by rw [hw0]; exact ((Below.refl _ _).alloc (Nat.le_refl _) _).alloc (by simp) _
  have X := (Box.new w 73 #[.slice A1 ks.length c1]).alloc (.cells #[.slice A2 l.length c2] 22)
  have Z := Box.new (w.alloc (.cells #[.slice A1 ks.length c1] 73)) 22 #[.slice A2 l.length c2]
  rw [← hw0] at X Z
  simp only [hsz] at Z
  rw [← hg] at X Z
  have x0 := X.cell 0
  have z0 := Z.cell 0
  simp at x0 z0
  have HX := Lib.hid X; have HZ := Lib.hid Z; have HW0 := Lib.hid hw0; have HB0 := Lib.hid b0; have HY := Lib.hid hY; have HKC := Lib.hid hkc; have HFT := Lib.hid hft; have HG := Lib.hid hg
  clear X Z hw0 b0 hY hkc hft
  go_enter Tryd.func90, Tryd.ntmps90
  go_wp2_with fail
  rw [← HW0.out]
  refine (ocheck_any _ _ ks l _ (RdF.next hk0 HB0.out) (RdF.next hl0 HB0.out) hll hca (hT.below HB0.out)).mono ?_
  rintro e w1 ⟨rfl, b1⟩
  rw [← HKC.out]
  have bw1 := HB0.out.trans (b1.mono HB0.out.size)
  obtain ⟨ka, kb⟩ := kc
  by_cases hz : kb = 0
  · subst hz
    have hy := HY.out
    rw [if_neg (by simp)] at hy
    have HY2 := Lib.hid hy
    have X1 := HX.out.below b1 HX.out.lt
    have Z1 := HZ.out.below b1 HZ.out.lt
    have HX1 := Lib.hid X1; have HZ1 := Lib.hid Z1
    have hP : ∀ r ∈ rows, ∀ wk u, Below w1.heap.size w1 wk → RdV wk wk.heap.size u r → Calls Tryd.prog 119 #[u, .pointer (some ⟨g + 1, 0, none⟩)] wk fun e w' => e = .returned (.bool (!decide (r.length = l.length))) ∧ Below wk.heap.size wk w' :=
      fun r hr wk u hk hu => by1_any _ A2 l.length c2 u r wk ((HZ1.out.below hk HZ1.out.lt).cell 0) hu
    have HP := Lib.hid hP
    have hq : (rows.any fun r => !decide (r.length = l.length)) = !ft := by rw [HFT.out]; unfold fitsB; rw [Bool.not_not]
    have HQ := Lib.hid hq
    clear hy HY X1 Z1 x0 z0 hP hq
    go_wp2_with fail
    rw [← hg]
    refine (anyBy_any _ _ rows (fun r => !decide (r.length = l.length)) _ (RdE.next (RdF.stays valV 4) hr0 bw1) HP.out).mono ?_
    rintro e w2 ⟨rfl, b2⟩
    rw [HQ.out]
    have bw2 := bw1.trans (b2.mono bw1.size)
    cases ft
    · have hy : Y = 10 := by rw [HY2.out]; rfl
      subst hy
      go_wp2
      exact HR.out _ _ ⟨⟨_, rfl, fun h => by cases h⟩, bw2⟩
    · have hy : Y = 0 := by rw [HY2.out]; rfl
      subst hy
      have X2 := (HX1.out.below b2 HX1.out.lt).cell 0
      have Z2 := (HZ1.out.below b2 HZ1.out.lt).cell 0
      have HX2 := Lib.hid X2; have HZ2 := Lib.hid Z2
      clear X2 Z2
      go_wp2
      exact HR.out _ _ ⟨⟨_, rfl, fun _ => ⟨g, g + 1, by rw [HG.out]; rfl, HX2.out, HZ2.out, by rw [HG.out]; exact Nat.le_refl _, by rw [HG.out]; omega⟩⟩, bw2⟩
  · have hy := HY.out
    rw [if_pos (by simpa using hz)] at hy
    have dne : ((kb : Int) != 0) = true := by rw [bne_iff_ne]; omega
    dsimp only at hy
    subst hy
    have HZZ := Lib.hid hz
    clear hz x0 z0
    go_wp2
    exact HR.out _ _ ⟨⟨_, rfl, fun h => absurd h HZZ.out⟩, bw1⟩
end Go.Proofs.YtgiemhooeoakmaaDoor

namespace Go.Proofs.YtgiemhooeoakmaaDoor
open Go.RowKit Go.ChangeShapes Go.WideShapes
set_option linter.unusedVariables false
set_option linter.unusedSimpArgs false

/-- An element put into a list in order, the last one first. -/
def insR {α : Type} (lt : α → α → Bool) (x : α) : List α → List α
  | [] => [x]
  | y :: r => if lt x y = true then y :: insR lt x r else x :: y :: r
/-- A list in order, the last one first. -/
def sortR {α : Type} (lt : α → α → Bool) : List α → List α → List α
  | acc, [] => acc
  | acc, x :: r => sortR lt (insR lt x acc) r
theorem sortR_snoc {α : Type} (lt : α → α → Bool) : ∀ (l acc : List α) (x : α), sortR lt acc (l ++ [x]) = insR lt x (sortR lt acc l)
  | [], acc, x => rfl
  | y :: l, acc, x => by rw [List.cons_append, sortR, sortR, sortR_snoc lt l]
theorem insR_len {α : Type} (lt : α → α → Bool) (x : α) : ∀ l : List α, (insR lt x l).length = l.length + 1
  | [] => rfl
  | y :: l => by
    rw [insR]
    split
    · rw [List.length_cons, insR_len lt x l, List.length_cons]
    · simp
theorem insR_mem {α : Type} (lt : α → α → Bool) (x z : α) : ∀ l : List α, z ∈ insR lt x l ↔ z = x ∨ z ∈ l
  | [] => by simp [insR]
  | y :: l => by
    rw [insR]
    split
    · rw [List.mem_cons, insR_mem lt x z l, List.mem_cons]
      exact ⟨fun h => by rcases h with h | h | h <;> simp [h], fun h => by rcases h with h | h | h <;> simp [h]⟩
    · simp
theorem sortR_len {α : Type} (lt : α → α → Bool) : ∀ (l acc : List α), (sortR lt acc l).length = acc.length + l.length
  | [], acc => rfl
  | x :: l, acc => by rw [sortR, sortR_len lt l, insR_len, List.length_cons]; omega
theorem sortR_mem {α : Type} (lt : α → α → Bool) (z : α) : ∀ (l acc : List α), z ∈ sortR lt acc l ↔ z ∈ acc ∨ z ∈ l
  | [], acc => by simp [sortR]
  | x :: l, acc => by
    rw [sortR, sortR_mem lt z l, insR_mem, List.mem_cons]
    exact ⟨fun h => by rcases h with (h | h) | h <;> simp [h], fun h => by rcases h with h | h | h <;> simp [h]⟩
/-- What sorting makes of rows. -/
def sortL {α : Type} (lt : α → α → Bool) (l : List α) : List α := (sortR lt [] l).reverse
theorem set_swap {α : Type} (a b a' b' : α) (B : List α) : ∀ A : List α, ((A ++ a :: b :: B).set (A.length + 1) a').set A.length b' = A ++ b' :: a' :: B
  | [] => rfl
  | x :: A => by
    simp only [List.cons_append, List.length_cons, List.set_cons_succ]
    rw [set_swap a b a' b' B A]
theorem own_some {w : World} {base size n c : Nat} {e : TypeId} {A : Option Addr} {xs : List Value} (h : Own w base e size (.slice A n c) n xs) (hn : 0 < n) : ∃ g, A = some ⟨g, 0, none⟩ ∧ base ≤ g ∧ g < w.heap.size := by
  rcases h.2 with ⟨hv, h0⟩ | ⟨g', cap, cur, fr, hv, hb, hg, hf, hc, hm, hs, ht⟩
  · injection hv with _ h2 _
    omega
  · injection hv with h1 _ _
    exact ⟨g', h1, hb, (Array.getElem?_eq_some_iff.1 hg).1⟩
theorem own_cell {w : World} {base n c g : Nat} {e : TypeId} {xs : List Value} (h : Own w base e 1 (.slice (some ⟨g, 0, none⟩) n c) n xs) {k : Nat} {u : Value} (hu : xs[k]? = some u) : w.cell? ⟨g, k, none⟩ = some u := by
  have := h.sl.cell ⟨g, 0, none⟩ k u rfl hu
  rwa [head_add] at this
/-- Is a row ahead of another one? -/
def ltP (f : VRow → VRow → Int) (z z' : Value × VRow) : Bool := decide (f z.2 z'.2 < 0)
set_option maxHeartbeats 8000000 in
set_option maxRecDepth 100000 in
theorem isort_any (A : Option Addr) (n c base : Nat) (p q : Value) (f : VRow → VRow → Int) (zs : List (Value × VRow)) (w : World) (hown : Own w base 61 1 (.slice A n c) n (zs.map Prod.fst)) (hn : n = zs.length) (hn2 : n ≤ 100000) (hbase : base ≤ w.heap.size)
    (hsl : ∀ z ∈ zs, ∃ A n c, z.1 = .slice A n c)
    (hcmp : ∀ wk, Below base w wk → ∀ z ∈ zs, ∀ z' ∈ zs, Calls Tryd.prog 120 #[z.1, z'.1, p, q] wk fun e w' => e = .returned (.int .i64 (f z.2 z'.2)) ∧ Below wk.heap.size wk w') :
    Calls Tryd.prog 135 #[.slice A n c, .int .i64 0, .int .i64 n, .func (.func 120) #[] #[p, q]] w fun e w' => (∃ v, e = .returned v) ∧ Own w' base 61 1 (.slice A n c) n ((sortL (ltP f) zs).map Prod.fst) ∧ Below base w w' := by
  refine cps fun R HR => ?_
  by_cases hn0 : n = 0
  · subst hn0
    have hz : zs = [] := List.eq_nil_of_length_eq_zero hn.symm
    subst hz
    have HO := Lib.hid hown
    clear hn hown hcmp hsl
    go_enter Tryd.func135, Tryd.ntmps135
    go_wp2
    go_loopw [8] (fun i wr => i = .int .i64 1 ∧ wr = w) (fun i _ => 0)
    case atStart => exact ⟨rfl, rfl⟩
    case round =>
      obtain ⟨rfl, rfl⟩ := hrel
      go_wp2
      exact bodyPost_end (v := .tuple #[]) (by simp [results, Tryd.results135, go_sem]) rfl (HR.out _ _ ⟨⟨_, rfl⟩, HO.out, Below.refl _ _⟩)
  · obtain ⟨g, rfl, hg, -⟩ := own_some hown (by omega)
    have hz0 : 0 < zs.length := by omega
    have hst : (((sortR (ltP f) [] (zs.take 1)).reverse ++ zs.drop 1).map Prod.fst) = zs.map Prod.fst := by
      match zs, hz0 with
      | z :: r, _ => rfl
    have HNZ := Lib.hid hn
    have HO := Lib.hid hown; have HST := Lib.hid hst; have HCMP := Lib.hid hcmp; have HSL := Lib.hid hsl
    clear hown hst hcmp hsl hn
    go_enter Tryd.func135, Tryd.ntmps135
    go_wp2
    go_loopw [8] (fun i wr => ∃ k : Nat, 1 ≤ k ∧ k ≤ n ∧ i = .int .i64 k ∧ Own wr base 61 1 (.slice (some ⟨g, 0, none⟩) n c) n (((sortR (ltP f) [] (zs.take k)).reverse ++ zs.drop k).map Prod.fst) ∧ Below base w wr) (fun i _ => n - (intOf i).toNat)
    case atStart => exact ⟨1, by omega, by omega, rfl, by rw [HST.out]; exact HO.out, Below.refl _ _⟩
    case round =>
      obtain ⟨k, hk1, hk, rfl, hO, hB⟩ := hrel
      obtain ⟨w1, rfl⟩ : ∃ w1 : World, w1 = wr := ⟨_, rfl⟩
      by_cases hlt : k < n
      · have hlz : k < zs.length := by have := HNZ.out; omega
        obtain ⟨P, hP⟩ : ∃ P, P = sortR (ltP f) [] (zs.take k) := ⟨_, rfl⟩
        obtain ⟨D, hD⟩ : ∃ D, D = zs.drop (k + 1) := ⟨_, rfl⟩
        obtain ⟨x, hx⟩ : ∃ x, x = zs[k] := ⟨_, rfl⟩
        have hdr : zs.drop k = x :: D := by rw [hx, hD]; exact List.drop_eq_getElem_cons hlz
        have hnx : sortR (ltP f) [] (zs.take (k + 1)) = insR (ltP f) x P := by rw [List.take_succ_eq_append_getElem hlz, sortR_snoc, ← hx, ← hP]
        have hPl : P.length = k := by rw [hP, sortR_len, List.length_take]; simp; omega
        have hPm : ∀ z ∈ P, z ∈ zs := fun z hz => by
          rw [hP, sortR_mem] at hz
          rcases hz with hz | hz
          · cases hz
          · exact List.mem_of_mem_take hz
        have hxm : x ∈ zs := by rw [hx]; exact List.getElem_mem hlz
        rw [← hP, hdr] at hO
        obtain ⟨xA, xn, xc, hxv⟩ := HSL.out x hxm
        have HNX := Lib.hid hnx; have HPL := Lib.hid hPl; have HPM := Lib.hid hPm; have HXM := Lib.hid hxm; have HD := Lib.hid hD; have HXV := Lib.hid hxv; have HO1 := Lib.hid hO; have HB1 := Lib.hid hB
        have dk : decide ((k : Int) < n) = true := decide_eq_true (by omega)
        clear hP hD hx hdr hnx hPl hPm hxm hxv hO hB
        go_wp2
        go_loopw [9] (fun j wr => ∃ (S T : List (Value × VRow)), j = .int .i64 S.length ∧ insR (ltP f) x P = T ++ insR (ltP f) x S ∧ S.length + T.length = k ∧ (∀ z ∈ S, z ∈ zs) ∧ Own wr base 61 1 (.slice (some ⟨g, 0, none⟩) n c) n ((S.reverse ++ x :: (T.reverse ++ D)).map Prod.fst) ∧ Below base w wr) (fun j _ => (intOf j).toNat)
        case atStart => exact ⟨P, [], by rw [HPL.out], rfl, by simp [HPL.out], HPM.out, HO1.out, HB1.out⟩
        case round =>
          obtain ⟨S, T, rfl, hins, hlen, hSm, hO, hB⟩ := hrel
          have HINS := Lib.hid hins; have HSM := Lib.hid hSm
          clear hins hSm
          cases S with
          | nil =>
            have hfin : sortR (ltP f) [] (zs.take (k + 1)) = T ++ [x] := by rw [HNX.out, HINS.out]; rfl
            have hO2 : Own wr base 61 1 (.slice (some ⟨g, 0, none⟩) n c) n (((sortR (ltP f) [] (zs.take (k + 1))).reverse ++ zs.drop (k + 1)).map Prod.fst) := by
              rw [hfin, ← HD.out]
              simpa using hO
            have HO2 := Lib.hid hO2
            clear hfin hO2 hO
            simp only [List.length_nil]
            have hB' := Lib.hid hB
            clear hB
            go_wp2
            go_quiet (fail)
            go_wp2
            exact ⟨⟨k + 1, by omega, by omega, by go_num, HO2.out.below (below_drewN (Below.refl _ _) _) (Nat.le_refl _), below_drewN hB'.out _⟩, by simp [intOf]; omega⟩
          | cons y r =>
            obtain ⟨yA, yn, yc, hyv⟩ := HSL.out y (HSM.out y List.mem_cons_self)
            obtain ⟨lt, hlt2⟩ : ∃ lt, lt = ltP f x y := ⟨_, rfl⟩
            have hc0 := HCMP.out
            have hxm := HXM.out
            have hym := HSM.out y List.mem_cons_self
            have hcall : ∀ wk, Below base w wk → Calls Tryd.prog 120 #[.slice xA xn xc, .slice yA yn yc, p, q] wk fun e w' => e = .returned (.int .i64 (f x.2 y.2)) ∧ Below wk.heap.size wk w' := fun wk hb => by
              have := hc0 wk hb x hxm y hym
              rw [HXV.out, hyv] at this
              exact this
            have e1 : ((((y :: r).reverse ++ x :: (T.reverse ++ D)).map Prod.fst))[r.length + 1]? = some (.slice xA xn xc) := by
              rw [List.getElem?_map, List.getElem?_append_right (by simp), ← HXV.out]
              simp
            have e0 : ((((y :: r).reverse ++ x :: (T.reverse ++ D)).map Prod.fst))[r.length]? = some (.slice yA yn yc) := by
              rw [List.getElem?_map, List.reverse_cons, List.append_assoc, List.getElem?_append_right (by simp), ← hyv]
              simp
            have c1 := own_cell hO e1
            have c0 := own_cell hO e0
            have hrl : r.length + 1 < n := by
              simp only [List.length_cons] at hlen
              omega
            have hBW := Lib.hid hB; have HOO := Lib.hid hO; have HCALL := Lib.hid hcall; have HLT := Lib.hid hlt2; have HE1 := Lib.hid e1; have HE0 := Lib.hid e0; have HYV := Lib.hid hyv
            have hg2 : g < wr.heap.size := World.block_lt_of_cell? wr _ c1
            have mk : ∀ w', Below wr.heap.size wr w' → w'.cell? ⟨g, r.length + 1, none⟩ = some (.slice xA xn xc) ∧ w'.cell? ⟨g, r.length, none⟩ = some (.slice yA yn yc) ∧ Below wr.heap.size wr w' := fun w' hb =>
              ⟨(hb.cell (p := ⟨g, r.length + 1, none⟩) hg2).trans c1, (hb.cell (p := ⟨g, r.length, none⟩) hg2).trans c0, hb⟩
            have MK := Lib.hid mk
            have hln : List.length (y :: r) = r.length + 1 := rfl
            rw [hln] at hlen
            simp only [List.length_cons]
            obtain ⟨j, hj⟩ : ∃ j, j = r.length + 1 := ⟨_, rfl⟩
            obtain ⟨m, hm⟩ : ∃ m, m = r.length := ⟨_, rfl⟩
            have hjm : (j : Int) - 1 = m := by omega
            have hjw : IntKind.i64.wrap ((j : Int) - 1) = m := by rw [hjm]; exact IntWalk.i64_in _ (by omega)
            have hmw : IntKind.i64.wrap (m : Int) = m := IntWalk.i64_in _ (by omega)
            have imn : (m : Int) < n := by omega
            have im0 : (0 : Int) ≤ (m : Int) := by omega
            rw [← hj] at hlen hrl MK
            rw [← hm] at MK
            rw [← hj]
            have HJ := Lib.hid hj; have HM := Lib.hid hm
            have hjpos : 0 < j := by omega
            have ij : (j : Int) < n := by omega
            have ij0 : (0 : Int) ≤ (j : Int) := by omega
            clear hj hm
            have hbw0 : base ≤ wr.heap.size := Nat.le_trans hbase hBW.out.size
            obtain ⟨M, hM⟩ : ∃ M, M = f x.2 y.2 := ⟨_, rfl⟩
            have HMM := Lib.hid hM
            clear hB hO hcall hlt2 e1 e0 hyv hc0 hxm hym c1 c0 mk hM hln
            go_wp2
            go_region_held3 (fun w' => w'.cell? ⟨g, j, none⟩ = some (.slice xA xn xc) ∧ w'.cell? ⟨g, m, none⟩ = some (.slice yA yn yc) ∧ Below wr.heap.size wr w') (first | (exact MK.out _ (Below.drew (Below.refl _ _))) | (go_split_ands; exact MK.out _ (by assumption)) | (go_split_ands; exact MK.out _ (keepB (by assumption) (by assumption))) | go_keep)
              (first | (go_at_call 120; go_split_ands; refine (HCALL.out _ (hBW.out.trans (Below.mono (by assumption) hbw0))).mono ?_; rintro e w7 ⟨rfl, b7⟩; rw [← HMM.out]; have cb7 : Below wr.heap.size wr w7 := keepB b7 (by assumption)))
            have hOq := (HOO.out.below cb7 (Nat.le_refl _))
            have hBq := hBW.out.trans (cb7.mono hbw0)
            obtain ⟨w8, rfl⟩ : ∃ w8 : World, w8 = w7 := ⟨_, rfl⟩
            by_cases hM0 : M < 0
            · have dM : decide (M < 0) = true := decide_eq_true hM0
              have HLTT := Lib.hid (show ltP f x y = true by unfold ltP; rw [← HMM.out]; exact dM)
              have c1 := own_cell hOq HE1.out
              have c0 := own_cell hOq HE0.out
              have f1 := hOq.thaw (k := j) (by omega)
              have f0 := hOq.thaw (k := m) (by omega)
              rw [← HJ.out] at c1
              rw [← HM.out] at c0
              go_wp2
              go_region
              all_goals go_wp2
              have hxs : (((y :: r).reverse ++ x :: (T.reverse ++ D)).map Prod.fst) = r.reverse.map Prod.fst ++ .slice yA yn yc :: .slice xA xn xc :: (T.reverse ++ D).map Prod.fst := by
                rw [← HXV.out, ← HYV.out]
                simp
              have hys : ((r.reverse ++ x :: ((T ++ [y]).reverse ++ D)).map Prod.fst) = r.reverse.map Prod.fst ++ .slice xA xn xc :: .slice yA yn yc :: (T.reverse ++ D).map Prod.fst := by
                rw [← HXV.out, ← HYV.out]
                simp
              rw [hxs] at hOq
              have hjr := HJ.out
              have hmr := HM.out
              have hrl2 : (r.reverse.map Prod.fst).length = r.length := by simp
              have hO9 := (hOq.put (k := j) (by omega) (.slice yA yn yc)).put (k := m) (by omega) (.slice xA xn xc)
              have hsw := set_swap (Value.slice yA yn yc) (Value.slice xA xn xc) (Value.slice yA yn yc) (Value.slice xA xn xc) ((T.reverse ++ D).map Prod.fst) (r.reverse.map Prod.fst)
              rw [hrl2] at hsw
              rw [hmr, hjr, hsw, ← hys] at hO9
              refine ⟨⟨r, T ++ [y], by congr 1; omega, by rw [HINS.out, insR, if_pos HLTT.out, List.append_assoc]; rfl, by rw [List.length_append, List.length_singleton]; omega, fun z hz => HSM.out z (List.mem_cons_of_mem _ hz), ?_, ((hBq.setCell hg _).setCell hg _).drew⟩, by simp [intOf]; omega⟩
              rw [hmr, hjr]
              exact hO9
            · have dM : decide (M < 0) = false := decide_eq_false hM0
              have hno : ltP f x y = false := by unfold ltP; rw [← HMM.out]; exact dM
              have hfin : sortR (ltP f) [] (zs.take (k + 1)) = T ++ x :: y :: r := by rw [HNX.out, HINS.out, insR, if_neg (by rw [hno]; simp)]
              have hO2 : Own w8 base 61 1 (.slice (some ⟨g, 0, none⟩) n c) n (((sortR (ltP f) [] (zs.take (k + 1))).reverse ++ zs.drop (k + 1)).map Prod.fst) := by
                rw [hfin, ← HD.out]
                simpa using hOq
              have HO2 := Lib.hid hO2
              clear hfin hO2 hOq hno
              go_wp2
              exact ⟨⟨k + 1, by omega, by omega, by go_num, HO2.out, hBq⟩, by simp [intOf]; omega⟩
      · obtain rfl : k = n := by omega
        have hfin : ((sortR (ltP f) [] (zs.take k)).reverse ++ zs.drop k) = sortL (ltP f) zs := by
          have := HNZ.out
          rw [List.take_of_length_le (by omega), List.drop_of_length_le (by omega), List.append_nil]
          rfl
        rw [hfin] at hO
        clear hlt hfin
        go_wp2
        exact bodyPost_end (v := .tuple #[]) (by simp [results, Tryd.results135, go_sem]) rfl (HR.out _ _ ⟨⟨_, rfl⟩, hO, hB⟩)
end Go.Proofs.YtgiemhooeoakmaaDoor

namespace Go.Proofs.YtgiemhooeoakmaaDoor
open Go.RowKit Go.ChangeShapes Go.WideShapes
set_option linter.unusedVariables false
set_option linter.unusedSimpArgs false

theorem insR_map {α β : Type} (g : α → β) (lt : α → α → Bool) (lt' : β → β → Bool) (h : ∀ x y, lt x y = lt' (g x) (g y)) (x : α) : ∀ l : List α, (insR lt x l).map g = insR lt' (g x) (l.map g)
  | [] => rfl
  | y :: l => by
    rw [insR, List.map_cons, insR, ← h]
    split
    · rw [List.map_cons, insR_map g lt lt' h x l]
    · rfl
theorem sortR_map {α β : Type} (g : α → β) (lt : α → α → Bool) (lt' : β → β → Bool) (h : ∀ x y, lt x y = lt' (g x) (g y)) : ∀ l acc : List α, (sortR lt acc l).map g = sortR lt' (acc.map g) (l.map g)
  | [], acc => rfl
  | x :: l, acc => by rw [sortR, sortR_map g lt lt' h l, insR_map g lt lt' h, List.map_cons, sortR]
def ltK (l : List Col) (ks : List KeyP) (x y : VRow) : Bool := decide (cmpK l ks x y < 0)
/-- Rows in order. -/
def sortK (l : List Col) (ks : List KeyP) (rows : VTab) : VTab := sortL (ltK l ks) rows
theorem sortL_map (l : List Col) (ks : List KeyP) (zs : List (Value × VRow)) : (sortL (ltP (cmpK l ks)) zs).map Prod.snd = sortK l ks (zs.map Prod.snd) := by
  unfold sortK sortL
  rw [List.map_reverse, sortR_map Prod.snd (ltP (cmpK l ks)) (ltK l ks) (fun _ _ => rfl)]
  rfl
theorem sortL_mem {α : Type} {lt : α → α → Bool} {l : List α} {z : α} : z ∈ sortL lt l ↔ z ∈ l := by
  unfold sortL
  rw [List.mem_reverse, sortR_mem]
  simp
theorem sortL_len {α : Type} (lt : α → α → Bool) (l : List α) : (sortL lt l).length = l.length := by
  unfold sortL
  rw [List.length_reverse, sortR_len]
  simp
theorem each_zip {α β : Type} {R : α → β → Prop} {xs : List α} {ys : List β} (h : Each R xs ys) : ((xs.zip ys).map Prod.fst = xs ∧ (xs.zip ys).map Prod.snd = ys) ∧ ∀ z ∈ xs.zip ys, R z.1 z.2 := by
  have hl := h.len
  refine ⟨⟨?_, ?_⟩, fun z hz => ?_⟩
  · rw [List.map_fst_zip]; omega
  · rw [List.map_snd_zip]; omega
  · obtain ⟨i, hi⟩ := List.mem_iff_getElem?.1 hz
    rw [List.getElem?_zip_eq_some] at hi
    exact h.at_ i z.1 z.2 hi.1 hi.2
set_option maxHeartbeats 2000000 in
theorem cloneT_any (v : Value) (t : VTab) (w : World) (h : RdVT w w.heap.size v t) (hl : t.length ≤ 100000) :
    Calls Tryd.prog 91 #[v] w fun e w' => (∃ u, ∃ zs : List (Value × VRow), e = .returned u ∧ zs.map Prod.snd = t ∧ Own w' w.heap.size 61 1 u t.length (zs.map Prod.fst) ∧ ∀ z ∈ zs, RdV w w.heap.size z.1 z.2) ∧ Below w.heap.size w w' := by
  refine cps fun R HR => ?_
  obtain ⟨A, c, vs, rfl, hr, he⟩ := h.is
  obtain ⟨i0, hi0, hz0, hz1, hz2⟩ := info_parts vrow_info
  obtain ⟨⟨e1, e2⟩, e3⟩ := each_zip he
  have E1 := Lib.hid e1; have E2 := Lib.hid e2; have E3 := Lib.hid e3
  have hone : ∀ u ∈ vs, u.oneCell' = true := fun u hu => by
    obtain ⟨i, hi⟩ := List.mem_iff_getElem?.1 hu
    obtain ⟨y, -, hy⟩ := he.get hi
    obtain ⟨A', c', rfl, -⟩ := hy.is
    rfl
  clear e1 e2 e3 h
  cases A with
  | none =>
    have hn := hr.nil rfl
    have hx : t = [] := List.eq_nil_of_length_eq_zero hn
    subst hx
    have heq := fun w' => Lib.run_eql_slice_nil (P := Tryd.prog) w' 23 61 none 0 c 0 0 Tryd.underlying23
    clear he hone hr hn
    go_enter Tryd.func91, Tryd.ntmps91
    go_wp2
    exact HR.out _ _ ⟨⟨_, [], rfl, rfl, Own.nil_ _ _ _ _, fun z hz => by cases hz⟩, Below.refl _ _⟩
  | some ad =>
    have heq := fun w' => Lib.run_eql_slice_nil (P := Tryd.prog) w' 23 61 (some ad) t.length c 0 0 Tryd.underlying23
    clear he
    go_enter Tryd.func91, Tryd.ntmps91
    go_wp2_with (at_builtin; refine wpList_append_Own _ rfl _ _ _ rfl w.heap.size 61 i0 _ 1 24 Tryd.underlying23 hi0 hz0 hz1 hz2 rfl (by omega) (by omega) (.slice (some ⟨w.heap.size, 0, none⟩) 0 0) 0 [] rfl (Own.made w _ _ _ (Nat.le_refl _)) w.heap.size (some ad) t.length c vs rfl (hr.alloc (Nat.le_refl _) _) hone (by simp only [maxLen]; omega) (by omega) (by simp) ?_; intro v1 w1 hown1 hg1 hat1)
    refine HR.out _ _ ⟨⟨v1, vs.zip t, rfl, E2.out, by rw [E1.out]; simpa using hown1, E3.out⟩, ?_⟩
    exact below_grown ((Below.refl w.heap.size w).alloc (Nat.le_refl _) _) hg1 (fun g hg => by simp [Value.ownBlock] at hg; omega) (by simp)
set_option maxHeartbeats 2000000 in
theorem stable_any (A : Option Addr) (n c base : Nat) (p q : Value) (f : VRow → VRow → Int) (zs : List (Value × VRow)) (w : World) (hown : Own w base 61 1 (.slice A n c) n (zs.map Prod.fst)) (hn : n = zs.length) (hn2 : n < 20) (hbase : base ≤ w.heap.size)
    (hsl : ∀ z ∈ zs, ∃ A n c, z.1 = .slice A n c)
    (hcmp : ∀ wk, Below base w wk → ∀ z ∈ zs, ∀ z' ∈ zs, Calls Tryd.prog 120 #[z.1, z'.1, p, q] wk fun e w' => e = .returned (.int .i64 (f z.2 z'.2)) ∧ Below wk.heap.size wk w') :
    Calls Tryd.prog 121 #[.slice A n c, .int .i64 n, .func (.func 120) #[] #[p, q]] w fun e w' => (∃ v, e = .returned v) ∧ Own w' base 61 1 (.slice A n c) n ((sortL (ltP f) zs).map Prod.fst) ∧ Below base w w' := by
  refine cps fun R HR => ?_
  have hI := isort_any A n c base p q f zs w hown hn (by omega) hbase hsl hcmp
  have HI := Lib.hid hI
  have d1 : decide ((20 : Int) ≤ n) = false := decide_eq_false (by omega)
  have d2 : decide ((20 : Int) < n) = false := decide_eq_false (by omega)
  have d1n : ¬ (20 : Int) ≤ n := by omega
  have d2n : ¬ (20 : Int) < n := by omega
  clear hI hown hn hsl hcmp
  go_enter Tryd.func121, Tryd.ntmps121
  go_wp2
  go_loopw [7, 8] (fun a b wr => a = .int .i64 0 ∧ b = .int .i64 20 ∧ wr = w) (fun _ _ _ => 0)
  case atStart => exact ⟨rfl, rfl, rfl⟩
  case round =>
    obtain ⟨rfl, rfl, rfl⟩ := hrel
    go_wp2_with fail
    refine HI.out.mono ?_
    rintro e w1 ⟨⟨v, rfl⟩, hO, hB⟩
    go_wp2
    go_loopw [6] (fun a wr => a = .int .i64 20 ∧ wr = w1) (fun _ _ => 0)
    case atStart => exact ⟨rfl, rfl⟩
    case round =>
      obtain ⟨rfl, rfl⟩ := hrel
      go_wp2
      exact bodyPost_end (v := .tuple #[]) (by simp [results, Tryd.results121, go_sem]) rfl (HR.out _ _ ⟨⟨_, rfl⟩, hO, hB⟩)
theorem sstable_any (A : Option Addr) (n c base : Nat) (p q : Value) (f : VRow → VRow → Int) (zs : List (Value × VRow)) (w : World) (hown : Own w base 61 1 (.slice A n c) n (zs.map Prod.fst)) (hn : n = zs.length) (hn2 : n < 20) (hbase : base ≤ w.heap.size)
    (hsl : ∀ z ∈ zs, ∃ A n c, z.1 = .slice A n c)
    (hcmp : ∀ wk, Below base w wk → ∀ z ∈ zs, ∀ z' ∈ zs, Calls Tryd.prog 120 #[z.1, z'.1, p, q] wk fun e w' => e = .returned (.int .i64 (f z.2 z'.2)) ∧ Below wk.heap.size wk w') :
    Calls Tryd.prog 92 #[.slice A n c, .func (.func 120) #[] #[p, q]] w fun e w' => (∃ v, e = .returned v) ∧ Own w' base 61 1 (.slice A n c) n ((sortL (ltP f) zs).map Prod.fst) ∧ Below base w w' := by
  refine cps fun R HR => ?_
  have hI := stable_any A n c base p q f zs w hown hn hn2 hbase hsl hcmp
  have HI := Lib.hid hI
  clear hI hown hn hsl hcmp
  go_enter Tryd.func92, Tryd.ntmps92
  go_wp2_with fail
  refine HI.out.mono ?_
  rintro e w1 ⟨⟨v, rfl⟩, hO, hB⟩
  go_wp2
  exact bodyPost_end (v := .tuple #[]) (by simp [results, Tryd.results92, go_sem]) rfl (HR.out _ _ ⟨⟨_, rfl⟩, hO, hB⟩)
end Go.Proofs.YtgiemhooeoakmaaDoor

namespace Go.Proofs.YtgiemhooeoakmaaDoor
open Go.RowKit Go.ChangeShapes Go.WideShapes
set_option linter.unusedVariables false
set_option linter.unusedSimpArgs false

theorem each_unzip {α β : Type} {R : α → β → Prop} : ∀ {zs : List (α × β)}, (∀ z ∈ zs, R z.1 z.2) → Each R (zs.map Prod.fst) (zs.map Prod.snd)
  | [], _ => Each.nil
  | z :: r, h => Each.cons (h z List.mem_cons_self) (each_unzip fun y hy => h y (List.mem_cons_of_mem _ hy))
theorem sorted_rd {w w' : World} {base n : Nat} {u : Value} {zs : List (Value × VRow)} (hO : Own w' base 61 1 u n (zs.map Prod.fst)) (hn : n = zs.length) (hz : ∀ z ∈ zs, RdV w w.heap.size z.1 z.2) (hb : Below w.heap.size w w') : RdVT w' w'.heap.size u (zs.map Prod.snd) := by
  obtain ⟨A, c, rfl, hs⟩ := hO.form
  have hl : n = (zs.map Prod.snd).length := by rw [List.length_map]; exact hn
  subst hl
  exact ⟨A, c, _, rfl, hs, each_unzip fun z h => RdF.next (hz z h) hb⟩
theorem rows_sl {w : World} {zs : List (Value × VRow)} (h : ∀ z ∈ zs, RdV w w.heap.size z.1 z.2) : ∀ z ∈ zs, ∃ A n c, z.1 = .slice A n c := fun z hz => by
  obtain ⟨A, c, he, -⟩ := (h z hz).is
  exact ⟨A, _, c, he⟩
set_option maxHeartbeats 4000000 in
set_option maxRecDepth 100000 in
theorem osort_any (vk vl vr : Value) (ks : List KeyP) (l : List Col) (rows : VTab) (w : World) (hk : RdKey w w.heap.size vk ks) (hl : RdC w w.heap.size vl l) (hr : RdVT w w.heap.size vr rows) (hll : l.length ≤ 100000) (hca : ∀ c ∈ l, c.name.size ≤ 100000) (hrl : rows.length < 20) (hT : Tab w) :
    Calls Tryd.prog 46 #[vk, vl, vr] w fun e w' => (∃ u, e = .returned (.tuple #[u, .int .i64 (byE l ks rows)]) ∧ RdVT w' w'.heap.size u (if byE l ks rows = 0 then sortK l ks rows else [])) ∧ Below w.heap.size w w' := by
  refine cps fun R HR => ?_
  have hk0 := hk; have hl0 := hl; have hr0 := hr
  obtain ⟨A1, c1, rfl, -⟩ := hk.is
  obtain ⟨A2, c2, rfl, -⟩ := hl.is
  obtain ⟨A3, c3, vs, rfl, -, -⟩ := hr.is
  clear hk hl hr
  obtain ⟨E, hE⟩ : ∃ E, E = byE l ks rows := ⟨_, rfl⟩
  rw [← hE] at HR
  have HE := Lib.hid hE
  clear hE
  go_enter Tryd.func46, Tryd.ntmps46
  go_wp2_with fail
  refine (by_any _ _ _ ks l rows _ hk0 hl0 hr0 hll hca hT).mono ?_
  rintro e w1 ⟨⟨f, rfl, hf⟩, b1⟩
  rw [← HE.out] at hf
  rw [← HE.out]
  by_cases hz : E = 0
  · subst hz
    obtain ⟨gk, gl, rfl, hgk, hgl, -, -⟩ := hf rfl
    have hok := byE_ok HE.out.symm
    have HKM := Lib.hid (kchk_mem hok.1); have HRL := Lib.hid hok.2; have HGK := Lib.hid hgk; have HGL := Lib.hid hgl
    clear hf hok hgk hgl
    go_wp2_with fail
    refine (cloneT_any _ rows _ (RdE.next (RdF.stays valV 4) hr0 b1) (by omega)).mono ?_
    rintro e w2 ⟨⟨u, zs, rfl, hzs, hO, hz⟩, b2⟩
    have bw2 := b1.trans (b2.mono b1.size)
    have hzl : rows.length = zs.length := by rw [← hzs, List.length_map]
    have hcmp : ∀ wk, Below w1.heap.size w2 wk → ∀ z ∈ zs, ∀ z' ∈ zs, Calls Tryd.prog 120 #[z.1, z'.1, .pointer (some ⟨gk, 0, none⟩), .pointer (some ⟨gl, 0, none⟩)] wk fun e w' => e = .returned (.int .i64 (cmpK l ks z.2 z'.2)) ∧ Below wk.heap.size wk w' := fun wk hb z hzm z' hzm' => by
      have b1k := b2.trans hb
      have bwk := b1.trans (b1k.mono b1.size)
      have hin : ∀ y ∈ zs, y.2.length = l.length := fun y hy => HRL.out _ (by rw [← hzs]; exact List.mem_map_of_mem hy)
      exact by2_any gk gl _ _ _ _ ks l z.2 z'.2 wk ((b1k.cell (World.block_lt_of_cell? w1 _ HGK.out)).trans HGK.out) ((b1k.cell (World.block_lt_of_cell? w1 _ HGL.out)).trans HGL.out) (RdF.next hk0 bwk) (RdF.next hl0 bwk) (RdF.next (hz z hzm) b1k) (RdF.next (hz z' hzm') b1k) HKM.out (hin z hzm) (hin z' hzm')
    obtain ⟨A4, c4, rfl, -⟩ := hO.form
    have hsort := sstable_any A4 rows.length c4 w1.heap.size _ _ (cmpK l ks) zs w2 hO hzl hrl b2.size (rows_sl hz) hcmp
    have HS := Lib.hid hsort; have HZ := Lib.hid hz; have HZS := Lib.hid hzs; have HZL := Lib.hid hzl
    clear hcmp hsort hz hzs hO hzl
    go_wp2_with fail
    refine HS.out.mono ?_
    rintro e w3 ⟨⟨v, rfl⟩, hO, hB⟩
    have b13 := b2.trans hB
    have bw3 := b1.trans (b13.mono b1.size)
    have hrd : RdVT w3 w3.heap.size (.slice A4 rows.length c4) (sortK l ks rows) := by
      have := sorted_rd hO (by rw [sortL_len]; exact HZL.out) (fun z hm => HZ.out z (sortL_mem.1 hm)) b13
      rw [sortL_map, HZS.out] at this
      exact this
    have HRD := Lib.hid hrd
    clear hO hrd
    go_wp2
    exact HR.out _ _ ⟨⟨_, rfl, by rw [if_pos trivial]; exact HRD.out⟩, bw3⟩
  · have dne : ((E : Int) != 0) = true := by rw [bne_iff_ne]; omega
    have HZ := Lib.hid hz
    clear hf hz
    go_wp2
    exact HR.out _ _ ⟨⟨_, rfl, by rw [if_neg HZ.out]; exact RdE.nil _ _⟩, b1⟩
end Go.Proofs.YtgiemhooeoakmaaDoor

namespace Go.Proofs.YtgiemhooeoakmaaDoor
open Go.RowKit Go.ChangeShapes Go.WideShapes
set_option linter.unusedVariables false
set_option linter.unusedSimpArgs false

theorem BlkV.new3 {w : World} {t2 t : TypeId} {u u' u'' : Value} {n n' n'' : Nat} {cs cs' cs'' : Array Value} (h : Blk w u n t cs) (h' : Blk w u' n' t cs') (h'' : Blk w u'' n'' t cs'') : BlkV (w.alloc (.cells #[u, u', u''] t2)) (.slice (some ⟨w.heap.size, 0, none⟩) 3 3) t2 t [(n, cs), (n', cs'), (n'', cs'')] :=
  ⟨[u, u', u''], Blk.new w 3 t2 #[u, u', u''], Each.cons (y := (n, cs)) (h.alloc _) (Each.cons (y := (n', cs')) (h'.alloc _) (Each.cons (y := (n'', cs'')) (h''.alloc _) Each.nil))⟩
def exC : List Col := [⟨⟨#[97]⟩, 2, true⟩]
def exK : List KeyP := [⟨⟨#[97]⟩, true⟩]
def exRows : VTab := [[⟨2, ⟨#[]⟩, 1, false⟩], [⟨0, ⟨#[]⟩, 0, false⟩], [⟨2, ⟨#[]⟩, 3, false⟩]]
set_option maxHeartbeats 4000000 in
set_option maxRecDepth 100000 in
theorem awake22_any (w : World) (hT : Tab w) : Calls Tryd.prog 42 #[] w fun e w' => e = .returned (.bool true) ∧ Below w.heap.size w w' := by
  refine cps fun R HR => ?_
  have E1 := Lib.hid (show byE exC exK exRows = 0 ∧ sortK exC exK exRows = [[⟨2, ⟨#[]⟩, 3, false⟩], [⟨2, ⟨#[]⟩, 1, false⟩], [⟨0, ⟨#[]⟩, 0, false⟩]] by decide +kernel)
  obtain ⟨w6, hw6⟩ : ∃ w6, w6 = (((((w.alloc (.cells #[.string ⟨#[97]⟩, .int .i64 2, .bool true] 99)).alloc (.cells #[.string ⟨#[97]⟩, .bool true] 146)).alloc (.cells #[.int .i64 2, .string ⟨#[]⟩, .int .i64 1, .bool false] 96)).alloc (.cells #[.int .i64 0, .string ⟨#[]⟩, .int .i64 0, .bool false] 96)).alloc (.cells #[.int .i64 2, .string ⟨#[]⟩, .int .i64 3, .bool false] 96)).alloc (.cells #[.slice (some ⟨w.heap.size + 2, 0, none⟩) 1 1, .slice (some ⟨w.heap.size + 3, 0, none⟩) 1 1, .slice (some ⟨w.heap.size + 4, 0, none⟩) 1 1] 61) := ⟨_, rfl⟩
  have b6 : Below w.heap.size w w6 := by
    rw [hw6]
    exact ((((((Below.refl _ _).alloc (by simp) _).alloc (by simp) _).alloc (by simp; omega) _).alloc (by simp; omega) _).alloc (by simp; omega) _).alloc (by simp; omega) _
  have hC : Blk w6 (.slice (some ⟨w.heap.size, 0, none⟩) 1 1) 1 99 #[.string ⟨#[97]⟩, .int .i64 2, .bool true] := by
    rw [hw6]
    exact (((((Blk.new w 1 _ _).alloc _).alloc _).alloc _).alloc _).alloc _
  obtain ⟨g, hg⟩ : ∃ g, g = w.heap.size := ⟨_, rfl⟩
  obtain ⟨w1, hw1⟩ : ∃ w1, w1 = w.alloc (.cells #[.string ⟨#[97]⟩, .int .i64 2, .bool true] 99) := ⟨_, rfl⟩
  have s1 : w1.heap.size = w.heap.size + 1 := by rw [hw1]; simp
  rw [← hw1] at hw6
  have hK : Blk w6 (.slice (some ⟨w.heap.size + 1, 0, none⟩) 1 1) 1 146 #[.string ⟨#[97]⟩, .bool true] := by
    rw [hw6, ← s1]
    exact ((((Blk.new w1 1 _ _).alloc _).alloc _).alloc _).alloc _
  obtain ⟨w2, hw2⟩ : ∃ w2, w2 = w1.alloc (.cells #[.string ⟨#[97]⟩, .bool true] 146) := ⟨_, rfl⟩
  have s2 : w2.heap.size = w.heap.size + 2 := by rw [hw2]; simp; omega
  obtain ⟨w3, hw3⟩ : ∃ w3, w3 = w2.alloc (.cells #[.int .i64 2, .string ⟨#[]⟩, .int .i64 1, .bool false] 96) := ⟨_, rfl⟩
  have s3 : w3.heap.size = w.heap.size + 3 := by rw [hw3]; simp; omega
  obtain ⟨w4, hw4⟩ : ∃ w4, w4 = w3.alloc (.cells #[.int .i64 0, .string ⟨#[]⟩, .int .i64 0, .bool false] 96) := ⟨_, rfl⟩
  have s4 : w4.heap.size = w.heap.size + 4 := by rw [hw4]; simp; omega
  obtain ⟨w5, hw5⟩ : ∃ w5, w5 = w4.alloc (.cells #[.int .i64 2, .string ⟨#[]⟩, .int .i64 3, .bool false] 96) := ⟨_, rfl⟩
  have s5 : w5.heap.size = w.heap.size + 5 := by rw [hw5]; simp; omega
  have hV : BlkV w6 (.slice (some ⟨w.heap.size + 5, 0, none⟩) 3 3) 61 96 [(1, #[.int .i64 2, .string ⟨#[]⟩, .int .i64 1, .bool false]), (1, #[.int .i64 0, .string ⟨#[]⟩, .int .i64 0, .bool false]), (1, #[.int .i64 2, .string ⟨#[]⟩, .int .i64 3, .bool false])] := by
    have r1 := (((Blk.new w2 1 96 #[.int .i64 2, .string ⟨#[]⟩, .int .i64 1, .bool false]).alloc (.cells #[.int .i64 0, .string ⟨#[]⟩, .int .i64 0, .bool false] 96)).alloc (.cells #[.int .i64 2, .string ⟨#[]⟩, .int .i64 3, .bool false] 96))
    have r2 := ((Blk.new w3 1 96 #[.int .i64 0, .string ⟨#[]⟩, .int .i64 0, .bool false]).alloc (.cells #[.int .i64 2, .string ⟨#[]⟩, .int .i64 3, .bool false] 96))
    have r3 := Blk.new w4 1 96 #[.int .i64 2, .string ⟨#[]⟩, .int .i64 3, .bool false]
    rw [← hw3, ← hw4, ← hw5, s2] at r1
    rw [← hw4, ← hw5, s3] at r2
    rw [← hw5, s4] at r3
    have := BlkV.new3 (t2 := 61) r1 r2 r3
    rw [hw6, ← hw2, ← hw3, ← hw4, ← hw5, ← s5]
    exact this
  have rC := hC.rd (f := colV) (s := 3) exC rfl colV_len rfl (by decide)
  have rK := hK.rd (f := keyV) (s := 2) exK rfl keyV_len rfl (by decide)
  have rV := hV.rd (f := valV) (s := 4) exRows rfl valV_len (by decide) (by decide)
  rw [hw1] at hw6
  have HC := Lib.hid rC; have HK := Lib.hid rK; have HV := Lib.hid rV; have HB6 := Lib.hid b6; have HW6 := Lib.hid hw6; have HT := Lib.hid hT
  clear hC hK hV rC rK rV b6 hw6 hT hw1 hw2 hw3 hw4 hw5 s1 s2 s3 s4 s5 w1 w2 w3 w4 w5 hg g
  go_enter Tryd.func42, Tryd.ntmps42
  go_wp2_with fail
  rw [← HW6.out]
  refine (osort_any _ _ _ exK exC exRows _ HK.out HC.out HV.out (by decide) (by decide) (by decide) (HT.out.below HB6.out)).mono ?_
  rintro e w7 ⟨⟨u, rfl, hu⟩, b7⟩
  rw [E1.out.1] at hu
  rw [E1.out.1]
  rw [if_pos rfl, E1.out.2] at hu
  have bw7 := HB6.out.trans (b7.mono HB6.out.size)
  obtain ⟨a1, d1, u1, rfl, k1, t1⟩ := hu.at (k := 0) (by decide)
  obtain ⟨a2, d2, u2, hv, k2, t2⟩ := hu.at (k := 1) (by decide)
  injection hv with hA _ hcc
  injection hA with hA
  subst hA
  subst hcc
  obtain ⟨a2, d2, u3, hv, k3, t3⟩ := hu.at (k := 2) (by decide)
  injection hv with hA _ hcc
  injection hA with hA
  subst hA
  subst hcc
  obtain ⟨p1, q1, rfl, -, -, n1, -⟩ := RdV.at t1 (k := 0) (by decide)
  obtain ⟨p2, q2, rfl, -, -, n2, -⟩ := RdV.at t2 (k := 0) (by decide)
  obtain ⟨p3, q3, rfl, n3, -, -, -⟩ := RdV.at t3 (k := 0) (by decide)
  simp [Addr.add] at k1 k2 k3 n1 n2 n3
  clear hu t1 t2 t3
  go_wp2
  exact HR.out _ _ ⟨rfl, bw7⟩
end Go.Proofs.YtgiemhooeoakmaaDoor

namespace Go.Proofs.YtgiemhooeoakmaaDoor
open Go.RowKit Go.ChangeShapes Go.WideShapes
set_option linter.unusedVariables false
set_option linter.unusedSimpArgs false

set_option maxHeartbeats 4000000 in
set_option maxRecDepth 100000 in
theorem few22_any (vk vl vr : Value) (ks : List KeyP) (l : List Col) (t : VTab) (w : World) (hk : RdKey w w.heap.size vk ks) (hl : RdC w w.heap.size vl l) (hr : RdVT w w.heap.size vr t) :
    Calls Tryd.prog 41 #[.agg #[vk, vl, vr]] w fun e w' => (∃ g : Bool, e = .returned (.bool g) ∧ (g = true → fewTab l t ∧ ks.length ≤ 12)) ∧ Below w.heap.size w w' := by
  refine cps fun R HR => ?_
  have g1 := hk; have g2 := hl; have g3 := hr
  obtain ⟨A1, c1, rfl, -⟩ := hk.is
  obtain ⟨A2, c2, rfl, -⟩ := hl.is
  obtain ⟨A3, c3, vs, rfl, -, -⟩ := hr.is
  have hfk := RdF.few g1
  have hfr := g3.few
  clear hk hl hr
  obtain ⟨w0, hw0⟩ : ∃ w0, w0 = w.alloc (.cells #[.slice A1 ks.length c1, .slice A2 l.length c2, .slice A3 t.length c3] 75) := ⟨_, rfl⟩
  have bw0 : Below w.heap.size w w0 := by rw [hw0]; exact (Below.refl _ _).alloc (Nat.le_refl _) _
  have X := Box.new w 75 #[.slice A1 ks.length c1, .slice A2 l.length c2, .slice A3 t.length c3]
  rw [← hw0] at X
  have x0 := X.cell 0
  have x1 := X.cell 1
  simp at x0 x1
  have HX := Lib.hid X; have HW0 := Lib.hid hw0; have HB0 := Lib.hid bw0
  clear X bw0
  rw [hw0] at x0 x1
  clear hw0
  go_enter Tryd.func41, Tryd.ntmps41
  by_cases hk12 : ks.length ≤ 12
  · have d0 : decide ((12 : Int) < ks.length) = false := decide_eq_false (by omega)
    go_wp2_with fail
    rw [← HW0.out]
    refine (fewCols_any _ l _ (RdF.next g2 HB0.out)).mono ?_
    rintro e w1 ⟨⟨g, rfl, hg⟩, b1⟩
    have bw1 := HB0.out.trans (b1.mono HB0.out.size)
    have X1 := HX.out.below b1 HX.out.lt
    have y2 := X1.cell 2
    simp at y2
    clear x0 x1
    cases g
    · clear hg
      go_wp2
      exact HR.out _ _ ⟨⟨false, rfl, fun h => by cases h⟩, bw1⟩
    · have HC := Lib.hid (hg rfl)
      clear hg
      go_wp2_with fail
      refine (small_any _ t _ (RdE.next (RdF.stays valV 4) g3 bw1)).mono ?_
      rintro e w2 ⟨⟨g, rfl, hg⟩, b2⟩
      have bw2 := bw1.trans (b2.mono bw1.size)
      have X2 := X1.below b2 X1.lt
      have z0 := X2.cell 0
      simp at z0
      have HX2 := Lib.hid X2
      clear y2 X1 X2
      cases g
      · clear hg
        go_wp2
        exact HR.out _ _ ⟨⟨false, rfl, fun h => by cases h⟩, bw2⟩
      · have HSM := Lib.hid (hg rfl)
        clear hg
        obtain ⟨w5, rfl⟩ : ∃ w5 : World, w5 = w2 := ⟨_, rfl⟩
        go_wp2
        go_loopw [28] (fun i wr => ∃ k : Nat, k ≤ ks.length ∧ i = .int .i64 k ∧ Below w5.heap.size w5 wr) (fun i _ => ks.length - (intOf i).toNat)
        case atStart => exact ⟨0, Nat.zero_le _, rfl, Below.refl _ _⟩
        case round =>
          obtain ⟨k, hk, rfl, hB⟩ := hrel
          have bw := bw2.trans (hB.mono bw2.size)
          by_cases hlt : k < ks.length
          · obtain ⟨p, c6, hv, q0, q1⟩ := RdKey.at (RdF.next g1 bw) hlt
            injection hv with hA hln hcc
            subst hA
            subst hcc
            clear hln
            obtain ⟨x, hx⟩ : ∃ x, x = ks[k] := ⟨_, rfl⟩
            rw [← hx] at q0 q1
            clear hx
            obtain ⟨xc, xd⟩ := x
            dsimp only at q0 q1
            have dk : decide ((k : Int) < ks.length) = true := decide_eq_true (by omega)
            have hB1 := hB.alloc hB.size (.cells #[.string xc, .bool xd] 146)
            have bw1' := bw2.trans (hB1.mono bw2.size)
            by_cases hxl : xc.size ≤ 100
            · have d3 : decide ((100 : Int) < xc.size) = false := decide_eq_false (by omega)
              clear hxl
              go_wp2
              exact ⟨⟨k + 1, by omega, by go_num, hB1⟩, by simp [intOf]; omega⟩
            · have d3 : decide ((100 : Int) < xc.size) = true := decide_eq_true (by omega)
              clear hxl
              go_wp2
              exact HR.out _ _ ⟨⟨false, rfl, fun h => by cases h⟩, bw1'⟩
          · have X3 := HX2.out.below hB HX2.out.lt
            have z2 := X3.cell 2
            simp at z2
            clear z0
            obtain ⟨w6, rfl⟩ : ∃ w6 : World, w6 = wr := ⟨_, rfl⟩
            go_wp2
            go_loopw [40] (fun i wr => ∃ k : Nat, k ≤ t.length ∧ i = .int .i64 k ∧ Below w.heap.size w wr) (fun i _ => t.length - (intOf i).toNat)
            case atStart => exact ⟨0, Nat.zero_le _, rfl, bw⟩
            case round =>
              obtain ⟨k, hk, rfl, hB⟩ := hrel
              obtain ⟨w3, rfl⟩ : ∃ w3 : World, w3 = wr := ⟨_, rfl⟩
              by_cases hlt : k < t.length
              · obtain ⟨a, c3', u, hv, hc, hu⟩ := (RdE.next (RdF.stays valV 4) g3 hB).at hlt
                injection hv with hA _ hcc
                subst hA
                subst hcc
                have hsx := fun y hy => (HSM.out.2 _ (List.getElem_mem hlt)).2 y hy
                obtain ⟨x, hx⟩ : ∃ x, x = t[k] := ⟨_, rfl⟩
                rw [← hx] at hu hsx
                have HSX := Lib.hid hsx
                clear hx hsx
                have hu0 := hu
                obtain ⟨A9, c9, rfl, -⟩ := hu.is
                have hxf := RdF.few hu0
                clear hu
                have dk : decide ((k : Int) < t.length) = true := decide_eq_true (by omega)
                go_wp2
                go_loopw [46] (fun i wr => ∃ m : Nat, m ≤ x.length ∧ i = .int .i64 m ∧ Below w3.heap.size w3 wr) (fun i _ => x.length - (intOf i).toNat)
                case atStart => exact ⟨0, Nat.zero_le _, rfl, Below.refl _ _⟩
                case round =>
                  obtain ⟨m, hm, rfl, hB3⟩ := hrel
                  by_cases hlt2 : m < x.length
                  · obtain ⟨a2, c5, hv2, q0, q1, q2, q3⟩ := RdV.at (hu0.below hB3) hlt2
                    injection hv2 with hA _ hcc
                    subst hA
                    subst hcc
                    have hys := HSX.out _ (List.getElem_mem hlt2)
                    obtain ⟨y, hy⟩ : ∃ y, y = x[m] := ⟨_, rfl⟩
                    rw [← hy] at q0 q1 q2 q3 hys
                    obtain ⟨yk, ys, yn, yb⟩ := y
                    clear hy
                    have dm : decide ((m : Int) < x.length) = true := decide_eq_true (by omega)
                    have hb3 := hB3.alloc hB3.size (.cells #[.int .i64 yk, .string ys, .int .i64 yn, .bool yb] 96)
                    have hys2 : ys.size ≤ 100000 := Nat.le_trans hys (by omega)
                    go_wp2_with fail
                    refine (refVal_at yk yn _ ys yb _ rfl).mono ?_
                    rintro e w4 ⟨rfl, b4⟩
                    have hb4 := hb3.trans (b4.mono hb3.size)
                    go_wp2_with fail
                    refine (right_any yk yn _ ys _ hys2).mono ?_
                    rintro e w7 ⟨⟨g, rfl⟩, b7⟩
                    have hb7 := hb4.trans (b7.mono hb4.size)
                    cases g
                    · go_wp2
                      exact HR.out _ _ ⟨⟨false, rfl, fun h => by cases h⟩, hB.trans (hb7.mono hB.size)⟩
                    · go_wp2
                      exact ⟨⟨m + 1, by omega, by go_num, hb7⟩, by simp [intOf]; omega⟩
                  · obtain rfl : m = x.length := by omega
                    go_wp2
                    exact ⟨⟨k + 1, by omega, by go_num, hB.trans (hB3.mono hB.size)⟩, by simp [intOf]; omega⟩
              · go_wp2
                exact HR.out _ _ ⟨⟨true, rfl, fun _ => ⟨⟨HC.out, HSM.out⟩, hk12⟩⟩, hB⟩
  · have d0 : decide ((12 : Int) < ks.length) = true := decide_eq_true (by omega)
    clear hk12 x1
    go_wp2
    rw [← HW0.out]
    exact HR.out _ _ ⟨⟨false, rfl, fun h => by cases h⟩, HB0.out⟩
section
variable {H : Type} {enc : TypeId × Value → H} {w : World} {base : Nat} {spare : Nat → Bool} {held : Bool}
set_option maxRecDepth 100000 in
theorem open_key {f : Nat} {cs : List Value} {y : DataW H × List MemPlace} (h : DataW.trod enc Tryd.prog w base spare held f 146 cs = some y) : ∃ c, cs = keyV c := by
  obtain ⟨y0, y1, n, rfl, hl, h0, h1⟩ := trod_struct2 Tryd.underlying146 h
  have hl3 : cs.length = 2 := by rw [hl]; kernel_rfl
  match cs, hl3 with
  | [a, b], _ =>
    have c1 : Tryd.prog.cellsOf 9 = 1 := by kernel_rfl
    have c3 : Tryd.prog.cellsOf 4 = 1 := by kernel_rfl
    simp only [c1, c3] at h0 h1
    obtain ⟨s, g0, -, -⟩ := DataW.trod_string Tryd.underlying9 h0
    obtain ⟨b2, g1, -⟩ := DataW.trod_bool Tryd.underlying4 h1
    simp at g0 g1
    exact ⟨⟨s, b2⟩, by simp [keyV, g0, g1]⟩
set_option maxRecDepth 100000 in
theorem open_keysF {fuel : Nat} {v : Value} {x : DataW H × List MemPlace} (hf : DataW.trod enc Tryd.prog w base spare held fuel 73 [v] = some x) (hsz : Sized Tryd.prog 73 x.1) : ∃ l, RdKey w w.heap.size v l := by
  obtain ⟨A, n, c, xs, h1, h2, h3⟩ := open_sl (size := 2) Tryd.underlying73 (by kernel_rfl) (by omega) (of_decide_eq_true (by kernel_rfl)) hf hsz
  obtain ⟨l, hl, rfl⟩ : ∃ l : List KeyP, l.length = n ∧ xs = l.flatMap keyV := by
    have key : ∀ k, k ≤ n → ∃ l : List KeyP, l.length = k ∧ xs.take (k * 2) = l.flatMap keyV := by
      intro k
      induction k with
      | zero => exact fun _ => ⟨[], rfl, by simp⟩
      | succ k ih =>
        intro hk
        obtain ⟨l, hl, he⟩ := ih (by omega)
        obtain ⟨f, y, hy, -⟩ := h3 k (by omega)
        obtain ⟨c, hc⟩ := open_key hy
        refine ⟨l ++ [c], by simp [hl], ?_⟩
        rw [List.flatMap_append, ← he, Nat.succ_mul, List.take_add, hc]
        simp
    obtain ⟨l, hl, he⟩ := key n (Nat.le_refl _)
    exact ⟨l, hl, by rw [← he, List.take_of_length_le (by rw [h2.len]; exact Nat.le_refl _)]⟩
  subst hl
  exact ⟨l, A, c, h1, h2⟩
theorem array3 {cs : Array Value} (h : cs.size = 3) : ∃ a b c, cs = #[a, b, c] := by
  obtain ⟨l⟩ := cs
  match l, h with
  | [a, b, c], _ => exact ⟨a, b, c, rfl⟩
set_option maxRecDepth 100000 in
theorem open_case22 {v : Value} {d : DataW H} {p : List MemPlace} {r : Reach} {b0 : Nat} (hv : Value.okWide Tryd.prog w r b0 75 v) (h : DataW.Trod enc Tryd.prog w base spare held 75 v d p) (hsz : Sized Tryd.prog 75 d) :
    ∃ vk vl vr ks l t, v = .agg #[vk, vl, vr] ∧ RdKey w w.heap.size vk ks ∧ RdC w w.heap.size vl l ∧ RdVT w w.heap.size vr t := by
  obtain ⟨cs, rfl, hs⟩ := okWide_struct Tryd.underlying75 hv
  obtain ⟨v1, v2, v3, rfl⟩ := array3 (hs.trans (by kernel_rfl))
  obtain ⟨fuel, hf⟩ := h
  obtain ⟨y0, y1, y2, n, hx, _, h0, h1, h2⟩ := Go.Deep.trod_struct3 Tryd.underlying75 hf
  have c1 : Tryd.prog.cellsOf 73 = 1 := by kernel_rfl
  have c2 : Tryd.prog.cellsOf 22 = 1 := by kernel_rfl
  have c3 : Tryd.prog.cellsOf 23 = 1 := by kernel_rfl
  simp only [c1, c2, c3] at h0 h1 h2
  simp only [Prod.mk.injEq] at hx
  obtain ⟨rfl, rfl⟩ := hx
  obtain ⟨ks, q1⟩ := open_keysF (v := v1) (by simpa [Value.cells] using h0) (hsz.field Tryd.underlying75 (i := 0) rfl rfl)
  obtain ⟨l, q2⟩ := open_colsF (v := v2) (by simpa [Value.cells] using h1) (hsz.field Tryd.underlying75 (i := 1) rfl rfl)
  obtain ⟨t, q3⟩ := open_vtab (v := v3) (by simpa [Value.cells] using h2) (hsz.field Tryd.underlying75 (i := 2) rfl rfl)
  exact ⟨v1, v2, v3, ks, l, t, rfl, q1, q2, q3⟩
end
end Go.Proofs.YtgiemhooeoakmaaDoor


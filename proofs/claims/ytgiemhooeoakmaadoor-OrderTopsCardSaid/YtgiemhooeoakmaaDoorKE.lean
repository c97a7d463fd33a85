/- Layer 20: values, rows, tables as the reference has them; are two alike? Layer 20, the reference: are two rows, two tables alike? Layers 17, 20, 23: may a value be; are columns few, rows small, tables few? Tables as the reference has them. Layers 17, 23: may a value be; is a table few? A table as the reference has it. Layer 23: a table as the reference has it. -/
import Derived.Lib.QuietBelow
import Derived.Laws.StructEq
import Derived.Deep.RegionHeld3
import Derived.Test.YtgiemhooeoakmaaDoorKA
import Derived.Test.YtgiemhooeoakmaaDoorKC
namespace Go.Proofs.YtgiemhooeoakmaaDoor
open Go.RowKit Go.ChangeShapes Go.WideShapes
set_option linter.unusedVariables false
set_option linter.unusedSimpArgs false

theorem refVal_at (k n m : Int) (s : ByteArray) (b : Bool) (w : World) (hm : nullI b = m) :
    Calls Tryd.prog 77 #[.agg #[.int .i64 k, .string s, .int .i64 n, .bool b]] w fun e w' => e = .returned (.agg #[.int .i64 k, .string s, .int .i64 n, .int .i64 m]) ∧ Below w.heap.size w w' := by
  refine cps fun R HR => ?_
  have X : ∀ m : Int, Box (((w.alloc (.cells #[.int .i64 k, .string s, .int .i64 n, .bool b] 96)).alloc (.cells #[.int .i64 k, .string s, .int .i64 n, .int .i64 m] 112)).alloc (.cells #[.int .i64 k, .string s, .int .i64 n, .int .i64 m] 112)) (w.heap.size + 1) 112 #[.int .i64 k, .string s, .int .i64 n, .int .i64 m] := fun m => by
    have := (Box.new (w.alloc (.cells #[.int .i64 k, .string s, .int .i64 n, .bool b] 96)) 112 #[.int .i64 k, .string s, .int .i64 n, .int .i64 m]).alloc (.cells #[.int .i64 k, .string s, .int .i64 n, .int .i64 m] 112)
    simpa using this
  have bel : ∀ o1 o2 o3 : Obj, Below w.heap.size w (((w.alloc o1).alloc o2).alloc o3) := fun _ _ _ => (((Below.refl w.heap.size w).alloc (Nat.le_refl _) _).alloc (by simp) _).alloc (by simp; omega) _
  have HX := Lib.hid (X m)
  clear X
  go_enter Tryd.func77, Tryd.ntmps77
  cases b
  · have h0 : m = 0 := hm.symm
    subst h0
    clear hm
    go_wp2
    have c0 := HX.out.cell 0
    have c1 := HX.out.cell 1
    have c2 := HX.out.cell 2
    have c3 := HX.out.cell 3
    simp at c0 c1 c2 c3
    refine bodyPost_ret (v := .agg #[.int .i64 k, .string s, .int .i64 n, .int .i64 0]) (by simp [results, Tryd.results77, go_sem, c0, c1, c2, c3]) rfl (HR.out _ _ ⟨rfl, bel _ _ _⟩)
  · have h0 : m = 1 := hm.symm
    subst h0
    clear hm
    go_wp2
    have c0 := HX.out.cell 0
    have c1 := HX.out.cell 1
    have c2 := HX.out.cell 2
    have c3 := HX.out.cell 3
    simp at c0 c1 c2 c3
    refine bodyPost_ret (v := .agg #[.int .i64 k, .string s, .int .i64 n, .int .i64 1]) (by simp [results, Tryd.results77, go_sem, c0, c1, c2, c3]) rfl (HR.out _ _ ⟨rfl, bel _ _ _⟩)
theorem refVal_any (v : Val) (w : World) : Calls Tryd.prog 77 #[valA v] w fun e w' => e = .returned (rvalA v) ∧ Below w.heap.size w w' :=
  refVal_at v.kind v.n _ v.s v.b w rfl
set_option maxHeartbeats 1000000 in
theorem refRow_any (v : Value) (l : VRow) (w : World) (h : RdV w w.heap.size v l) (hl : l.length ≤ 100000) :
    Calls Tryd.prog 34 #[v] w fun e w' => ∃ o, e = .returned o ∧ Own w' w.heap.size 112 4 o l.length (l.flatMap rvalV) ∧ Below w.heap.size w w' := by
  refine cps fun R HR => ?_
  obtain ⟨i0, hi0, hz0, hz1, hz2⟩ := info_parts rval_info
  have h0 := h
  obtain ⟨A, c, rfl, -⟩ := h.is
  clear h
  go_enter Tryd.func34, Tryd.ntmps34
  go_wp2
  go_loopw [3, 8] (fun o i wr => ∃ k : Nat, k ≤ l.length ∧ i = .int .i64 k ∧ Own wr w.heap.size 112 4 o k ((l.take k).flatMap rvalV) ∧ Below w.heap.size w wr) (fun _ i _ => l.length - (intOf i).toNat)
  case atStart => exact ⟨0, Nat.zero_le _, rfl, Own.nil_ _ _ _ _, Below.refl _ _⟩
  case round =>
    obtain ⟨k, hk, rfl, hO, hB⟩ := hrel
    by_cases hlt : k < l.length
    · obtain ⟨a, c3, hv, q0, q1, q2, q3⟩ := RdV.at (h0.below hB) hlt
      injection hv with hA _ hcc
      subst hA
      subst hcc
      have hs1 : (l.take (k + 1)).flatMap rvalV = (l.take k).flatMap rvalV ++ rvalV l[k] := by rw [List.take_succ_eq_append_getElem hlt, rval_snoc]
      obtain ⟨x, hx⟩ : ∃ x, x = l[k] := ⟨_, rfl⟩
      rw [← hx] at q0 q1 q2 q3 hs1
      obtain ⟨xk, xs, xn, xb⟩ := x
      obtain ⟨m, hm⟩ : ∃ m, m = nullI xb := ⟨_, rfl⟩
      have hv1 : rvalV ⟨xk, xs, xn, xb⟩ = (#[.int .i64 xk, .string xs, .int .i64 xn, .int .i64 m] : Array Value).toList := by rw [hm]; rfl
      have ho1 := rval_one ⟨xk, xs, xn, xb⟩
      rw [hv1] at hs1 ho1
      have S1 := Lib.hid hs1; have O1 := Lib.hid ho1; have HM := Lib.hid hm
      clear hx hs1 hv1 ho1 hm
      have dk : decide ((k : Int) < l.length) = true := decide_eq_true (by omega)
      have hOw := hO.below ((Below.refl wr.heap.size wr).alloc (Nat.le_refl _) (.cells #[.int .i64 xk, .string xs, .int .i64 xn, .bool xb] 96)) (Nat.le_refl _)
      have hBw := hB.alloc hB.size (.cells #[.int .i64 xk, .string xs, .int .i64 xn, .bool xb] 96)
      go_wp2_with fail
      refine (refVal_at xk xn m xs xb _ HM.out.symm).mono ?_
      rintro e w4 ⟨rfl, b4⟩
      have hO4 := hOw.below b4 (Nat.le_refl _)
      have hB4 := hBw.trans (b4.mono hBw.size)
      go_wp2_with (at_builtin; refine wpList_pushF rfl _ _ _ rfl w.heap.size 112 i0 _ 4 40 Tryd.underlying63 hi0 hz0 hz1 hz2 rfl (by omega) (by omega) u3 k _ #[.int .i64 xk, .string xs, .int .i64 xn, .int .i64 m] rfl rfl hO4 (by simp [Act.eval]) O1.out (by omega) hB4.size ?_; intro v5 w5 hown5 hg5 hat5)
      exact ⟨⟨k + 1, by omega, by go_num, by rw [S1.out]; exact hown5, below_grown hB4 hg5 (fun g hg => (hO.lt g hg).1) hB4.size⟩, by simp [intOf]; omega⟩
    · obtain rfl : k = l.length := by omega
      rw [List.take_length] at hO
      clear hlt
      go_wp2
      exact HR.out _ _ ⟨_, rfl, hO, hB⟩
abbrev TabRV (w : World) (base : Nat) (v : Value) (t : VTab) : Prop := TabY rvalV 4 112 63 w base v t
set_option maxHeartbeats 1000000 in
theorem refRows_any (v : Value) (t : VTab) (w : World) (h : RdVT w w.heap.size v t) (hl : t.length ≤ 100000) (hr : ∀ r ∈ t, r.length ≤ 100000) :
    Calls Tryd.prog 30 #[v] w fun e w' => ∃ o, e = .returned o ∧ TabRV w' w.heap.size o t ∧ Below w.heap.size w w' := by
  refine cps fun R HR => ?_
  obtain ⟨i0, hi0, hz0, hz1, hz2⟩ := info_parts rvrow_info
  have h0 := h
  obtain ⟨A, c, vs, rfl, -, -⟩ := h.is
  have HRr := Lib.hid hr
  clear h hr
  go_enter Tryd.func30, Tryd.ntmps30
  go_wp2
  go_loopw [3, 8] (fun o i wr => ∃ k : Nat, k ≤ t.length ∧ i = .int .i64 k ∧ TabRV wr w.heap.size o (t.take k) ∧ Below w.heap.size w wr) (fun _ i _ => t.length - (intOf i).toNat)
  case atStart => exact ⟨0, Nat.zero_le _, rfl, TabY.none_ _ _, Below.refl _ _⟩
  case round =>
    obtain ⟨k, hk, rfl, hO, hB⟩ := hrel
    by_cases hlt : k < t.length
    · obtain ⟨a, c3, u, hv, hc, hu⟩ := (RdE.next (RdF.stays valV 4) h0 hB).at hlt
      injection hv with hA _ hcc
      subst hA
      subst hcc
      have hs1 : t.take (k + 1) = t.take k ++ [t[k]] := List.take_succ_eq_append_getElem hlt
      have hrl := HRr.out _ (List.getElem_mem hlt)
      obtain ⟨x, hx⟩ : ∃ x, x = t[k] := ⟨_, rfl⟩
      rw [← hx] at hu hs1 hrl
      have S1 := Lib.hid hs1
      clear hx hs1
      have hu0 := hu
      obtain ⟨A2, c2, rfl, -⟩ := hu.is
      have dk : decide ((k : Int) < t.length) = true := decide_eq_true (by omega)
      clear hu
      go_wp2_with fail
      refine (refRow_any _ x _ hu0 hrl).mono ?_
      rintro e w2 ⟨y, rfl, hy, b2⟩
      have hb2 := hB.trans (b2.mono hB.size)
      have hO2 := hO.keep b2
      obtain ⟨vs2, ho3, he3⟩ := hO2.is
      have hkl : (t.take k).length = k := by rw [List.length_take]; omega
      rw [hkl] at ho3
      have hy0 := hy
      obtain ⟨yA, yc, rfl, -⟩ := hy.form
      go_wp2_with (at_builtin; refine wpList_push rfl _ _ _ rfl w.heap.size 63 i0 _ 24 Tryd.underlying37 hi0 hz0 hz1 hz2 rfl (by omega) u3 k _ (.slice yA x.length yc) rfl ho3 rfl rfl (by omega) hb2.size ?_; intro v3 w3 hown3 hg3 hat3)
      have hn := TabY.push (t := t.take k) (by rw [hkl]; exact hown3) he3 hy0 hB.size (fun g hg => (hO.lt g hg).2) hg3 hat3
      rw [← S1.out] at hn
      exact ⟨⟨k + 1, by omega, by go_num, hn, below_grown hb2 hg3 (fun g hg => (hO.lt g hg).1) hb2.size⟩, by simp [intOf]; omega⟩
    · obtain rfl : k = t.length := by omega
      rw [List.take_length] at hO
      clear hlt
      go_wp2
      exact HR.out _ _ ⟨_, rfl, hO, hB⟩
end Go.Proofs.YtgiemhooeoakmaaDoor

namespace Go.Proofs.YtgiemhooeoakmaaDoor
open Go.RowKit Go.ChangeShapes Go.WideShapes
set_option linter.unusedVariables false
set_option linter.unusedSimpArgs false

def sameV (a b : VRow) : Bool := decide (a = b)
def sameVT (a b : VTab) : Bool := decide (a = b)
theorem sameVR (a : VRow) : sameV a a = true := decide_eq_true rfl
theorem sameVTR (a : VTab) : sameVT a a = true := decide_eq_true rfl
set_option maxHeartbeats 2000000 in
theorem sameV_any (v1 v2 : Value) (a b : VRow) (w : World) (h1 : RdRV w w.heap.size v1 a) (h2 : RdRV w w.heap.size v2 b) :
    Calls Tryd.prog 33 #[v1, v2] w fun e w' => e = .returned (.bool (sameV a b)) ∧ Below w.heap.size w w' := by
  refine cps fun R HR => ?_
  have g1 := h1; have g2 := h2
  obtain ⟨A, c, rfl, -⟩ := h1.is
  obtain ⟨A', c', rfl, -⟩ := h2.is
  have hf1 := RdF.few g1
  have hf2 := RdF.few g2
  clear h1 h2
  go_enter Tryd.func33, Tryd.ntmps33
  by_cases hl : a.length = b.length
  · have d : ((a.length : Int) != (b.length : Int)) = false := by simp [hl]
    have HL := Lib.hid hl
    go_wp2
    go_loopw [13] (fun i wr => ∃ k : Nat, k ≤ a.length ∧ i = .int .i64 k ∧ a.take k = b.take k ∧ Below w.heap.size w wr) (fun i _ => a.length - (intOf i).toNat)
    case atStart => exact ⟨0, Nat.zero_le _, rfl, rfl, Below.refl _ _⟩
    case round =>
      obtain ⟨k, hk, rfl, hN, hB⟩ := hrel
      have HN := Lib.hid hN; clear hN
      by_cases hlt : k < a.length
      · have hltb : k < b.length := by omega
        obtain ⟨p, c3, hv, q0, q1, q2, q3⟩ := RdRV.at (g1.below hB) hlt
        injection hv with hA _ hcc
        subst hA
        subst hcc
        obtain ⟨p', c4, hv', r0, r1, r2, r3⟩ := RdRV.at (g2.below hB) hltb
        injection hv' with hA _ hcc
        subst hA
        subst hcc
        have hs1 : a.take (k + 1) = a.take k ++ [a[k]] := List.take_succ_eq_append_getElem hlt
        have hs2 : b.take (k + 1) = b.take k ++ [b[k]] := List.take_succ_eq_append_getElem hltb
        obtain ⟨x, hx⟩ : ∃ x, x = a[k] := ⟨_, rfl⟩
        obtain ⟨y, hy⟩ : ∃ y, y = b[k] := ⟨_, rfl⟩
        rw [← hx] at q0 q1 q2 q3 hs1
        rw [← hy] at r0 r1 r2 r3 hs2
        obtain ⟨xk, xs, xn, xb⟩ := x
        obtain ⟨yk, ys, yn, yb⟩ := y
        have S1 := Lib.hid hs1; have S2 := Lib.hid hs2
        clear hx hy hs1 hs2 hl
        have dk : decide ((k : Int) < a.length) = true := decide_eq_true (by omega)
        have hltI : (k : Int) < b.length := by omega
        have hne : (⟨xk, xs, xn, xb⟩ : Val) ≠ ⟨yk, ys, yn, yb⟩ → sameV a b = false := fun hne => by
          unfold sameV
          rw [decide_eq_false_iff_not]
          intro hab
          have h1 := S1.out
          have h2 := S2.out
          rw [hab, h2] at h1
          have h3 := HN.out
          rw [hab] at h3
          exact hne (by simpa using h1.symm)
        have HNE := Lib.hid hne
        clear hne
        by_cases e0 : xk = yk
        · by_cases e1 : xs = ys
          · by_cases e2 : xn = yn
            · by_cases e3 : xb = yb
              · subst e0 e1 e2 e3
                have HNN := Lib.hid (show a.take (k + 1) = b.take (k + 1) by rw [S1.out, S2.out, HN.out])
                go_wp2
                go_quiet (fail)
                go_wp2
                exact ⟨⟨k + 1, by omega, by go_num, HNN.out, below_drewN hB _⟩, by simp [intOf]; omega⟩
              · subst e0 e1 e2
                have HNO := Lib.hid (HNE.out (fun h => by injection h with _ _ _ h; exact e3 h))
                have d4 : (nullI xb == nullI yb) = false := by rw [beq_eq_false_iff_ne]; exact fun h => e3 (nullI_inj h)
                clear e3
                go_wp2
                go_quiet (fail)
                go_wp2
                exact HR.out _ _ ⟨by rw [HNO.out]; try rfl, below_drewN hB _⟩
            · subst e0 e1
              have HNO := Lib.hid (HNE.out (fun h => by injection h with _ _ h _; exact e2 h))
              have d3 : (xn == yn) = false := by rw [beq_eq_false_iff_ne]; exact e2
              clear e2
              go_wp2
              go_quiet (fail)
              go_wp2
              exact HR.out _ _ ⟨by rw [HNO.out]; try rfl, below_drewN hB _⟩
          · subst e0
            have HNO := Lib.hid (HNE.out (fun h => by injection h with _ h _ _; exact e1 h))
            have d2 : (xs.toList == ys.toList) = false := by rw [str_eq]; exact decide_eq_false e1
            clear e1
            go_wp2
            go_quiet (fail)
            go_wp2
            exact HR.out _ _ ⟨by rw [HNO.out]; try rfl, below_drewN hB _⟩
        · have HNO := Lib.hid (HNE.out (fun h => by injection h with h _ _ _; exact e0 h))
          have d1 : (xk == yk) = false := by rw [beq_eq_false_iff_ne]; exact e0
          clear e0
          go_wp2
          go_quiet (fail)
          go_wp2
          exact HR.out _ _ ⟨by rw [HNO.out]; try rfl, below_drewN hB _⟩
      · have HY := Lib.hid (show sameV a b = true by
          unfold sameV
          rw [decide_eq_true_iff]
          have := HN.out
          rw [List.take_of_length_le (by omega), List.take_of_length_le (by omega)] at this
          exact this)
        go_wp2
        exact HR.out _ _ ⟨by rw [HY.out]; try rfl, hB⟩
  · have HNO := Lib.hid (show sameV a b = false by
      unfold sameV
      rw [decide_eq_false_iff_not]
      rintro rfl
      exact hl rfl)
    have d : ((a.length : Int) != (b.length : Int)) = true := by rw [bne_iff_ne]; omega
    clear hl
    go_wp2
    exact HR.out _ _ ⟨by rw [HNO.out]; try rfl, Below.refl _ _⟩
set_option maxHeartbeats 1000000 in
theorem sameVT_any (v1 v2 : Value) (a b : VTab) (w : World) (h1 : RdRVT w w.heap.size v1 a) (h2 : RdRVT w w.heap.size v2 b) :
    Calls Tryd.prog 29 #[v1, v2] w fun e w' => e = .returned (.bool (sameVT a b)) ∧ Below w.heap.size w w' := by
  refine cps fun R HR => ?_
  have g1 := h1; have g2 := h2
  obtain ⟨A, c, vs, rfl, -, -⟩ := h1.is
  obtain ⟨A', c', vs', rfl, -, -⟩ := h2.is
  have hf1 := h1.few
  have hf2 := h2.few
  go_enter Tryd.func29, Tryd.ntmps29
  by_cases hl : a.length = b.length
  · have d : ((a.length : Int) != (b.length : Int)) = false := by simp [hl]
    go_wp2
    go_loopw [13] (fun i wr => ∃ k : Nat, k ≤ a.length ∧ i = .int .i64 k ∧ a.take k = b.take k ∧ Below w.heap.size w wr) (fun i _ => a.length - (intOf i).toNat)
    case atStart => exact ⟨0, Nat.zero_le _, rfl, rfl, Below.refl _ _⟩
    case round =>
      obtain ⟨k, hk, rfl, hN, hB⟩ := hrel
      have HN := Lib.hid hN; clear hN
      by_cases hlt : k < a.length
      · have hltb : k < b.length := by omega
        obtain ⟨p, c3, u, hv, hc, hu⟩ := (RdE.next (RdF.stays rvalV 4) g1 hB).at hlt
        injection hv with hA _ hcc
        subst hA
        subst hcc
        obtain ⟨p', c4, u', hv', hc', hu'⟩ := (RdE.next (RdF.stays rvalV 4) g2 hB).at hltb
        injection hv' with hA _ hcc
        subst hA
        subst hcc
        have hs1 : a.take (k + 1) = a.take k ++ [a[k]] := List.take_succ_eq_append_getElem hlt
        have hs2 : b.take (k + 1) = b.take k ++ [b[k]] := List.take_succ_eq_append_getElem hltb
        obtain ⟨x, hx⟩ : ∃ x, x = a[k] := ⟨_, rfl⟩
        obtain ⟨y, hy⟩ : ∃ y, y = b[k] := ⟨_, rfl⟩
        rw [← hx] at hu hs1
        rw [← hy] at hu' hs2
        have S1 := Lib.hid hs1; have S2 := Lib.hid hs2; have HL := Lib.hid hl
        clear hx hy hs1 hs2 hl h1 h2
        have dk : decide ((k : Int) < a.length) = true := decide_eq_true (by omega)
        have hltI : (k : Int) < b.length := by omega
        have k0 := cell_regrown hc
        have k1 := cell_regrown hc'
        obtain ⟨s, hs⟩ : ∃ s, s = sameV x y := ⟨_, rfl⟩
        have gS : ∀ dn os, Calls Tryd.prog 33 #[u, u'] (Go.Sort.grow (redrawn wr dn) os) fun e w'' => e = .returned (.bool s) ∧ ∃ p : Regrown, w'' = Go.Sort.grow (redrawn wr p.d) p.os := fun dn os => Calls.regrown_of (by
          rw [hs]
          exact sameV_any u u' x y _ (hu.next (below_regrown wr dn os)) (hu'.next (below_regrown wr dn os)))
        have HS := Lib.hid hs; clear hs
        go_wp2
        refine wp_region_quiet_below (by kernel_rfl) (by kernel_rfl) ?_
        repeat (go_big_quiet_step ((go_at_call 33; with_reducible exact gS _ _)))
        refine wpQuiet_nil ?_
        intro w9 hw9
        have bel2 : Below w.heap.size w w9 := by obtain ⟨p, rfl⟩ := hw9; exact hB.trans ((below_regrown _ p.d p.os).mono hB.size)
        clear hw9 gS k0 k1
        cases s with
        | true =>
          have HNN := Lib.hid (show a.take (k + 1) = b.take (k + 1) by rw [S1.out, S2.out, HN.out, of_decide_eq_true HS.out.symm])
          go_wp2
          exact ⟨⟨k + 1, by omega, by go_num, HNN.out, bel2⟩, by simp [intOf]; omega⟩
        | false =>
          have HNO := Lib.hid (show sameVT a b = false by
            unfold sameVT
            rw [decide_eq_false_iff_not]
            intro hab
            have h1 := S1.out
            have h2 := S2.out
            rw [hab, h2] at h1
            have h3 := HN.out
            rw [hab] at h3
            exact of_decide_eq_false HS.out.symm (by simpa using h1.symm))
          go_wp2
          exact HR.out _ _ ⟨by rw [HNO.out]; try rfl, bel2⟩
      · have HY := Lib.hid (show sameVT a b = true by
          unfold sameVT
          rw [decide_eq_true_iff]
          have := HN.out
          rw [List.take_of_length_le (by omega), List.take_of_length_le (by omega)] at this
          exact this)
        go_wp2
        exact HR.out _ _ ⟨by rw [HY.out]; try rfl, hB⟩
  · have HNO := Lib.hid (show sameVT a b = false by
      unfold sameVT
      rw [decide_eq_false_iff_not]
      rintro rfl
      exact hl rfl)
    have d : ((a.length : Int) != (b.length : Int)) = true := by rw [bne_iff_ne]; omega
    clear hl
    go_wp2
    exact HR.out _ _ ⟨by rw [HNO.out]; try rfl, Below.refl _ _⟩
end Go.Proofs.YtgiemhooeoakmaaDoor

namespace Go.Proofs.YtgiemhooeoakmaaDoor
open Go.RowKit Go.ChangeShapes Go.WideShapes
set_option linter.unusedVariables false
set_option linter.unusedSimpArgs false

set_option maxHeartbeats 1000000 in
theorem fewCols_any (v : Value) (l : List Col) (w : World) (h : RdC w w.heap.size v l) :
    Calls Tryd.prog 85 #[v] w fun e w' => (∃ g : Bool, e = .returned (.bool g) ∧ (g = true → l.length ≤ 12 ∧ ∀ c ∈ l, c.name.size ≤ 40)) ∧ Below w.heap.size w w' := by
  refine cps fun R HR => ?_
  have h0 := h
  obtain ⟨A, c, rfl, -⟩ := h.is
  have hfew := RdF.few h0
  clear h
  go_enter Tryd.func85, Tryd.ntmps85
  go_wp2
  go_loopw [7] (fun i wr => ∃ k : Nat, k ≤ l.length ∧ i = .int .i64 k ∧ (∀ c ∈ l.take k, c.name.size ≤ 40) ∧ Below w.heap.size w wr) (fun i _ => l.length - (intOf i).toNat)
  case atStart => exact ⟨0, Nat.zero_le _, rfl, fun c hc => by simp at hc, Below.refl _ _⟩
  case round =>
    obtain ⟨k, hk, rfl, hN, hB⟩ := hrel
    have HN := Lib.hid hN; clear hN
    by_cases hlt : k < l.length
    · obtain ⟨a, c3, hv, q0, q1, q2⟩ := RdC.at (h0.below hB) hlt
      injection hv with hA _ hcc
      subst hA
      subst hcc
      have hs1 : l.take (k + 1) = l.take k ++ [l[k]] := List.take_succ_eq_append_getElem hlt
      obtain ⟨x, hx⟩ : ∃ x, x = l[k] := ⟨_, rfl⟩
      rw [← hx] at q0 q1 q2 hs1
      have S1 := Lib.hid hs1
      clear hx hs1
      have dk : decide ((k : Int) < l.length) = true := decide_eq_true (by omega)
      by_cases hb : 40 < x.name.size
      · have d : decide ((40 : Int) < x.name.size) = true := decide_eq_true (by omega)
        clear hb
        go_wp2
        exact HR.out _ _ ⟨⟨false, rfl, fun h => by cases h⟩, hB.alloc hB.size _⟩
      · have d : decide ((40 : Int) < x.name.size) = false := decide_eq_false (by omega)
        have hn2 : ∀ c ∈ l.take (k + 1), c.name.size ≤ 40 := fun c hc => by
          rw [S1.out] at hc
          rcases List.mem_append.1 hc with h | h
          · exact HN.out c h
          · rw [List.mem_singleton.1 h]; omega
        have N2 := Lib.hid hn2
        clear hb hn2
        go_wp2
        exact ⟨⟨k + 1, by omega, by go_num, N2.out, hB.alloc hB.size _⟩, by simp [intOf]; omega⟩
    · obtain rfl : k = l.length := by omega
      have hn := HN.out
      rw [List.take_length] at hn
      have N2 := Lib.hid hn
      clear hn hlt
      by_cases h12 : l.length ≤ 12
      · have d : decide ((l.length : Int) ≤ 12) = true := decide_eq_true (by omega)
        have H12 := Lib.hid h12
        clear h12
        go_wp2
        exact HR.out _ _ ⟨⟨true, rfl, fun _ => ⟨H12.out, N2.out⟩⟩, hB⟩
      · have d : decide ((l.length : Int) ≤ 12) = false := decide_eq_false (by omega)
        clear h12
        go_wp2
        exact HR.out _ _ ⟨⟨false, rfl, fun h => by cases h⟩, hB⟩
def smallT (t : VTab) : Prop := t.length ≤ 12 ∧ ∀ r ∈ t, r.length ≤ 12 ∧ ∀ x ∈ r, x.s.size ≤ 40
set_option maxHeartbeats 2000000 in
theorem small_any (v : Value) (t : VTab) (w : World) (h : RdVT w w.heap.size v t) :
    Calls Tryd.prog 86 #[v] w fun e w' => (∃ g : Bool, e = .returned (.bool g) ∧ (g = true → smallT t)) ∧ Below w.heap.size w w' := by
  refine cps fun R HR => ?_
  have h0 := h
  obtain ⟨A, c, vs, rfl, -, -⟩ := h.is
  have hfew := h0.few
  clear h
  go_enter Tryd.func86, Tryd.ntmps86
  go_wp2
  go_loopw [9] (fun i wr => ∃ k : Nat, k ≤ t.length ∧ i = .int .i64 k ∧ (∀ r ∈ t.take k, r.length ≤ 12 ∧ ∀ x ∈ r, x.s.size ≤ 40) ∧ Below w.heap.size w wr) (fun i _ => t.length - (intOf i).toNat)
  case atStart => exact ⟨0, Nat.zero_le _, rfl, fun c hc => by simp at hc, Below.refl _ _⟩
  case round =>
    obtain ⟨k, hk, rfl, hN, hB⟩ := hrel
    have HN := Lib.hid hN; clear hN
    obtain ⟨w3, rfl⟩ : ∃ w3 : World, w3 = wr := ⟨_, rfl⟩
    by_cases hlt : k < t.length
    · obtain ⟨a, c3, u, hv, hc, hu⟩ := (RdE.next (RdF.stays valV 4) h0 hB).at hlt
      injection hv with hA _ hcc
      subst hA
      subst hcc
      have hs1 : t.take (k + 1) = t.take k ++ [t[k]] := List.take_succ_eq_append_getElem hlt
      obtain ⟨x, hx⟩ : ∃ x, x = t[k] := ⟨_, rfl⟩
      rw [← hx] at hu hs1
      have S1 := Lib.hid hs1
      clear hx hs1
      have hu0 := hu
      obtain ⟨A2, c2, rfl, -⟩ := hu.is
      have hxf := RdF.few hu0
      clear hu
      have dk : decide ((k : Int) < t.length) = true := decide_eq_true (by omega)
      by_cases hx12 : 12 < x.length
      · have d : decide ((12 : Int) < x.length) = true := decide_eq_true (by omega)
        clear hx12
        go_wp2
        exact HR.out _ _ ⟨⟨false, rfl, fun h => by cases h⟩, hB⟩
      · have d : decide ((12 : Int) < x.length) = false := decide_eq_false (by omega)
        go_wp2
        go_loopw [18] (fun i wr => ∃ m : Nat, m ≤ x.length ∧ i = .int .i64 m ∧ (∀ y ∈ x.take m, y.s.size ≤ 40) ∧ Below w3.heap.size w3 wr) (fun i _ => x.length - (intOf i).toNat)
        case atStart => exact ⟨0, Nat.zero_le _, rfl, fun c hc => by simp at hc, Below.refl _ _⟩
        case round =>
          obtain ⟨m, hm, rfl, hM, hB3⟩ := hrel
          have HM := Lib.hid hM; clear hM
          by_cases hlt2 : m < x.length
          · obtain ⟨a2, c5, hv2, q0, q1, q2, q3⟩ := RdV.at (hu0.below hB3) hlt2
            injection hv2 with hA _ hcc
            subst hA
            subst hcc
            have hs2 : x.take (m + 1) = x.take m ++ [x[m]] := List.take_succ_eq_append_getElem hlt2
            obtain ⟨y, hy⟩ : ∃ y, y = x[m] := ⟨_, rfl⟩
            rw [← hy] at q0 q1 q2 q3 hs2
            have S2 := Lib.hid hs2
            clear hy hs2
            have dm : decide ((m : Int) < x.length) = true := decide_eq_true (by omega)
            by_cases hb : 40 < y.s.size
            · have d : decide ((40 : Int) < y.s.size) = true := decide_eq_true (by omega)
              clear hb
              go_wp2
              exact HR.out _ _ ⟨⟨false, rfl, fun h => by cases h⟩, hB.trans ((hB3.alloc hB3.size _).mono hB.size)⟩
            · have d : decide ((40 : Int) < y.s.size) = false := decide_eq_false (by omega)
              have hn2 : ∀ c ∈ x.take (m + 1), c.s.size ≤ 40 := fun c hc => by
                rw [S2.out] at hc
                rcases List.mem_append.1 hc with h | h
                · exact HM.out c h
                · rw [List.mem_singleton.1 h]; omega
              have N2 := Lib.hid hn2
              clear hb hn2
              go_wp2
              exact ⟨⟨m + 1, by omega, by go_num, N2.out, hB3.alloc hB3.size _⟩, by simp [intOf]; omega⟩
          · obtain rfl : m = x.length := by omega
            have hn := HM.out
            rw [List.take_length] at hn
            have hn2 : ∀ r ∈ t.take (k + 1), r.length ≤ 12 ∧ ∀ x ∈ r, x.s.size ≤ 40 := fun r hr => by
              rw [S1.out] at hr
              rcases List.mem_append.1 hr with h | h
              · exact HN.out r h
              · rw [List.mem_singleton.1 h]; exact ⟨by omega, hn⟩
            have N2 := Lib.hid hn2
            clear hn hn2 hlt2
            go_wp2
            exact ⟨⟨k + 1, by omega, by go_num, N2.out, hB.trans (hB3.mono hB.size)⟩, by simp [intOf]; omega⟩
    · obtain rfl : k = t.length := by omega
      have hn := HN.out
      rw [List.take_length] at hn
      have N2 := Lib.hid hn
      clear hn hlt
      by_cases h12 : t.length ≤ 12
      · have d : decide ((t.length : Int) ≤ 12) = true := decide_eq_true (by omega)
        have H12 := Lib.hid h12
        clear h12
        go_wp2
        exact HR.out _ _ ⟨⟨true, rfl, fun _ => ⟨H12.out, N2.out⟩⟩, hB⟩
      · have d : decide ((t.length : Int) ≤ 12) = false := decide_eq_false (by omega)
        clear h12
        go_wp2
        exact HR.out _ _ ⟨⟨false, rfl, fun h => by cases h⟩, hB⟩
end Go.Proofs.YtgiemhooeoakmaaDoor

namespace Go.Proofs.YtgiemhooeoakmaaDoor
open Go.RowKit Go.ChangeShapes Go.WideShapes
set_option linter.unusedVariables false
set_option linter.unusedSimpArgs false

set_option maxHeartbeats 4000000 in
set_option maxRecDepth 100000 in
theorem right_any (k n b : Int) (s : ByteArray) (w : World) (hs : s.size ≤ 100000) :
    Calls Tryd.prog 87 #[.agg #[.int .i64 k, .string s, .int .i64 n, .int .i64 b]] w fun e w' => (∃ g : Bool, e = .returned (.bool g)) ∧ Below w.heap.size w w' := by
  refine cps fun R HR => ?_
  obtain ⟨wl, hwl⟩ : ∃ wl, wl = wholeR s.data.toList := ⟨_, rfl⟩
  have HWL := Lib.hid hwl
  clear hwl
  go_enter Tryd.func87, Tryd.ntmps87
  go_wp2
  all_goals
    first
    | exact HR.out _ _ ⟨⟨false, rfl⟩, (Below.refl _ _).alloc (Nat.le_refl _) _⟩
    | (generalize hw2 : w.alloc (Obj.cells _ _) = w2
       have hB2 : Below w.heap.size w w2 := by rw [← hw2]; exact (Below.refl _ _).alloc (Nat.le_refl _) _
       have b0 : w2.cell? ⟨w.heap.size, 1, none⟩ = some (.string s) := by rw [← hw2]; exact (Box.new w 112 _).cell 1
       have k1 := cell_regrown b0
       have gW : ∀ dn os, Calls Tryd.prog 103 #[.string s] (Go.Sort.grow (redrawn w2 dn) os) fun e w'' => e = .returned (.int .i64 wl) ∧ ∃ p : Regrown, w'' = Go.Sort.grow (redrawn w2 p.d) p.os := fun dn os => Calls.regrown_of (by
         rw [HWL.out]
         exact whole_any s _ (by unfold maxLen; omega))
       clear hw2
       refine wp_region_quiet_below (by kernel_rfl) (by kernel_rfl) ?_
       repeat (go_big_quiet_step ((go_at_call 103; with_reducible exact gW _ _)))
       refine wpQuiet_nil ?_
       intro w9 hw9
       have bel2 : Below w2.heap.size w2 w9 := by obtain ⟨p, rfl⟩ := hw9; exact below_regrown _ p.d p.os
       have hB9 := hB2.trans (bel2.mono hB2.size)
       clear hw9 gW k1
       go_wp2
       exact HR.out _ _ ⟨⟨_, rfl⟩, hB9⟩)
def fewTab (l : List Col) (t : VTab) : Prop := (l.length ≤ 12 ∧ ∀ c ∈ l, c.name.size ≤ 40) ∧ smallT t
set_option maxHeartbeats 2000000 in
theorem few23_any (v u : Value) (l : List Col) (t : VTab) (w : World) (h1 : RdC w w.heap.size v l) (h : RdVT w w.heap.size u t) :
    Calls Tryd.prog 57 #[.agg #[v, u]] w fun e w' => (∃ g : Bool, e = .returned (.bool g) ∧ (g = true → fewTab l t)) ∧ Below w.heap.size w w' := by
  refine cps fun R HR => ?_
  have g0 := h1
  have h0 := h
  obtain ⟨A1, c1, rfl, -⟩ := h1.is
  obtain ⟨A, c, vs, rfl, -, -⟩ := h.is
  have hfew := h0.few
  clear h h1
  have bw0 := (Below.refl w.heap.size w).alloc (Nat.le_refl _) (.cells #[.slice A1 l.length c1, .slice A t.length c] 25)
  have X := Box.new w 25 #[.slice A1 l.length c1, .slice A t.length c]
  obtain ⟨w0, hw0⟩ : ∃ w0, w0 = w.alloc (.cells #[.slice A1 l.length c1, .slice A t.length c] 25) := ⟨_, rfl⟩
  have HX := Lib.hid X
  clear hw0 w0
  go_enter Tryd.func57, Tryd.ntmps57
  go_wp2_with fail
  refine (fewCols_any _ l _ (RdF.next g0 bw0)).mono ?_
  rintro e w1 ⟨⟨g, rfl, hg⟩, b1⟩
  have bw1 := bw0.trans (b1.mono bw0.size)
  have X1 := HX.out.below b1 HX.out.lt
  have y1 := X1.cell 1
  cases g
  · clear hg
    go_wp2
    exact HR.out _ _ ⟨⟨false, rfl, fun h => by cases h⟩, bw1⟩
  · have hc := hg rfl
    have HC := Lib.hid hc
    clear hc hg
    go_wp2_with fail
    refine (small_any _ t _ (RdE.next (RdF.stays valV 4) h0 bw1)).mono ?_
    rintro e w2 ⟨⟨g, rfl, hg⟩, b2⟩
    have bw2 := bw1.trans (b2.mono bw1.size)
    have X2 := X1.below b2 X1.lt
    have y2 := X2.cell 1
    clear y1
    cases g
    · clear hg
      go_wp2
      exact HR.out _ _ ⟨⟨false, rfl, fun h => by cases h⟩, bw2⟩
    · have hsm := hg rfl
      have HSM := Lib.hid hsm
      clear hsm hg
      obtain ⟨w5, rfl⟩ : ∃ w5 : World, w5 = w2 := ⟨_, rfl⟩
      clear X2 X1 b1 b2 bw1 bw0
      go_wp2
      go_loopw [20] (fun i wr => ∃ k : Nat, k ≤ t.length ∧ i = .int .i64 k ∧ Below w.heap.size w wr) (fun i _ => t.length - (intOf i).toNat)
      case atStart => exact ⟨0, Nat.zero_le _, rfl, bw2⟩
      case round =>
        obtain ⟨k, hk, rfl, hB⟩ := hrel
        obtain ⟨w3, rfl⟩ : ∃ w3 : World, w3 = wr := ⟨_, rfl⟩
        by_cases hlt : k < t.length
        · obtain ⟨a, c3, u, hv, hc, hu⟩ := (RdE.next (RdF.stays valV 4) h0 hB).at hlt
          injection hv with hA _ hcc
          subst hA
          subst hcc
          have hsx := fun y hy => (HSM.out.2 _ (List.getElem_mem hlt)).2 y hy
          obtain ⟨x, hx⟩ : ∃ x, x = t[k] := ⟨_, rfl⟩
          rw [← hx] at hu hsx
          have HSX := Lib.hid hsx
          clear hx hsx
          have hu0 := hu
          obtain ⟨A2, c2, rfl, -⟩ := hu.is
          have hxf := RdF.few hu0
          clear hu
          have dk : decide ((k : Int) < t.length) = true := decide_eq_true (by omega)
          go_wp2
          go_loopw [26] (fun i wr => ∃ m : Nat, m ≤ x.length ∧ i = .int .i64 m ∧ Below w3.heap.size w3 wr) (fun i _ => x.length - (intOf i).toNat)
          case atStart => exact ⟨0, Nat.zero_le _, rfl, Below.refl _ _⟩
          case round =>
            obtain ⟨m, hm, rfl, hB3⟩ := hrel
            by_cases hlt2 : m < x.length
            · obtain ⟨a2, c5, hv2, q0, q1, q2, q3⟩ := RdV.at (hu0.below hB3) hlt2
              injection hv2 with hA _ hcc
              subst hA
              subst hcc
              have hys := HSX.out _ (List.getElem_mem hlt2)
              obtain ⟨y, hy⟩ : ∃ y, y = x[m] := ⟨_, rfl⟩
              rw [← hy] at q0 q1 q2 q3 hys
              obtain ⟨yk, ys, yn, yb⟩ := y
              clear hy
              have dm : decide ((m : Int) < x.length) = true := decide_eq_true (by omega)
              have hb3 := hB3.alloc hB3.size (.cells #[.int .i64 yk, .string ys, .int .i64 yn, .bool yb] 96)
              have hys2 : ys.size ≤ 100000 := Nat.le_trans hys (by omega)
              go_wp2_with fail
              refine (refVal_at yk yn _ ys yb _ rfl).mono ?_
              rintro e w4 ⟨rfl, b4⟩
              have hb4 := hb3.trans (b4.mono hb3.size)
              go_wp2_with fail
              refine (right_any yk yn _ ys _ hys2).mono ?_
              rintro e w6 ⟨⟨g, rfl⟩, b6⟩
              have hb6 := hb4.trans (b6.mono hb4.size)
              cases g
              · go_wp2
                exact HR.out _ _ ⟨⟨false, rfl, fun h => by cases h⟩, hB.trans (hb6.mono hB.size)⟩
              · go_wp2
                exact ⟨⟨m + 1, by omega, by go_num, hb6⟩, by simp [intOf]; omega⟩
            · obtain rfl : m = x.length := by omega
              go_wp2
              exact ⟨⟨k + 1, by omega, by go_num, hB.trans (hB3.mono hB.size)⟩, by simp [intOf]; omega⟩
        · go_wp2
          exact HR.out _ _ ⟨⟨true, rfl, fun _ => ⟨HC.out, HSM.out⟩⟩, hB⟩
end Go.Proofs.YtgiemhooeoakmaaDoor

namespace Go.Proofs.YtgiemhooeoakmaaDoor
open Go.RowKit Go.ChangeShapes Go.WideShapes
set_option linter.unusedVariables false
set_option linter.unusedSimpArgs false

theorem setCell_block (w : World) (g j : Nat) (u : Value) (k : Nat) (h : k ≠ g) : (w.setCell ⟨g, j, none⟩ u).heap[k]? = w.heap[k]? := by
  simp [World.setCell, Array.getElem?_modify]
  intro e
  exact absurd e.symm h
/-- What a cell holds, whatever it is. -/
def peek (w : World) (p : Addr) : Value := (w.cell? p).getD undef
theorem peek_of {w : World} {p : Addr} {v : Value} (h : w.cell? p = some v) : w.cell? p = some (peek w p) := by unfold peek; rw [h]; rfl
theorem keep5 {W ws w' : World} {B : Nat} {p q r s : Addr} {a b : Value} (hb : Below ws.heap.size ws w') (h1 : ws.cell? p = some a) (h2 : ws.cell? q = some b) (h3 : ws.cell? r = some (peek ws r)) (h4 : ws.cell? s = some (peek ws s)) (h5 : ws.frozen? r = false) (h6 : ws.frozen? s = false) (h7 : Below B W ws) (hB : B ≤ ws.heap.size) :
    w'.cell? p = some a ∧ w'.cell? q = some b ∧ w'.cell? r = some (peek w' r) ∧ w'.cell? s = some (peek w' s) ∧ w'.frozen? r = false ∧ w'.frozen? s = false ∧ Below B W w' ∧ B ≤ w'.heap.size :=
  ⟨(hb.cell (World.block_lt_of_cell? ws _ h1)).trans h1, (hb.cell (World.block_lt_of_cell? ws _ h2)).trans h2, peek_of ((hb.cell (World.block_lt_of_cell? ws _ h3)).trans h3), peek_of ((hb.cell (World.block_lt_of_cell? ws _ h4)).trans h4), (hb.frozen (World.block_lt_of_cell? ws _ h3)).trans h5, (hb.frozen (World.block_lt_of_cell? ws _ h4)).trans h6, h7.trans (hb.mono hB), Nat.le_trans hB hb.size⟩
set_option maxHeartbeats 2000000 in
set_option maxRecDepth 100000 in
theorem refTab_any (v u : Value) (l : List Col) (t : VTab) (w : World) (h1 : RdC w w.heap.size v l) (h : RdVT w w.heap.size u t) (hl : l.length ≤ 100000) (ht : t.length ≤ 100000) (hr : ∀ r ∈ t, r.length ≤ 100000) :
    Calls Tryd.prog 18 #[.agg #[v, u]] w fun e w' => (∃ o p, e = .returned (.agg #[o, p]) ∧ RdRC w' w'.heap.size o l ∧ RdRVT w' w'.heap.size p t) ∧ Below w.heap.size w w' := by
  refine cps fun R HR => ?_
  have g0 := h1
  have h0 := h
  obtain ⟨A1, c1, rfl, -⟩ := h1.is
  obtain ⟨A, c, vs, rfl, -, -⟩ := h.is
  clear h h1
  obtain ⟨w0, hw0⟩ : ∃ w0, w0 = (w.alloc (.cells #[.slice A1 l.length c1, .slice A t.length c] 25)).alloc (.cells #[.slice none 0 0, .slice none 0 0] 39) := ⟨_, rfl⟩
  have bw0 : Below w.heap.size w w0 := by rw [hw0]; exact ((Below.refl _ _).alloc (Nat.le_refl _) _).alloc (by simp) _
  have X := (Box.new w 25 #[.slice A1 l.length c1, .slice A t.length c]).alloc (.cells #[.slice none 0 0, .slice none 0 0] 39)
  have Z := Box.new (w.alloc (.cells #[.slice A1 l.length c1, .slice A t.length c] 25)) 39 #[.slice none 0 0, .slice none 0 0]
  rw [← hw0] at X Z
  rw [show (w.alloc (.cells #[.slice A1 l.length c1, .slice A t.length c] 25)).heap.size = w.heap.size + 1 by simp] at Z
  have x0 := X.cell 0
  have x1 := X.cell 1
  have z0 := Z.cell 0
  have z1 := Z.cell 1
  have f0 := Z.frozen 0
  have f1 := Z.frozen 1
  simp at x0 x1 z0 z1 f0 f1
  have HS := Lib.hid (And.intro x0 (And.intro x1 (And.intro (peek_of z0) (And.intro (peek_of z1) (And.intro f0 (And.intro f1 (And.intro bw0 bw0.size)))))))
  have HG := Lib.hid g0; have HH := Lib.hid h0
  have HZ := Lib.hid Z; have HW0 := Lib.hid hw0; have HB0 := Lib.hid bw0; have HRR := Lib.hid hr
  clear x0 x1 z0 z1 f0 f1 X Z hw0 bw0 g0 h0 hr
  obtain ⟨g, hg⟩ : ∃ g, g = w.heap.size := ⟨_, rfl⟩
  go_enter Tryd.func18, Tryd.ntmps18
  go_wp2
  rw [← HW0.out]
  have hs := HS.out
  rw [← hg] at hs ⊢
  have HGG := Lib.hid hg
  clear hg
  go_region_held3 (fun w' => w'.cell? ⟨g, 0, none⟩ = some (.slice A1 l.length c1) ∧ w'.cell? ⟨g, 1, none⟩ = some (.slice A t.length c) ∧ w'.cell? ⟨g + 1, 0, none⟩ = some (peek w' ⟨g + 1, 0, none⟩) ∧ w'.cell? ⟨g + 1, 1, none⟩ = some (peek w' ⟨g + 1, 1, none⟩) ∧ w'.frozen? ⟨g + 1, 0, none⟩ = false ∧ w'.frozen? ⟨g + 1, 1, none⟩ = false ∧ Below g w w' ∧ g ≤ w'.heap.size) (first | (exact ⟨hs.1, hs.2.1, hs.2.2.1, hs.2.2.2.1, hs.2.2.2.2.1, hs.2.2.2.2.2.1, hs.2.2.2.2.2.2.1.drew, hs.2.2.2.2.2.2.2⟩) | (go_split_ands; exact keep5 (by assumption) (by assumption) (by assumption) (by assumption) (by assumption) (by assumption) (by assumption) (by assumption) (by assumption)) | (go_split_ands; refine ⟨by go_simp, by go_simp, peek_of (v := .slice oA l.length oc) (by go_simp), peek_of (v := .slice pA t.length pc) (by go_simp), by go_simp, by go_simp, Below.setCell (Below.setCell (by assumption) (by simp) _) (by simp) _, by simp; assumption⟩)) (first | (go_at_call 21; go_split_ands; refine (refCols_any _ l _ (RdF.more (HG.out.below (by rw [← HGG.out]; assumption)) (by rw [← HGG.out]; assumption)) hl).mono ?_; rintro e w' ⟨o, rfl, ho, bh⟩; have ho2 := ho; obtain ⟨oA, oc, rfl, -⟩ := ho.form) | (go_at_call 30; go_split_ands; refine (refRows_any _ t _ (RdE.more (RdF.stays valV 4) (HH.out.below (RdF.stays valV 4) (by rw [← HGG.out]; assumption)) (by rw [← HGG.out]; assumption)) ht HRR.out).mono ?_; rintro e w' ⟨p, rfl, hp, bh2⟩; have hp2 := hp; obtain ⟨pA, pc, rfl⟩ := hp.form))
  have hz0 : w0.drew.heap.size = g + 2 := by show w0.heap.size = _; rw [HW0.out, HGG.out]; simp
  obtain ⟨o1, ho1⟩ : ∃ o1, o1 = Value.slice oA l.length oc := ⟨_, rfl⟩
  obtain ⟨p1, hp1⟩ : ∃ p1, p1 = Value.slice pA t.length pc := ⟨_, rfl⟩
  have key : ∀ (wz : World) (B1 B2 : Nat), g + 2 ≤ B1 → g + 2 ≤ B2 → Own wz B1 120 3 (.slice oA l.length oc) l.length (l.flatMap rcolV) → TabRV wz B2 (.slice pA t.length pc) t →
      ∀ a b : Value, RdRC ((wz.setCell ⟨g + 1, 0, none⟩ a).setCell ⟨g + 1, 1, none⟩ b) ((wz.setCell ⟨g + 1, 0, none⟩ a).setCell ⟨g + 1, 1, none⟩ b).heap.size (.slice oA l.length oc) l ∧ RdRVT ((wz.setCell ⟨g + 1, 0, none⟩ a).setCell ⟨g + 1, 1, none⟩ b) ((wz.setCell ⟨g + 1, 0, none⟩ a).setCell ⟨g + 1, 1, none⟩ b).heap.size (.slice pA t.length pc) t := fun wz B1 B2 h1 h2 q1 q2 a b => by
    have hk : ∀ k, g + 2 ≤ k → ((wz.setCell ⟨g + 1, 0, none⟩ a).setCell ⟨g + 1, 1, none⟩ b).heap[k]? = wz.heap[k]? := fun k hk => by
      rw [setCell_block _ _ _ _ _ (by omega), setCell_block _ _ _ _ _ (by omega)]
    exact ⟨RdF.of_own rcolV_len (by omega) (q1.agree_ fun k hk1 => hk k (by have := (q1.lt k hk1).1; omega)), TabY.rd rvalV_len (by omega) (q2.agree fun k hk1 _ => hk k (by omega))⟩
  have KEY := Lib.hid key
  clear key
  go_wp2
  have ho3 := ho2.below bh2 (Nat.le_refl _)
  have hk := KEY.out _ _ _ (Nat.le_of_eq hz0.symm) (by have := bh.size; rw [hz0] at this; exact this) ho3 hp2 (.slice oA l.length oc) (.slice pA t.length pc)
  have Z1 := HZ.out.drew.below bh HZ.out.drew.lt
  have Z2 := Z1.below bh2 Z1.lt
  have Z3 := (Z2.put 0 (.slice oA l.length oc)).put 1 (.slice pA t.length pc)
  rw [← HGG.out] at Z3
  have c0 := Z3.cell 0
  have c1 := Z3.cell 1
  simp at c0 c1
  have b0 := HB0.out.drew
  have b1 := b0.trans (bh.mono b0.size)
  have b2 := b1.trans (bh2.mono b1.size)
  have hBf : Below w.heap.size w ((w'.setCell ⟨g + 1, 0, none⟩ (.slice oA l.length oc)).setCell ⟨g + 1, 1, none⟩ (.slice pA t.length pc)) := (b2.setCell (by rw [HGG.out]; simp) _).setCell (by rw [HGG.out]; simp) _
  refine bodyPost_ret (v := .agg #[.slice oA l.length oc, .slice pA t.length pc]) (by simp [results, Tryd.results18, go_sem, c0, c1]) rfl (HR.out _ _ ⟨⟨_, _, rfl, hk.1, hk.2⟩, hBf⟩)
end Go.Proofs.YtgiemhooeoakmaaDoor


/- Layer 20: values, rows, tables as the reference has them; are two alike? -/
import Derived.Test.YtgiemhooeoakmaaDoorVal
import Derived.Lib.QuietBelow
namespace Go.Proofs.YtgiemhooeoakmaaDoor
open Go.RowKit Go.ChangeShapes Go.WideShapes
set_option linter.unusedVariables false
set_option linter.unusedSimpArgs false

theorem refVal_at (k n m : Int) (s : ByteArray) (b : Bool) (w : World) (hm : nullI b = m) :
    Calls Tryd.prog 77 #[.agg #[.int .i64 k, .string s, .int .i64 n, .bool b]] w fun e w' => e = .returned (.agg #[.int .i64 k, .string s, .int .i64 n, .int .i64 m]) ∧ Below w.heap.size w w' := by
  refine cps fun R HR => ?_
  have X : ∀ m : Int, Box (((w.alloc (.cells #[.int .i64 k, .string s, .int .i64 n, .bool b] 96)).alloc (.cells #[.int .i64 k, .string s, .int .i64 n, .int .i64 m] 112)).alloc (.cells #[.int .i64 k, .string s, .int .i64 n, .int .i64 m] 112)) (w.heap.size + 1) 112 #[.int .i64 k, .string s, .int .i64 n, .int .i64 m] := fun m => by
    have := (Box.new (w.alloc (.cells #[.int .i64 k, .string s, .int .i64 n, .bool b] 96)) 112 #[.int .i64 k, .string s, .int .i64 n, .int .i64 m]).alloc (.cells #[.int .i64 k, .string s, .int .i64 n, .int .i64 m] 112)
    simpa using this
  have bel : ∀ o1 o2 o3 : Obj, Below w.heap.size w (((w.alloc o1).alloc o2).alloc o3) := fun _ _ _ => (((Below.refl w.heap.size w).alloc (Nat.le_refl _) _).alloc (by simp) _).alloc (by simp; omega) _
  have HX := Lib.hid (X m)
  clear X
  go_enter Tryd.func77, Tryd.ntmps77
  cases b
  · have h0 : m = 0 := hm.symm
    subst h0
    clear hm
    go_wp2
    have c0 := HX.out.cell 0
    have c1 := HX.out.cell 1
    have c2 := HX.out.cell 2
    have c3 := HX.out.cell 3
    simp at c0 c1 c2 c3
    refine bodyPost_ret (v := .agg #[.int .i64 k, .string s, .int .i64 n, .int .i64 0]) (by simp [results, Tryd.results77, go_sem, c0, c1, c2, c3]) rfl (HR.out _ _ ⟨rfl, bel _ _ _⟩)
  · have h0 : m = 1 := hm.symm
    subst h0
    clear hm
    go_wp2
    have c0 := HX.out.cell 0
    have c1 := HX.out.cell 1
    have c2 := HX.out.cell 2
    have c3 := HX.out.cell 3
    simp at c0 c1 c2 c3
    refine bodyPost_ret (v := .agg #[.int .i64 k, .string s, .int .i64 n, .int .i64 1]) (by simp [results, Tryd.results77, go_sem, c0, c1, c2, c3]) rfl (HR.out _ _ ⟨rfl, bel _ _ _⟩)
theorem refVal_any (v : Val) (w : World) : Calls Tryd.prog 77 #[valA v] w fun e w' => e = .returned (rvalA v) ∧ Below w.heap.size w w' :=
  refVal_at v.kind v.n _ v.s v.b w rfl
set_option maxHeartbeats 1000000 in
theorem refRow_any (v : Value) (l : VRow) (w : World) (h : RdV w w.heap.size v l) (hl : l.length ≤ 100000) :
    Calls Tryd.prog 34 #[v] w fun e w' => ∃ o, e = .returned o ∧ Own w' w.heap.size 112 4 o l.length (l.flatMap rvalV) ∧ Below w.heap.size w w' := by
  refine cps fun R HR => ?_
  obtain ⟨i0, hi0, hz0, hz1, hz2⟩ := info_parts rval_info
  have h0 := h
  obtain ⟨A, c, rfl, -⟩ := h.is
  clear h
  go_enter Tryd.func34, Tryd.ntmps34
  go_wp2
  go_loopw [3, 8] (fun o i wr => ∃ k : Nat, k ≤ l.length ∧ i = .int .i64 k ∧ Own wr w.heap.size 112 4 o k ((l.take k).flatMap rvalV) ∧ Below w.heap.size w wr) (fun _ i _ => l.length - (intOf i).toNat)
  case atStart => exact ⟨0, Nat.zero_le _, rfl, Own.nil_ _ _ _ _, Below.refl _ _⟩
  case round =>
    obtain ⟨k, hk, rfl, hO, hB⟩ := hrel
    by_cases hlt : k < l.length
    · obtain ⟨a, c3, hv, q0, q1, q2, q3⟩ := RdV.at (h0.below hB) hlt
      injection hv with hA _ hcc
      subst hA
      subst hcc
      have hs1 : (l.take (k + 1)).flatMap rvalV = (l.take k).flatMap rvalV ++ rvalV l[k] := by rw [List.take_succ_eq_append_getElem hlt, rval_snoc]
      obtain ⟨x, hx⟩ : ∃ x, x = l[k] := ⟨_, rfl⟩
      rw [← hx] at q0 q1 q2 q3 hs1
      obtain ⟨xk, xs, xn, xb⟩ := x
      obtain ⟨m, hm⟩ : ∃ m, m = nullI xb := ⟨_, rfl⟩
      have hv1 : rvalV ⟨xk, xs, xn, xb⟩ = (#[.int .i64 xk, .string xs, .int .i64 xn, .int .i64 m] : Array Value).toList := by rw [hm]; rfl
      have ho1 := rval_one ⟨xk, xs, xn, xb⟩
      rw [hv1] at hs1 ho1
      have S1 := Lib.hid hs1; have O1 := Lib.hid ho1; have HM := Lib.hid hm
      clear hx hs1 hv1 ho1 hm
      have dk : decide ((k : Int) < l.length) = true := decide_eq_true (by omega)
      have hOw := hO.below ((Below.refl wr.heap.size wr).alloc (Nat.le_refl _) (.cells #[.int .i64 xk, .string xs, .int .i64 xn, .bool xb] 96)) (Nat.le_refl _)
      have hBw := hB.alloc hB.size (.cells #[.int .i64 xk, .string xs, .int .i64 xn, .bool xb] 96)
      go_wp2_with fail
      refine (refVal_at xk xn m xs xb _ HM.out.symm).mono ?_
      rintro e w4 ⟨rfl, b4⟩
      have hO4 := hOw.below b4 (Nat.le_refl _)
      have hB4 := hBw.trans (b4.mono hBw.size)
      go_wp2_with (at_builtin; refine wpList_pushF rfl _ _ _ rfl w.heap.size 112 i0 _ 4 40 Tryd.underlying63 hi0 hz0 hz1 hz2 rfl (by omega) (by omega) u3 k _ #[.int .i64 xk, .string xs, .int .i64 xn, .int .i64 m] rfl rfl hO4 (by simp [Act.eval]) O1.out (by omega) hB4.size ?_; intro v5 w5 hown5 hg5 hat5)
      exact ⟨⟨k + 1, by omega, by go_num, by rw [S1.out]; exact hown5, below_grown hB4 hg5 (fun g hg => (hO.lt g hg).1) hB4.size⟩, by simp [intOf]; omega⟩
    · obtain rfl : k = l.length := by omega
      rw [List.take_length] at hO
      clear hlt
      go_wp2
      exact HR.out _ _ ⟨_, rfl, hO, hB⟩
abbrev TabRV (w : World) (base : Nat) (v : Value) (t : VTab) : Prop := TabY rvalV 4 112 63 w base v t
set_option maxHeartbeats 1000000 in
theorem refRows_any (v : Value) (t : VTab) (w : World) (h : RdVT w w.heap.size v t) (hl : t.length ≤ 100000) (hr : ∀ r ∈ t, r.length ≤ 100000) :
    Calls Tryd.prog 30 #[v] w fun e w' => ∃ o, e = .returned o ∧ TabRV w' w.heap.size o t ∧ Below w.heap.size w w' := by
  refine cps fun R HR => ?_
  obtain ⟨i0, hi0, hz0, hz1, hz2⟩ := info_parts rvrow_info
  have h0 := h
  obtain ⟨A, c, vs, rfl, -, -⟩ := h.is
  have HRr := Lib.hid hr
  clear h hr
  go_enter Tryd.func30, Tryd.ntmps30
  go_wp2
  go_loopw [3, 8] (fun o i wr => ∃ k : Nat, k ≤ t.length ∧ i = .int .i64 k ∧ TabRV wr w.heap.size o (t.take k) ∧ Below w.heap.size w wr) (fun _ i _ => t.length - (intOf i).toNat)
  case atStart => exact ⟨0, Nat.zero_le _, rfl, TabY.none_ _ _, Below.refl _ _⟩
  case round =>
    obtain ⟨k, hk, rfl, hO, hB⟩ := hrel
    by_cases hlt : k < t.length
    · obtain ⟨a, c3, u, hv, hc, hu⟩ := (RdE.next (RdF.stays valV 4) h0 hB).at hlt
      injection hv with hA _ hcc
      subst hA
      subst hcc
      have hs1 : t.take (k + 1) = t.take k ++ [t[k]] := List.take_succ_eq_append_getElem hlt
      have hrl := HRr.out _ (List.getElem_mem hlt)
      obtain ⟨x, hx⟩ : ∃ x, x = t[k] := ⟨_, rfl⟩
      rw [← hx] at hu hs1 hrl
      have S1 := Lib.hid hs1
      clear hx hs1
      have hu0 := hu
      obtain ⟨A2, c2, rfl, -⟩ := hu.is
      have dk : decide ((k : Int) < t.length) = true := decide_eq_true (by omega)
      clear hu
      go_wp2_with fail
      refine (refRow_any _ x _ hu0 hrl).mono ?_
      rintro e w2 ⟨y, rfl, hy, b2⟩
      have hb2 := hB.trans (b2.mono hB.size)
      have hO2 := hO.keep b2
      obtain ⟨vs2, ho3, he3⟩ := hO2.is
      have hkl : (t.take k).length = k := by rw [List.length_take]; omega
      rw [hkl] at ho3
      have hy0 := hy
      obtain ⟨yA, yc, rfl, -⟩ := hy.form
      go_wp2_with (at_builtin; refine wpList_push rfl _ _ _ rfl w.heap.size 63 i0 _ 24 Tryd.underlying37 hi0 hz0 hz1 hz2 rfl (by omega) u3 k _ (.slice yA x.length yc) rfl ho3 rfl rfl (by omega) hb2.size ?_; intro v3 w3 hown3 hg3 hat3)
      have hn := TabY.push (t := t.take k) (by rw [hkl]; exact hown3) he3 hy0 hB.size (fun g hg => (hO.lt g hg).2) hg3 hat3
      rw [← S1.out] at hn
      exact ⟨⟨k + 1, by omega, by go_num, hn, below_grown hb2 hg3 (fun g hg => (hO.lt g hg).1) hb2.size⟩, by simp [intOf]; omega⟩
    · obtain rfl : k = t.length := by omega
      rw [List.take_length] at hO
      clear hlt
      go_wp2
      exact HR.out _ _ ⟨_, rfl, hO, hB⟩
end Go.Proofs.YtgiemhooeoakmaaDoor

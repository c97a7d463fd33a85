/- Layer 25: Clone of a row, schema.Same, EqualFunc at same. -/
import Derived.Test.YtgiemhooeoakmaaDoorDifD
import Derived.Lib.SlBytesConst
import Derived.Laws.StructEq
namespace Go.Proofs.YtgiemhooeoakmaaDoor
open Go.RowKit Go.ChangeShapes Go.WideShapes
set_option linter.unusedVariables false
set_option linter.unusedSimpArgs false

theorem valF_one (l : VRow) : ∀ u ∈ l.flatMap valV, u.oneCell' = true := fun u hu => by
  obtain ⟨x, -, hx⟩ := List.mem_flatMap.1 hu
  exact val_one x u hx
theorem cloneV_any (v : Value) (l : VRow) (w : World) (h : RdV w w.heap.size v l) (hl : l.length ≤ 100000) :
    Calls Tryd.prog 68 #[v] w fun e w' => ∃ u, e = .returned u ∧ Own w' w.heap.size 96 4 u l.length (l.flatMap valV) ∧ Below w.heap.size w w' := by
  refine cps fun R HR => ?_
  obtain ⟨A, c, rfl, hr⟩ := h.is
  obtain ⟨i0, hi0, hz0, hz1, hz2⟩ := info_parts val_info
  cases A with
  | none =>
    have hn := hr.nil rfl
    have hx : l = [] := List.eq_nil_of_length_eq_zero hn
    subst hx
    have heq := fun w' => Lib.run_eql_slice_nil (P := Tryd.prog) w' 61 96 none 0 c 0 0 Tryd.underlying61
    go_enter Tryd.func68, Tryd.ntmps68
    go_wp2
    exact HR.out _ _ ⟨_, rfl, Own.nil_ _ _ _ _, Below.refl _ _⟩
  | some ad =>
    have heq := fun w' => Lib.run_eql_slice_nil (P := Tryd.prog) w' 61 96 (some ad) l.length c 0 0 Tryd.underlying61
    go_enter Tryd.func68, Tryd.ntmps68
    go_wp2_with (at_builtin; refine wpList_append_Own _ rfl _ _ _ rfl w.heap.size 96 i0 _ 4 40 Tryd.underlying61 hi0 hz0 hz1 hz2 rfl (by omega) (by omega) (.slice (some ⟨w.heap.size, 0, none⟩) 0 0) 0 [] rfl (Own.made w _ _ _ (Nat.le_refl _)) w.heap.size (some ad) l.length c (l.flatMap valV) rfl (hr.alloc (Nat.le_refl _) _) (valF_one l) (by simp only [maxLen]; omega) (by omega) (by simp) ?_; intro v1 w1 hown1 hg1 hat1)
    refine HR.out _ _ ⟨v1, rfl, by simpa using hown1, ?_⟩
    exact below_grown ((Below.refl w.heap.size w).alloc (Nat.le_refl _) _) hg1 (fun g hg => by simp [Value.ownBlock] at hg; omega) (by simp)
theorem Col.ext_iff' {a b : Col} : a = b ↔ a.name = b.name ∧ a.kind = b.kind ∧ a.null = b.null := by
  cases a; cases b; simp
instance decCol : DecidableEq Col := fun a b => decidable_of_iff _ Col.ext_iff'.symm
def sameC (a b : List Col) : Bool := decide (a = b)
set_option maxHeartbeats 2000000 in
theorem eqCols_any (v1 v2 : Value) (a b : List Col) (w : World) (h1 : RdC w w.heap.size v1 a) (h2 : RdC w w.heap.size v2 b) :
    Calls Tryd.prog 104 #[v1, v2] w fun e w' => e = .returned (.bool (sameC a b)) ∧ Below w.heap.size w w' := by
  refine cps fun R HR => ?_
  have g1 := h1; have g2 := h2
  obtain ⟨A, c, rfl, -⟩ := h1.is
  obtain ⟨A', c', rfl, -⟩ := h2.is
  have hf1 := RdF.few g1
  have hf2 := RdF.few g2
  clear h1 h2
  go_enter Tryd.func104, Tryd.ntmps104
  by_cases hl : a.length = b.length
  · have d : ((a.length : Int) != (b.length : Int)) = false := by simp [hl]
    have HL := Lib.hid hl
    go_wp2
    go_loopw [13] (fun i wr => ∃ k : Nat, k ≤ a.length ∧ i = .int .i64 k ∧ a.take k = b.take k ∧ Below w.heap.size w wr) (fun i _ => a.length - (intOf i).toNat)
    case atStart => exact ⟨0, Nat.zero_le _, rfl, rfl, Below.refl _ _⟩
    case round =>
      obtain ⟨k, hk, rfl, hN, hB⟩ := hrel
      have HN := Lib.hid hN; clear hN
      by_cases hlt : k < a.length
      · have hltb : k < b.length := by omega
        obtain ⟨p, c3, hv, q0, q1, q2⟩ := RdC.at (g1.below hB) hlt
        injection hv with hA _ hcc
        subst hA
        subst hcc
        obtain ⟨p', c4, hv', r0, r1, r2⟩ := RdC.at (g2.below hB) hltb
        injection hv' with hA _ hcc
        subst hA
        subst hcc
        have hs1 : a.take (k + 1) = a.take k ++ [a[k]] := List.take_succ_eq_append_getElem hlt
        have hs2 : b.take (k + 1) = b.take k ++ [b[k]] := List.take_succ_eq_append_getElem hltb
        obtain ⟨x, hx⟩ : ∃ x, x = a[k] := ⟨_, rfl⟩
        obtain ⟨y, hy⟩ : ∃ y, y = b[k] := ⟨_, rfl⟩
        rw [← hx] at q0 q1 q2 hs1
        rw [← hy] at r0 r1 r2 hs2
        obtain ⟨xs, xk, xb⟩ := x
        obtain ⟨ys, yk, yb⟩ := y
        have S1 := Lib.hid hs1; have S2 := Lib.hid hs2
        clear hx hy hs1 hs2 hl
        have dk : decide ((k : Int) < a.length) = true := decide_eq_true (by omega)
        have hltI : (k : Int) < b.length := by omega
        have hne : (⟨xs, xk, xb⟩ : Col) ≠ ⟨ys, yk, yb⟩ → sameC a b = false := fun hne => by
          unfold sameC
          rw [decide_eq_false_iff_not]
          intro hab
          have h1 := S1.out
          have h2 := S2.out
          rw [hab, h2] at h1
          have h3 := HN.out
          rw [hab] at h3
          exact hne (by simpa using h1.symm)
        have HNE := Lib.hid hne
        clear hne
        by_cases e1 : xs = ys
        · by_cases e0 : xk = yk
          · by_cases e3 : xb = yb
            · subst e0 e1 e3
              have HNN := Lib.hid (show a.take (k + 1) = b.take (k + 1) by rw [S1.out, S2.out, HN.out])
              go_wp2
              go_quiet (fail)
              go_wp2
              exact ⟨⟨k + 1, by omega, by go_num, HNN.out, below_drewN hB _⟩, by simp [intOf]; omega⟩
            · subst e0 e1
              have HNO := Lib.hid (HNE.out (fun h => by injection h with _ _ h; exact e3 h))
              have d4 : (xb == yb) = false := by rw [beq_eq_false_iff_ne]; exact e3
              clear e3
              go_wp2
              go_quiet (fail)
              go_wp2
              exact HR.out _ _ ⟨by rw [HNO.out]; try rfl, below_drewN hB _⟩
          · subst e1
            have HNO := Lib.hid (HNE.out (fun h => by injection h with _ h _; exact e0 h))
            have d1 : (xk == yk) = false := by rw [beq_eq_false_iff_ne]; exact e0
            clear e0
            go_wp2
            go_quiet (fail)
            go_wp2
            exact HR.out _ _ ⟨by rw [HNO.out]; try rfl, below_drewN hB _⟩
        · have HNO := Lib.hid (HNE.out (fun h => by injection h with h _ _; exact e1 h))
          have d2 : (xs.toList == ys.toList) = false := by rw [str_eq]; exact decide_eq_false e1
          clear e1
          go_wp2
          go_quiet (fail)
          go_wp2
          exact HR.out _ _ ⟨by rw [HNO.out]; try rfl, below_drewN hB _⟩
      · have HY := Lib.hid (show sameC a b = true by
          unfold sameC
          rw [decide_eq_true_iff]
          have := HN.out
          rw [List.take_of_length_le (by omega), List.take_of_length_le (by omega)] at this
          exact this)
        go_wp2
        exact HR.out _ _ ⟨by rw [HY.out]; try rfl, hB⟩
  · have HNO := Lib.hid (show sameC a b = false by
      unfold sameC
      rw [decide_eq_false_iff_not]
      rintro rfl
      exact hl rfl)
    have d : ((a.length : Int) != (b.length : Int)) = true := by rw [bne_iff_ne]; omega
    clear hl
    go_wp2
    exact HR.out _ _ ⟨by rw [HNO.out]; try rfl, Below.refl _ _⟩
theorem schSame_any (v1 v2 : Value) (a b : List Col) (w : World) (h1 : RdC w w.heap.size v1 a) (h2 : RdC w w.heap.size v2 b) :
    Calls Tryd.prog 67 #[v1, v2] w fun e w' => e = .returned (.bool (sameC a b)) ∧ Below w.heap.size w w' := by
  refine cps fun R HR => ?_
  go_enter Tryd.func67, Tryd.ntmps67
  go_wp2_with fail
  refine (eqCols_any _ _ a b _ h1 h2).mono ?_
  rintro e w1 ⟨rfl, b1⟩
  go_wp2
  exact HR.out _ _ ⟨rfl, b1⟩
def sameW (a b : VRow) : Bool := decide (a = b)
set_option maxHeartbeats 2000000 in
theorem eqRow_any (v1 v2 : Value) (a b : VRow) (w : World) (h1 : RdV w w.heap.size v1 a) (h2 : RdV w w.heap.size v2 b) :
    Calls Tryd.prog 69 #[v1, v2, .func (.func 70) #[] #[]] w fun e w' => e = .returned (.bool (sameW a b)) ∧ Below w.heap.size w w' := by
  refine cps fun R HR => ?_
  have g1 := h1; have g2 := h2
  obtain ⟨A, c, rfl, -⟩ := h1.is
  obtain ⟨A', c', rfl, -⟩ := h2.is
  have hf1 := RdF.few g1
  have hf2 := RdF.few g2
  clear h1 h2
  go_enter Tryd.func69, Tryd.ntmps69
  by_cases hl : a.length = b.length
  · have d : ((a.length : Int) != (b.length : Int)) = false := by simp [hl]
    have HL := Lib.hid hl
    go_wp2
    go_loopw [17] (fun i wr => ∃ k : Nat, k ≤ a.length ∧ i = .int .i64 k ∧ a.take k = b.take k ∧ Below w.heap.size w wr) (fun i _ => a.length - (intOf i).toNat)
    case atStart => exact ⟨0, Nat.zero_le _, rfl, rfl, Below.refl _ _⟩
    case round =>
      obtain ⟨k, hk, rfl, hN, hB⟩ := hrel
      have HN := Lib.hid hN; clear hN
      by_cases hlt : k < a.length
      · have hltb : k < b.length := by omega
        obtain ⟨p, c3, hv, q0, q1, q2, q3⟩ := RdV.at (g1.below hB) hlt
        injection hv with hA _ hcc
        subst hA
        subst hcc
        obtain ⟨p', c4, hv', r0, r1, r2, r3⟩ := RdV.at (g2.below hB) hltb
        injection hv' with hA _ hcc
        subst hA
        subst hcc
        have hs1 : a.take (k + 1) = a.take k ++ [a[k]] := List.take_succ_eq_append_getElem hlt
        have hs2 : b.take (k + 1) = b.take k ++ [b[k]] := List.take_succ_eq_append_getElem hltb
        obtain ⟨x, hx⟩ : ∃ x, x = a[k] := ⟨_, rfl⟩
        obtain ⟨y, hy⟩ : ∃ y, y = b[k] := ⟨_, rfl⟩
        rw [← hx] at q0 q1 q2 q3 hs1
        rw [← hy] at r0 r1 r2 r3 hs2
        obtain ⟨xk, xs, xn, xb⟩ := x
        obtain ⟨yk, ys, yn, yb⟩ := y
        have S1 := Lib.hid hs1; have S2 := Lib.hid hs2
        clear hx hy hs1 hs2 hl
        have dk : decide ((k : Int) < a.length) = true := decide_eq_true (by omega)
        have hltI : (k : Int) < b.length := by omega
        have hne : (⟨xk, xs, xn, xb⟩ : Val) ≠ ⟨yk, ys, yn, yb⟩ → sameW a b = false := fun hne => by
          unfold sameW
          rw [decide_eq_false_iff_not]
          intro hab
          have h1 := S1.out
          have h2 := S2.out
          rw [hab, h2] at h1
          have h3 := HN.out
          rw [hab] at h3
          exact hne (by simpa using h1.symm)
        have heq : (⟨xk, xs, xn, xb⟩ : Val) = ⟨yk, ys, yn, yb⟩ → a.take (k + 1) = b.take (k + 1) := fun he => by rw [S1.out, S2.out, HN.out, he]
        have HNE := Lib.hid hne; have HEQ := Lib.hid heq
        have z1 := World.block_lt_of_cell? wr _ q0
        have z2 := World.block_lt_of_cell? wr _ r0
        clear hne heq
        obtain ⟨ts, hts⟩ : ∃ ts, ts = decide ((⟨xk, xs, xn, xb⟩ : Val) = ⟨yk, ys, yn, yb⟩) := ⟨_, rfl⟩
        have HTS := Lib.hid hts
        clear hts
        go_wp2_with fail
        refine (dsame_at xk yk xn yn xs ys xb yb _).mono ?_
        rintro e w3 ⟨rfl, b3⟩
        rw [← HTS.out]
        have hB3 : Below w.heap.size w w3 := by
          have q := (hB.alloc hB.size (.cells #[.int .i64 xk, .string xs, .int .i64 xn, .bool xb] 96)).alloc (by have := hB.size; simp; omega) (.cells #[.int .i64 yk, .string ys, .int .i64 yn, .bool yb] 96)
          exact q.trans (b3.mono q.size)
        cases ts
        · have HNO := Lib.hid (HNE.out (of_decide_eq_false HTS.out.symm))
          go_wp2
          exact HR.out _ _ ⟨by rw [HNO.out]; try rfl, hB3⟩
        · have HNN := Lib.hid (HEQ.out (of_decide_eq_true HTS.out.symm))
          go_wp2
          exact ⟨⟨k + 1, by omega, by go_num, HNN.out, hB3⟩, by simp [intOf]; omega⟩
      · have HY := Lib.hid (show sameW a b = true by
          unfold sameW
          rw [decide_eq_true_iff]
          have := HN.out
          rw [List.take_of_length_le (by omega), List.take_of_length_le (by omega)] at this
          exact this)
        go_wp2
        exact HR.out _ _ ⟨by rw [HY.out]; try rfl, hB⟩
  · have HNO := Lib.hid (show sameW a b = false by
      unfold sameW
      rw [decide_eq_false_iff_not]
      rintro rfl
      exact hl rfl)
    have d : ((a.length : Int) != (b.length : Int)) = true := by rw [bne_iff_ne]; omega
    clear hl
    go_wp2
    exact HR.out _ _ ⟨by rw [HNO.out]; try rfl, Below.refl _ _⟩
end Go.Proofs.YtgiemhooeoakmaaDoor

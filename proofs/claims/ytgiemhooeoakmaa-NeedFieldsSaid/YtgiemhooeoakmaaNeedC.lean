/- Layer 8: few; need.Fields. -/
import Derived.Test.YtgiemhooeoakmaaNeedB
namespace Go.Proofs.Ytgiemhooeoakmaa
open Go.RowKit Go.ChangeShapes Go.WideShapes
set_option linter.unusedVariables false
set_option linter.unusedSimpArgs false

theorem few8_any (v : Value) (l : Row) (w : World) (h : RdS w w.heap.size v l) (hbig : ∀ s ∈ l, s.size ≤ 140737488351232) :
    Calls Try.prog 12 #[v] w fun e w' => (∃ g : Bool, e = .returned (.bool g) ∧ (g = true → l.length ≤ 20 ∧ bytesR l ≤ 400)) ∧ w' = w := by
  refine cps fun R HR => ?_
  have h0 := h
  have hf := h0.few
  obtain ⟨A, c, rfl, -⟩ := h.is
  have HBIG := Lib.hid hbig
  clear h hbig
  by_cases h20 : l.length ≤ 20
  · have d20 : decide ((l.length : Int) > 20) = false := decide_eq_false (by omega)
    have d20' : decide ((20 : Int) < l.length) = false := decide_eq_false (by omega)
    go_enter Try.func12, Try.ntmps12
    go_wp2
    go_loopw [3, 11] (fun n i wr => ∃ k : Nat, k ≤ l.length ∧ i = .int .i64 k ∧ n = .int .i64 (bytesR (l.take k) : Nat) ∧ bytesR (l.take k) ≤ 400 ∧ wr = w) (fun _ i _ => l.length - (intOf i).toNat)
    case atStart => exact ⟨0, Nat.zero_le _, rfl, rfl, Nat.zero_le _, rfl⟩
    case round =>
      obtain ⟨k, hk, rfl, rfl, hn, rfl⟩ := hrel
      by_cases hlt : k < l.length
      · obtain ⟨p, c4, hv, hc⟩ := h0.at hlt
        injection hv with hA _ hcc
        subst hA
        subst hcc
        have hs1 : bytesR (l.take (k + 1)) = bytesR (l.take k) + l[k].size := tot_take ByteArray.size l hlt
        have hxs := HBIG.out _ (List.getElem_mem hlt)
        obtain ⟨x, hx⟩ : ∃ x, x = l[k] := ⟨_, rfl⟩
        rw [← hx] at hc hs1 hxs
        obtain ⟨m, hm⟩ : ∃ m, m = bytesR (l.take k) := ⟨_, rfl⟩
        rw [← hm] at hs1 hn ⊢
        have S1 := Lib.hid hs1
        clear hx hs1 hm
        have dk : decide ((k : Int) < l.length) = true := decide_eq_true (by omega)
        by_cases h4 : m + x.size ≤ 400
        · have d4 : decide (((m : Int) + x.size) > 400) = false := decide_eq_false (by omega)
          have d4' : decide ((400 : Int) < (m : Int) + x.size) = false := decide_eq_false (by omega)
          go_wp2
          exact ⟨⟨k + 1, by omega, by go_num, by rw [S1.out]; go_num, by rw [S1.out]; exact h4, trivial⟩, by simp [intOf]; omega⟩
        · have d4 : decide (((m : Int) + x.size) > 400) = true := decide_eq_true (by omega)
          have d4' : decide ((400 : Int) < (m : Int) + x.size) = true := decide_eq_true (by omega)
          go_wp2
          exact HR.out _ _ ⟨⟨false, rfl, fun h => by cases h⟩, rfl⟩
      · obtain rfl : k = l.length := by omega
        rw [List.take_length] at hn ⊢
        have HN := Lib.hid hn
        clear hn hlt
        go_wp2
        exact HR.out _ _ ⟨⟨true, rfl, fun _ => ⟨h20, HN.out⟩⟩, rfl⟩
  · have d20 : decide ((l.length : Int) > 20) = true := decide_eq_true (by omega)
    have d20' : decide ((20 : Int) < l.length) = true := decide_eq_true (by omega)
    go_enter Try.func12, Try.ntmps12
    go_wp2
    exact HR.out _ _ ⟨⟨false, rfl, fun h => by cases h⟩, rfl⟩
/-- Whether field k must be quoted. -/
def fldA (d q : Nat) (fi : Bool) (l : Row) (k : Nat) : Bool := decide (whyN d q (l.getD k ⟨#[]⟩) (decide (l.length = 1)) (fi && decide (k = 0)) ≠ 0)
def fldN (d q : Nat) (fi : Bool) (l : Row) (n : Nat) : List Bool := (List.range n).map (fldA d q fi l)
theorem fldN_snoc (d q : Nat) (fi : Bool) (l : Row) (n : Nat) : fldN d q fi l (n + 1) = fldN d q fi l n ++ [fldA d q fi l n] := by
  unfold fldN
  rw [List.range_succ, List.map_append]
  rfl
theorem fldN_len (d q : Nat) (fi : Bool) (l : Row) (n : Nat) : (fldN d q fi l n).length = n := by simp [fldN]
set_option maxHeartbeats 2000000 in
theorem fields_any (d q : Nat) (e : Int) (v : Value) (l : Row) (fi : Bool) (w : World) (h : RdS w w.heap.size v l) (hl : l.length ≤ 100000) (hb : ∀ s ∈ l, s.size ≤ 100000) :
    Calls Try.prog 13 #[.agg #[.int .u8 d, .int .u8 q, .int .i64 e], v, .bool fi] w fun e w' => ∃ o, e = .returned o ∧ Own w' w.heap.size 4 1 o l.length (boolV (fldN d q fi l l.length)) ∧ Below w.heap.size w w' := by
  refine cps fun R HR => ?_
  obtain ⟨i0, hi0, hz0, hz1, hz2⟩ := info_parts bool_info
  have h0 := h
  obtain ⟨A, c, rfl, -⟩ := h.is
  have hf := h0.few
  clear h
  obtain ⟨w0, hw0⟩ : ∃ w0, w0 = w.alloc (.cells #[.int .u8 d, .int .u8 q, .int .i64 e] 23) := ⟨_, rfl⟩
  have bw0 : Below w.heap.size w w0 := by rw [hw0]; exact (Below.refl _ _).alloc (Nat.le_refl _) _
  have X := Box.new w 23 #[.int .u8 d, .int .u8 q, .int .i64 e]
  rw [← hw0] at X
  obtain ⟨al, hal⟩ : ∃ al, al = decide (l.length = 1) := ⟨_, rfl⟩
  have dal : ((l.length : Int) == 1) = al := by rw [hal, Bool.eq_iff_iff, beq_iff_eq, decide_eq_true_iff]; omega
  have HW0 := Lib.hid hw0; have HB0 := Lib.hid bw0; have HX := Lib.hid X; have HAL := Lib.hid hal; have HB := Lib.hid hb
  clear hw0 bw0 X hal hb
  go_enter Try.func13, Try.ntmps13
  go_wp2
  rw [← HW0.out]
  go_loopw [7, 12] (fun o i wr => ∃ k : Nat, k ≤ l.length ∧ i = .int .i64 k ∧ Own wr w0.heap.size 4 1 o k (boolV (fldN d q fi l k)) ∧ Below w0.heap.size w0 wr) (fun _ i _ => l.length - (intOf i).toNat)
  case atStart => exact ⟨0, Nat.zero_le _, rfl, Own.nil_ _ _ _ _, Below.refl _ _⟩
  case round =>
    obtain ⟨k, hk, rfl, hO, hBr⟩ := hrel
    have bwr := HB0.out.trans (hBr.mono HB0.out.size)
    by_cases hlt : k < l.length
    · obtain ⟨p, c4, hv, hc⟩ := (h0.below bwr).at hlt
      injection hv with hA _ hcc
      subst hA
      subst hcc
      have hs1 := fldN_snoc d q fi l k
      unfold fldA at hs1
      rw [List.getD_eq_getElem?_getD, List.getElem?_eq_getElem hlt, Option.getD_some, ← HAL.out] at hs1
      have hxs := HB.out _ (List.getElem_mem hlt)
      obtain ⟨x, hx⟩ : ∃ x, x = l[k] := ⟨_, rfl⟩
      rw [← hx] at hc hs1 hxs
      have S1 := Lib.hid hs1
      clear hx hs1
      have dk : decide ((k : Int) < l.length) = true := decide_eq_true (by omega)
      have X2 := HX.out.below hBr HX.out.lt
      have x0 := X2.cell 0
      have x1 := X2.cell 1
      have x2 := X2.cell 2
      simp at x0 x1 x2
      obtain ⟨tk, htk⟩ : ∃ tk, tk = decide (k = 0) := ⟨_, rfl⟩
      have dtk : ((k : Int) == 0) = tk := by rw [htk, Bool.eq_iff_iff, beq_iff_eq, decide_eq_true_iff]; omega
      have HTK := Lib.hid htk
      clear htk X2
      have key : ∀ fk : Bool, fk = (fi && tk) → True := fun _ _ => trivial
      clear key
      cases fi
      · go_wp2_with fail
        refine (need_any d q e x al false _ hxs).mono ?_
        rintro e w4 ⟨rfl, b4⟩
        have hB4 := hBr.trans (b4.mono hBr.size)
        have hO4 := hO.below b4 (Nat.le_refl _)
        have s1 := S1.out
        rw [← HTK.out, Bool.false_and] at s1
        obtain ⟨ny, hny⟩ : ∃ ny, ny = decide (whyN d q x al false ≠ 0) := ⟨_, rfl⟩
        rw [← hny] at s1 ⊢
        have S2 := Lib.hid s1
        clear hny s1 x0 x1 x2
        go_wp2_with (at_builtin; refine wpList_push rfl _ _ _ rfl w0.heap.size 4 i0 _ 1 Try.underlying36 hi0 hz0 hz1 hz2 rfl (by omega) u7 k _ (.bool ny) rfl hO4 (by simp [Act.eval]) rfl (by omega) hB4.size ?_; intro v5 w6 hown5 hg5 hat5)
        exact ⟨⟨k + 1, by omega, by go_num, by rw [S2.out, boolV_snoc]; exact hown5, below_grown hB4 hg5 (fun g hg => (hO.lt g hg).1) hB4.size⟩, by simp [intOf]; omega⟩
      · go_wp2_with fail
        refine (need_any d q e x al tk _ hxs).mono ?_
        rintro e w4 ⟨rfl, b4⟩
        have hB4 := hBr.trans (b4.mono hBr.size)
        have hO4 := hO.below b4 (Nat.le_refl _)
        have s1 := S1.out
        rw [← HTK.out, Bool.true_and] at s1
        obtain ⟨ny, hny⟩ : ∃ ny, ny = decide (whyN d q x al tk ≠ 0) := ⟨_, rfl⟩
        rw [← hny] at s1 ⊢
        have S2 := Lib.hid s1
        clear hny s1 x0 x1 x2
        go_wp2_with (at_builtin; refine wpList_push rfl _ _ _ rfl w0.heap.size 4 i0 _ 1 Try.underlying36 hi0 hz0 hz1 hz2 rfl (by omega) u7 k _ (.bool ny) rfl hO4 (by simp [Act.eval]) rfl (by omega) hB4.size ?_; intro v5 w6 hown5 hg5 hat5)
        exact ⟨⟨k + 1, by omega, by go_num, by rw [S2.out, boolV_snoc]; exact hown5, below_grown hB4 hg5 (fun g hg => (hO.lt g hg).1) hB4.size⟩, by simp [intOf]; omega⟩
    · obtain rfl : k = l.length := by omega
      go_wp2
      exact HR.out _ _ ⟨_, rfl, hO.mono HB0.out.size, bwr⟩
end Go.Proofs.Ytgiemhooeoakmaa

/- Layer 18, the reference: Same. Layer 25, the reference: Within. Layer 25, plain: the changes back are the changes, turned; there are none from a table to itself; without any both have the same rows. Layer 25: diff.Turn. Layer 25, the law: changes as the reference has them. Layer 25, plain: what the laws say of diff. Layer 25, the law: is a case short? How a case is opened. Layer 25: the document's example. -/
import Derived.Test.YtgiemhooeoakmaaDoorKG
import Derived.Test.YtgiemhooeoakmaaDoorKE
import Derived.Test.YtgiemhooeoakmaaDoorKA
namespace Go.Proofs.YtgiemhooeoakmaaDoor
open Go.RowKit Go.ChangeShapes Go.WideShapes
set_option linter.unusedVariables false
set_option linter.unusedSimpArgs false

set_option maxHeartbeats 2000000 in
theorem refSameC_any (v1 v2 : Value) (a b : List Col) (w : World) (h1 : RdRC w w.heap.size v1 a) (h2 : RdRC w w.heap.size v2 b) :
    Calls Tryd.prog 20 #[v1, v2] w fun e w' => e = .returned (.bool (sameC a b)) ∧ Below w.heap.size w w' := by
  refine cps fun R HR => ?_
  have g1 := h1; have g2 := h2
  obtain ⟨A, c, rfl, -⟩ := h1.is
  obtain ⟨A', c', rfl, -⟩ := h2.is
  have hf1 := RdF.few g1
  have hf2 := RdF.few g2
  clear h1 h2
  go_enter Tryd.func20, Tryd.ntmps20
  by_cases hl : a.length = b.length
  · have d : ((a.length : Int) != (b.length : Int)) = false := by simp [hl]
    have HL := Lib.hid hl
    go_wp2
    go_loopw [13] (fun i wr => ∃ k : Nat, k ≤ a.length ∧ i = .int .i64 k ∧ a.take k = b.take k ∧ Below w.heap.size w wr) (fun i _ => a.length - (intOf i).toNat)
    case atStart => exact ⟨0, Nat.zero_le _, rfl, rfl, Below.refl _ _⟩
    case round =>
      obtain ⟨k, hk, rfl, hN, hB⟩ := hrel
      have HN := Lib.hid hN; clear hN
      by_cases hlt : k < a.length
      · have hltb : k < b.length := by omega
        obtain ⟨p, c3, hv, q0, q1, q2⟩ := RdRC.at (g1.below hB) hlt
        injection hv with hA _ hcc
        subst hA
        subst hcc
        obtain ⟨p', c4, hv', r0, r1, r2⟩ := RdRC.at (g2.below hB) hltb
        injection hv' with hA _ hcc
        subst hA
        subst hcc
        have hs1 : a.take (k + 1) = a.take k ++ [a[k]] := List.take_succ_eq_append_getElem hlt
        have hs2 : b.take (k + 1) = b.take k ++ [b[k]] := List.take_succ_eq_append_getElem hltb
        obtain ⟨x, hx⟩ : ∃ x, x = a[k] := ⟨_, rfl⟩
        obtain ⟨y, hy⟩ : ∃ y, y = b[k] := ⟨_, rfl⟩
        rw [← hx] at q0 q1 q2 hs1
        rw [← hy] at r0 r1 r2 hs2
        obtain ⟨xs, xk, xb⟩ := x
        obtain ⟨ys, yk, yb⟩ := y
        have S1 := Lib.hid hs1; have S2 := Lib.hid hs2
        clear hx hy hs1 hs2 hl
        have dk : decide ((k : Int) < a.length) = true := decide_eq_true (by omega)
        have hltI : (k : Int) < b.length := by omega
        have hne : (⟨xs, xk, xb⟩ : Col) ≠ ⟨ys, yk, yb⟩ → sameC a b = false := fun hne => by
          unfold sameC
          rw [decide_eq_false_iff_not]
          intro hab
          have h1 := S1.out
          have h2 := S2.out
          rw [hab, h2] at h1
          have h3 := HN.out
          rw [hab] at h3
          exact hne (by simpa using h1.symm)
        have HNE := Lib.hid hne
        clear hne
        by_cases e1 : xs = ys
        · by_cases e0 : xk = yk
          · by_cases e3 : xb = yb
            · subst e0 e1 e3
              have HNN := Lib.hid (show a.take (k + 1) = b.take (k + 1) by rw [S1.out, S2.out, HN.out])
              go_wp2
              go_quiet (fail)
              go_wp2
              exact ⟨⟨k + 1, by omega, by go_num, HNN.out, below_drewN hB _⟩, by simp [intOf]; omega⟩
            · subst e0 e1
              have HNO := Lib.hid (HNE.out (fun h => by injection h with _ _ h; exact e3 h))
              have d4 : (nullI xb == nullI yb) = false := by rw [beq_eq_false_iff_ne]; exact fun h => e3 (nullI_inj h)
              clear e3
              go_wp2
              go_quiet (fail)
              go_wp2
              exact HR.out _ _ ⟨by rw [HNO.out]; try rfl, below_drewN hB _⟩
          · subst e1
            have HNO := Lib.hid (HNE.out (fun h => by injection h with _ h _; exact e0 h))
            have d1 : (xk == yk) = false := by rw [beq_eq_false_iff_ne]; exact e0
            clear e0
            go_wp2
            go_quiet (fail)
            go_wp2
            exact HR.out _ _ ⟨by rw [HNO.out]; try rfl, below_drewN hB _⟩
        · have HNO := Lib.hid (HNE.out (fun h => by injection h with h _ _; exact e1 h))
          have d2 : (xs.toList == ys.toList) = false := by rw [str_eq]; exact decide_eq_false e1
          clear e1
          go_wp2
          go_quiet (fail)
          go_wp2
          exact HR.out _ _ ⟨by rw [HNO.out]; try rfl, below_drewN hB _⟩
      · have HY := Lib.hid (show sameC a b = true by
          unfold sameC
          rw [decide_eq_true_iff]
          have := HN.out
          rw [List.take_of_length_le (by omega), List.take_of_length_le (by omega)] at this
          exact this)
        go_wp2
        exact HR.out _ _ ⟨by rw [HY.out]; try rfl, hB⟩
  · have HNO := Lib.hid (show sameC a b = false by
      unfold sameC
      rw [decide_eq_false_iff_not]
      rintro rfl
      exact hl rfl)
    have d : ((a.length : Int) != (b.length : Int)) = true := by rw [bne_iff_ne]; omega
    clear hl
    go_wp2
    exact HR.out _ _ ⟨by rw [HNO.out]; try rfl, Below.refl _ _⟩
end Go.Proofs.YtgiemhooeoakmaaDoor

namespace Go.Proofs.YtgiemhooeoakmaaDoor
open Go.RowKit Go.ChangeShapes Go.WideShapes
set_option linter.unusedVariables false
set_option linter.unusedSimpArgs false

def withinB (a b : List Chg) : Bool := a.all fun x => b.any fun y => oneC x y
theorem withinB_true {a b : List Chg} (h : ∀ x ∈ a, x ∈ b) : withinB a b = true := by
  unfold withinB
  rw [List.all_eq_true]
  intro x hx
  exact List.any_eq_true.2 ⟨x, h x hx, decide_eq_true rfl⟩
theorem all_take {α : Type} (p : α → Bool) (l : List α) {k : Nat} (hk : k < l.length) : (l.take (k + 1)).all p = ((l.take k).all p && p l[k]) := by
  rw [List.take_succ_eq_append_getElem hk, List.all_append]
  simp
theorem all_take_no {α : Type} (p : α → Bool) (l : List α) {k : Nat} (hk : k < l.length) (h : p l[k] = false) : l.all p = false := by
  rw [List.all_eq_false]
  exact ⟨l[k], List.getElem_mem hk, by simp [h]⟩
set_option maxHeartbeats 2000000 in
theorem within_any (v1 v2 : Value) (a b : List Chg) (w : World) (h1 : RdCh rvalV w w.heap.size v1 a) (h2 : RdCh rvalV w w.heap.size v2 b) :
    Calls Tryd.prog 32 #[v1, v2] w fun e w' => e = .returned (.bool (withinB a b)) ∧ Below w.heap.size w w' := by
  refine cps fun R HR => ?_
  have g1 := h1; have g2 := h2
  obtain ⟨A, c, rfl⟩ := h1.form
  obtain ⟨A', c', rfl⟩ := h2.form
  have hf1 := g1.few
  have hf2 := g2.few
  clear h1 h2
  obtain ⟨p, hp⟩ : ∃ p : Chg → Bool, p = fun x => b.any fun y => oneC x y := ⟨_, rfl⟩
  have hw : withinB a b = a.all p := by rw [hp]; rfl
  rw [hw] at HR
  have HP := Lib.hid hp
  clear hp hw
  go_enter Tryd.func32, Tryd.ntmps32
  go_wp2
  go_loopw [12] (fun i wr => ∃ k : Nat, k ≤ a.length ∧ i = .int .i64 k ∧ (a.take k).all p = true ∧ Below w.heap.size w wr) (fun i _ => a.length - (intOf i).toNat)
  case atStart => exact ⟨0, Nat.zero_le _, rfl, rfl, Below.refl _ _⟩
  case round =>
    obtain ⟨k, hk, rfl, hN, hB⟩ := hrel
    have HN := Lib.hid hN; clear hN
    by_cases hlt : k < a.length
    · obtain ⟨q, c3, uo, un, hv, q0, q1, q2, q3, q4⟩ := (g1.next hB).at hlt
      injection hv with hA hln hcc
      subst hA
      subst hcc
      clear hln
      have hs1 := all_take p a hlt
      have hs2 : p a[k] = false → a.all p = false := all_take_no p a hlt
      obtain ⟨x, hx⟩ : ∃ x, x = a[k] := ⟨_, rfl⟩
      rw [← hx] at q0 q3 q4 hs1 hs2
      have hpx : p x = b.any fun y => oneC x y := by rw [HP.out]
      have Q3 := Lib.hid q3; have Q4 := Lib.hid q4
      obtain ⟨B1, d1, rfl, -⟩ := q3.is
      obtain ⟨B2, d2, rfl, -⟩ := q4.is
      have S1 := Lib.hid hs1; have S2 := Lib.hid hs2; have HPX := Lib.hid hpx
      clear hx hs1 hs2 q3 q4 hpx
      have dk : decide ((k : Int) < a.length) = true := decide_eq_true (by omega)
      obtain ⟨w3, rfl⟩ : ∃ w3 : World, w3 = wr := ⟨_, rfl⟩
      obtain ⟨w4, hw4⟩ : ∃ w4, w4 = w3.alloc (.cells #[.int .i64 x.kind, .slice B1 x.old.length d1, .slice B2 x.new.length d2] 123) := ⟨_, rfl⟩
      have X := Box.new w3 123 #[.int .i64 x.kind, .slice B1 x.old.length d1, .slice B2 x.new.length d2]
      have b34 : Below w3.heap.size w3 w4 := by rw [hw4]; exact (Below.refl _ _).alloc (Nat.le_refl _) _
      rw [← hw4] at X
      have HX := Lib.hid X; have HW4 := Lib.hid hw4
      have hB0 := hB.trans (b34.mono hB.size)
      clear X hw4
      go_wp2
      rw [← HW4.out]
      go_loopw [7, 18] (fun f i wr => ∃ m : Nat, m ≤ b.length ∧ i = .int .i64 m ∧ f = .bool ((b.take m).any fun y => oneC x y) ∧ Below w4.heap.size w4 wr) (fun _ i _ => b.length - (intOf i).toNat)
      case atStart => exact ⟨0, Nat.zero_le _, rfl, rfl, Below.refl _ _⟩
      case round =>
        obtain ⟨m, hm, rfl, rfl, hB3⟩ := hrel
        have hB4 := hB0.trans (hB3.mono hB0.size)
        have X2 := HX.out.below hB3 HX.out.lt
        have x0 := X2.cell 0
        have x1 := X2.cell 1
        have x2 := X2.cell 2
        simp at x0 x1 x2
        have hx3 := X2.lt
        clear X2
        obtain ⟨fb, hfb⟩ : ∃ fb, fb = (b.take m).any fun y => oneC x y := ⟨_, rfl⟩
        rw [← hfb]
        have HFB := Lib.hid hfb
        clear hfb
        by_cases hltm : m < b.length
        · obtain ⟨q', c4, vo, vn, hv', r0, r1, r2, r3, r4⟩ := (g2.next hB4).at hltm
          injection hv' with hA hln hcc
          subst hA
          subst hcc
          clear hln
          have hs3 := any_take (fun y => oneC x y) b hltm
          obtain ⟨y, hy⟩ : ∃ y, y = b[m] := ⟨_, rfl⟩
          rw [← hy] at r0 r3 r4 hs3
          have R3 := Lib.hid r3; have R4 := Lib.hid r4
          obtain ⟨B3, d3, rfl, -⟩ := r3.is
          obtain ⟨B4, d4, rfl, -⟩ := r4.is
          have S3 := Lib.hid hs3
          clear hy hs3 r3 r4
          have dm : decide ((m : Int) < b.length) = true := decide_eq_true (by omega)
          cases fb
          · have b45 : Below wr.heap.size wr (wr.alloc (.cells #[.int .i64 y.kind, .slice B3 y.old.length d3, .slice B4 y.new.length d4] 123)) := (Below.refl _ _).alloc (Nat.le_refl _) _
            have bq := (b34.trans (hB3.mono b34.size)).trans (b45.mono (b34.trans (hB3.mono b34.size)).size)
            go_wp2_with fail
            refine (one25_any _ _ _ _ x y _ (RdF.next Q3.out bq) (RdF.next Q4.out bq) (RdF.next R3.out b45) (RdF.next R4.out b45)).mono ?_
            rintro e w5 ⟨rfl, b5⟩
            have hn : (b.take (m + 1)).any (fun y => oneC x y) = oneC x y := by rw [S3.out, ← HFB.out]; rfl
            have HNN := Lib.hid hn
            have hB5 := hB3.trans (b45.mono hB3.size)
            clear hn
            go_wp2
            exact ⟨⟨m + 1, by omega, by go_num, by rw [HNN.out], hB5.trans (b5.mono hB5.size)⟩, by simp [intOf]; omega⟩
          · have hn : (b.take (m + 1)).any (fun y => oneC x y) = true := by rw [S3.out, ← HFB.out]; rfl
            have HNN := Lib.hid hn
            clear hn
            go_wp2
            exact ⟨⟨m + 1, by omega, by go_num, by rw [HNN.out], hB3.alloc hB3.size _⟩, by simp [intOf]; omega⟩
        · have hfx : fb = p x := by rw [HFB.out, HPX.out, List.take_of_length_le (by omega)]
          cases fb
          · have hno := S2.out hfx.symm
            have HNO := Lib.hid hno
            clear hno hfx
            go_wp2
            exact HR.out _ _ ⟨by rw [HNO.out]; try rfl, hB4⟩
          · have hn2 : (a.take (k + 1)).all p = true := by rw [S1.out, HN.out, ← hfx]; rfl
            have HNN := Lib.hid hn2
            clear hn2 hfx
            go_wp2
            exact ⟨⟨k + 1, by omega, by go_num, HNN.out, hB4⟩, by simp [intOf]; omega⟩
    · have hy : a.all p = true := by rw [← HN.out, List.take_of_length_le (by omega)]
      have HY := Lib.hid hy
      clear hy
      go_wp2
      exact HR.out _ _ ⟨by rw [HY.out]; try rfl, hB⟩
end Go.Proofs.YtgiemhooeoakmaaDoor

namespace Go.Proofs.YtgiemhooeoakmaaDoor
set_option linter.unusedVariables false
set_option linter.unusedSimpArgs false

def turn1 (c : Chg) : Chg := ⟨if c.kind = 1 then 3 else if c.kind = 3 then 1 else c.kind, c.new, c.old⟩
def turnA (d : List Chg) : List Chg := (d.filter fun c => !decide (c.kind = 1)).map turn1
def turnB (d : List Chg) : List Chg := (d.filter fun c => decide (c.kind = 1)).map turn1
def turnF (d : List Chg) : List Chg := turnA d ++ turnB d
theorem turnF_len (d : List Chg) : (turnF d).length = d.length := by
  unfold turnF turnA turnB
  rw [List.length_append, List.length_map, List.length_map]
  induction d with
  | nil => rfl
  | cons c r ih =>
    by_cases h : c.kind = 1
    · simp [h] at ih ⊢; omega
    · simp [h] at ih ⊢; omega
theorem turnF_mem {d : List Chg} {y : Chg} (h : y ∈ turnF d) : ∃ c ∈ d, y = turn1 c := by
  unfold turnF turnA turnB at h
  rcases List.mem_append.1 h with h | h
  · obtain ⟨c, hc, rfl⟩ := List.mem_map.1 h
    exact ⟨c, (List.mem_filter.1 hc).1, rfl⟩
  · obtain ⟨c, hc, rfl⟩ := List.mem_map.1 h
    exact ⟨c, (List.mem_filter.1 hc).1, rfl⟩
theorem alikeP_refl (ps : List Int) (r : VRow) : alikeP ps r r = true := alikeP_iff.2 fun _ _ => rfl
theorem rIn_sym (ps : List Int) (r x : VRow) : (rIn ps r x).length = (rIn ps x r).length := by
  unfold rIn
  rw [alikeP_symm ps x r]
  split
  · have : sameV r x = sameV x r := by unfold sameV; rw [Bool.eq_iff_iff]; simp only [decide_eq_true_iff]; exact ⟨fun h => h.symm, fun h => h.symm⟩
    rw [this]
    split <;> rfl
  · rfl
theorem sum_swap {α β : Type} (f : α → β → Nat) (ys : List β) : ∀ xs : List α, (xs.map fun x => (ys.map fun y => f x y).sum).sum = (ys.map fun y => (xs.map fun x => f x y).sum).sum
  | [] => by
    induction ys with
    | nil => rfl
    | cons y ys ih => simpa using ih
  | x :: xs => by
    rw [List.map_cons, List.sum_cons, sum_swap f ys xs]
    induction ys with
    | nil => rfl
    | cons y ys ih =>
      simp only [List.map_cons, List.sum_cons] at ih ⊢
      omega
theorem sum_add {α : Type} (f g : α → Nat) : ∀ xs : List α, (xs.map fun x => f x + g x).sum = (xs.map f).sum + (xs.map g).sum
  | [] => rfl
  | x :: xs => by
    simp only [List.map_cons, List.sum_cons]
    rw [sum_add f g xs]
    omega
theorem flat_sum {α β : Type} (f : α → List β) : ∀ l : List α, (l.flatMap f).length = (l.map fun x => (f x).length).sum
  | [] => rfl
  | x :: r => by rw [List.flatMap_cons, List.length_append, List.map_cons, List.sum_cons, flat_sum f r]
theorem rdiff_len (ps : List Int) (ta tb : VTab) : (rdiffF ps ta tb).length = (ta.map fun r => (tb.map fun x => (rIn ps r x).length).sum).sum + (ta.flatMap (rB ps tb)).length + (tb.flatMap (rB ps ta)).length := by
  unfold rdiffF
  rw [List.length_append]
  congr 1
  rw [flat_sum (rA ps tb), flat_sum (rB ps tb), ← sum_add]
  congr 1
  apply List.map_congr_left
  intro r _
  unfold rA rB
  rw [List.length_append, flat_sum]
  congr 1
  split <;> rfl
theorem rdiff_sym (ps : List Int) (ta tb : VTab) : (rdiffF ps ta tb).length = (rdiffF ps tb ta).length := by
  rw [rdiff_len, rdiff_len, sum_swap]
  have : (tb.map fun x => (ta.map fun r => (rIn ps r x).length).sum) = (tb.map fun x => (ta.map fun r => (rIn ps x r).length).sum) := by
    apply List.map_congr_left
    intro x _
    congr 1
    apply List.map_congr_left
    intro r _
    exact rIn_sym ps r x
  rw [this]
  omega
theorem rdiff_back {ps : List Int} {ta tb : VTab} {c : Chg} (h : c ∈ rdiffF ps ta tb) : turn1 c ∈ rdiffF ps tb ta := by
  unfold rdiffF at h ⊢
  rw [List.mem_append] at h ⊢
  rcases h with h | h
  · obtain ⟨r, hr, hc⟩ := List.mem_flatMap.1 h
    unfold rA at hc
    rcases List.mem_append.1 hc with hc | hc
    · obtain ⟨x, hx, hc⟩ := List.mem_flatMap.1 hc
      unfold rIn at hc
      split at hc
      · rename_i hal
        split at hc
        · cases hc
        · rename_i hne
          rw [List.mem_singleton] at hc
          subst hc
          left
          refine List.mem_flatMap.2 ⟨x, hx, ?_⟩
          unfold rA
          refine List.mem_append.2 (.inl (List.mem_flatMap.2 ⟨r, hr, ?_⟩))
          unfold rIn
          rw [alikeP_symm, if_pos hal, if_neg (by unfold sameV at hne ⊢; simp at hne ⊢; exact fun h => hne h.symm)]
          exact List.mem_singleton.2 rfl
      · cases hc
    · split at hc
      · cases hc
      · rename_i hno
        rw [List.mem_singleton] at hc
        subst hc
        right
        refine List.mem_flatMap.2 ⟨r, hr, ?_⟩
        unfold rB
        rw [if_neg hno]
        exact List.mem_singleton.2 rfl
  · obtain ⟨r, hr, hc⟩ := List.mem_flatMap.1 h
    unfold rB at hc
    split at hc
    · cases hc
    · rename_i hno
      rw [List.mem_singleton] at hc
      subst hc
      left
      refine List.mem_flatMap.2 ⟨r, hr, ?_⟩
      unfold rA
      refine List.mem_append.2 (.inr ?_)
      rw [if_neg hno]
      exact List.mem_singleton.2 rfl
/-- No two rows of a keyed table are alike. -/
theorem keyed_one {n : Nat} {ps : List Int} {t : VTab} (h : (rowF n ps t 0 t).2 = 0) {i j : Nat} (hi : i < t.length) (hj : j < t.length) (ha : alikeP ps t[i] t[j] = true) : i = j := by
  have hu := rowF_uniq t 0 (List.drop_zero ..) h
  rcases Nat.lt_trichotomy i j with hlt | rfl | hgt
  · have := hu j (Nat.zero_le _) hj
    rw [List.any_eq_false] at this
    exact absurd (by rw [alikeP_symm]; exact ha) (this t[i] (by rw [List.mem_take_iff_getElem]; exact ⟨i, by omega, rfl⟩))
  · rfl
  · have := hu i (Nat.zero_le _) hi
    rw [List.any_eq_false] at this
    exact absurd ha (this t[j] (by rw [List.mem_take_iff_getElem]; exact ⟨j, by omega, rfl⟩))
theorem keyed_mem {n : Nat} {ps : List Int} {t : VTab} (h : (rowF n ps t 0 t).2 = 0) {r x : VRow} (hr : r ∈ t) (hx : x ∈ t) (ha : alikeP ps r x = true) : r = x := by
  obtain ⟨i, hi, rfl⟩ := List.mem_iff_getElem.1 hr
  obtain ⟨j, hj, rfl⟩ := List.mem_iff_getElem.1 hx
  have := keyed_one h hi hj ha
  subst this
  rfl
theorem rdiff_self {n : Nat} {ps : List Int} {t : VTab} (h : (rowF n ps t 0 t).2 = 0) : rdiffF ps t t = [] := by
  rw [List.eq_nil_iff_forall_not_mem]
  intro c hc
  unfold rdiffF at hc
  have hany : ∀ r ∈ t, t.any (fun x => alikeP ps x r) = true := fun r hr => List.any_eq_true.2 ⟨r, hr, alikeP_refl ps r⟩
  rcases List.mem_append.1 hc with hc | hc
  · obtain ⟨r, hr, hc⟩ := List.mem_flatMap.1 hc
    unfold rA at hc
    rw [if_pos (hany r hr), List.append_nil] at hc
    obtain ⟨x, hx, hc⟩ := List.mem_flatMap.1 hc
    unfold rIn at hc
    split at hc
    · rename_i hal
      have := keyed_mem h hx hr hal
      subst this
      rw [if_pos (by unfold sameV; simp)] at hc
      cases hc
    · cases hc
  · obtain ⟨r, hr, hc⟩ := List.mem_flatMap.1 hc
    unfold rB at hc
    rw [if_pos (hany r hr)] at hc
    cases hc
theorem keyed_nodup {n : Nat} {ps : List Int} {t : VTab} (h : (rowF n ps t 0 t).2 = 0) : t.Nodup := by
  rw [List.nodup_iff_pairwise_ne, List.pairwise_iff_getElem]
  intro i j hi hj hlt he
  have := keyed_one h hi hj (by rw [he]; exact alikeP_refl _ _)
  omega
theorem len_le_of_sub {α : Type} [DecidableEq α] : ∀ {a b : List α}, a.Nodup → (∀ x ∈ a, x ∈ b) → a.length ≤ b.length
  | [], b, _, _ => Nat.zero_le _
  | x :: a, b, hn, hs => by
    have hx := hs x (by simp)
    have h1 := List.length_erase_of_mem hx
    have h2 := len_le_of_sub (a := a) (b := b.erase x) (List.nodup_cons.1 hn).2 (fun y hy => (List.mem_erase_of_ne (fun e => (List.nodup_cons.1 hn).1 (by rw [← e]; exact hy))).2 (hs y (by simp [hy])))
    have h3 : 0 < b.length := List.length_pos_of_mem hx
    rw [List.length_cons]
    omega
/-- Without changes both tables have the same rows. -/
theorem rdiff_none {n : Nat} {ps : List Int} {ta tb : VTab} (ha : (rowF n ps ta 0 ta).2 = 0) (hb : (rowF n ps tb 0 tb).2 = 0) (h : rdiffF ps ta tb = []) : (∀ r ∈ ta, r ∈ tb) ∧ ta.length = tb.length := by
  unfold rdiffF at h
  obtain ⟨h1, h2⟩ := List.append_eq_nil_iff.1 h
  rw [List.flatMap_eq_nil_iff] at h1 h2
  have s1 : ∀ r ∈ ta, r ∈ tb := fun r hr => by
    have hq := h1 r hr
    unfold rA at hq
    obtain ⟨q1, q2⟩ := List.append_eq_nil_iff.1 hq
    rw [List.flatMap_eq_nil_iff] at q1
    split at q2
    · rename_i hany
      obtain ⟨x, hx, hal⟩ := List.any_eq_true.1 hany
      have := q1 x hx
      unfold rIn at this
      rw [if_pos hal] at this
      split at this
      · rename_i hs
        unfold sameV at hs
        rw [of_decide_eq_true hs]
        exact hx
      · cases this
    · cases q2
  have s2 : ∀ x ∈ tb, x ∈ ta := fun x hx => by
    have hq := h2 x hx
    unfold rB at hq
    split at hq
    · rename_i hany
      obtain ⟨r, hr, hal⟩ := List.any_eq_true.1 hany
      have := keyed_mem hb (s1 r hr) hx hal
      rw [← this]
      exact hr
    · cases hq
  exact ⟨s1, Nat.le_antisymm (len_le_of_sub (keyed_nodup ha) s1) (len_le_of_sub (keyed_nodup hb) s2)⟩
end Go.Proofs.YtgiemhooeoakmaaDoor

namespace Go.Proofs.YtgiemhooeoakmaaDoor
open Go.RowKit Go.ChangeShapes Go.WideShapes
set_option linter.unusedVariables false
set_option linter.unusedSimpArgs false

/-- A list of changes of the call's own whose rows lie below B. -/
structure ChO (g : Val → List Value) (e : TypeId) (B : Nat) (w : World) (base : Nat) (v : Value) (t : List Chg) : Prop where
  is : ∃ us : List ChV, Own w base e 3 v t.length (us.flatMap chV) ∧ Each (ChR g w B) us t
def Apart (a b : Value) : Prop := ∀ g, a.ownBlock = some g → b.ownBlock ≠ some g
theorem Apart.symm {a b : Value} (h : Apart a b) : Apart b a := fun g hb ha => h g ha hb
section
variable {g : Val → List Value} {e : TypeId} {B : Nat} {w w' : World} {base : Nat} {v v' u : Value} {t : List Chg}
theorem ChO.nil (w : World) (B base : Nat) : ChO g e B w base (.slice none 0 0) [] := ⟨[], Own.nil_ _ _ _ _, Each.nil⟩
theorem ChO.lt (h : ChO g e B w base v t) : ∀ k, v.ownBlock = some k → base ≤ k ∧ k < w.heap.size := by
  obtain ⟨us, h1, h2⟩ := h.is
  exact h1.lt
/-- .. behind a write into another list of the call's own. -/
theorem ChO.kept (h : ChO g e B w base v t) (hg : w.grownBy w' u.ownBlock) (ha : Apart u v) (hu : ∀ k, u.ownBlock = some k → B ≤ k) (hB : B ≤ w.heap.size) : ChO g e B w' base v t := by
  obtain ⟨us, h1, h2⟩ := h.is
  refine ⟨us, h1.kept hg ?_, h2.imp fun _ _ q => q.below (below_grown (Below.refl B w) hg hu hB)⟩
  cases hv : v.ownBlock with
  | none => exact .inl rfl
  | some k =>
    right
    intro e
    exact ha k e.symm hv
theorem ChO.below (h : ChO g e B w base v t) (hb : Below w.heap.size w w') (hB : B ≤ w.heap.size) : ChO g e B w' base v t := by
  obtain ⟨us, h1, h2⟩ := h.is
  exact ⟨us, h1.below hb (Nat.le_refl _), h2.imp fun _ _ q => q.below (hb.mono hB)⟩
theorem ChO.push {us : List ChV} {y : ChV} {c : Chg} (h1 : Own w' base e 3 v' (t.length + 1) (us.flatMap chV ++ chV y)) (h2 : Each (ChR g w B) us t) (hy : ChR g w B y c)
    (hg : w.grownBy w' v.ownBlock) (hv : ∀ k, v.ownBlock = some k → B ≤ k) (hB : B ≤ w.heap.size) : ChO g e B w' base v' (t ++ [c]) :=
  ⟨us ++ [y], by rw [List.length_append, List.flatMap_append]; simpa using h1, (h2.snoc hy).imp fun _ _ q => q.below (below_grown (Below.refl B w) hg hv hB)⟩
theorem ChO.rd (h : ChO g e B w base v t) (hB : B ≤ w.heap.size) : RdCh g w w.heap.size v t := by
  obtain ⟨us, h1, h2⟩ := h.is
  exact ⟨us, RdF.of_own chV_len (by omega) h1, h2.imp fun _ _ q => q.more hB⟩
theorem apart_push (ha : Apart v u) (hu : ∀ k, u.ownBlock = some k → k < w.heap.size) (hat : v'.ownBlock = v.ownBlock ∨ ∃ g, v'.ownBlock = some g ∧ w.heap.size ≤ g) : Apart v' u := by
  intro k hk hq
  rcases hat with h | ⟨g2, h, hge⟩
  · rw [h] at hk; exact ha k hk hq
  · rw [h] at hk
    injection hk with hk
    have := hu k hq
    omega
end
theorem chg_one (k : Int) (A B : Option Addr) (n m c d : Nat) : ∀ u ∈ (#[.int .i64 k, .slice A n c, .slice B m d] : Array Value).toList, u.oneCell' = true := by
  intro u hu
  simp at hu
  rcases hu with rfl | rfl | rfl <;> rfl
theorem chF_one {g : Val → List Value} {w : World} {B : Nat} {us : List ChV} {t : List Chg} (h : Each (ChR g w B) us t) : ∀ u ∈ us.flatMap chV, u.oneCell' = true := by
  intro u hu
  obtain ⟨x, hx, hu⟩ := List.mem_flatMap.1 hu
  obtain ⟨i, hi, rfl⟩ := List.mem_iff_getElem.1 hx
  have hr := h.at_ i _ _ (List.getElem?_eq_getElem hi) (List.getElem?_eq_getElem (by rw [← h.len]; exact hi))
  obtain ⟨A, c, h1, -⟩ := hr.old.is
  obtain ⟨A', c', h2, -⟩ := hr.new.is
  unfold chV at hu
  rw [h1, h2] at hu
  exact chg_one _ _ _ _ _ _ _ u (by simpa using hu)
theorem turnA_snoc (l : List Chg) {k : Nat} (hk : k < l.length) : turnA (l.take (k + 1)) = turnA (l.take k) ++ if l[k].kind = 1 then [] else [turn1 l[k]] := by
  unfold turnA
  rw [List.take_succ_eq_append_getElem hk, List.filter_append, List.map_append]
  congr 1
  by_cases h : l[k].kind = 1 <;> simp [h]
theorem turnB_snoc (l : List Chg) {k : Nat} (hk : k < l.length) : turnB (l.take (k + 1)) = turnB (l.take k) ++ if l[k].kind = 1 then [turn1 l[k]] else [] := by
  unfold turnB
  rw [List.take_succ_eq_append_getElem hk, List.filter_append, List.map_append]
  congr 1
  by_cases h : l[k].kind = 1 <;> simp [h]
set_option maxHeartbeats 4000000 in
set_option maxRecDepth 100000 in
theorem dturn_any (v : Value) (d : List Chg) (w : World) (h : RdCh valV w w.heap.size v d) (hl : d.length ≤ 100000) :
    Calls Tryd.prog 31 #[v] w fun e w' => (∃ o, e = .returned o ∧ RdCh valV w' w'.heap.size o (turnF d)) ∧ Below w.heap.size w w' := by
  refine cps fun R HR => ?_
  obtain ⟨i0, hi0, hz0, hz1, hz2⟩ := info_parts chg_info
  have g0 := h
  obtain ⟨A, c, rfl⟩ := h.form
  clear h
  go_enter Tryd.func31, Tryd.ntmps31
  go_wp2
  go_loopw [3, 4, 10] (fun a b i wr => ∃ k : Nat, k ≤ d.length ∧ i = .int .i64 k ∧ ChO valV 101 w.heap.size wr w.heap.size a (turnA (d.take k)) ∧ ChO valV 101 w.heap.size wr w.heap.size b (turnB (d.take k)) ∧ Apart a b ∧ Below w.heap.size w wr) (fun _ _ i _ => d.length - (intOf i).toNat)
  case atStart => exact ⟨0, Nat.zero_le _, rfl, ChO.nil _ _ _, ChO.nil _ _ _, (fun g hg => by cases hg), Below.refl _ _⟩
  case round =>
    obtain ⟨k, hk, rfl, hA, hB, hS, hW⟩ := hrel
    by_cases hlt : k < d.length
    · obtain ⟨q, c3, uo, un, hv, q0, q1, q2, q3, q4⟩ := (g0.below hW).at hlt
      injection hv with hAA hln hcc
      subst hAA
      subst hcc
      clear hln
      have hs1 := turnA_snoc d hlt
      have hs2 := turnB_snoc d hlt
      obtain ⟨x, hx⟩ : ∃ x, x = d[k] := ⟨_, rfl⟩
      rw [← hx] at q0 q3 q4 hs1 hs2
      clear hx
      have Q3 := Lib.hid q3; have Q4 := Lib.hid q4
      obtain ⟨B1, d1, rfl, -⟩ := q3.is
      obtain ⟨B2, d2, rfl, -⟩ := q4.is
      have dk : decide ((k : Int) < d.length) = true := decide_eq_true (by omega)
      obtain ⟨LA, hLA⟩ : ∃ LA, LA = turnA (d.take k) := ⟨_, rfl⟩
      obtain ⟨LB, hLB⟩ : ∃ LB, LB = turnB (d.take k) := ⟨_, rfl⟩
      have hlab : LA.length + LB.length ≤ k := by
        have := turnF_len (d.take k)
        unfold turnF at this
        rw [List.length_append, List.length_take, ← hLA, ← hLB] at this
        omega
      rw [← hLA] at hA hs1
      rw [← hLB] at hB hs2
      have S1 := Lib.hid hs1; have S2 := Lib.hid hs2
      have HA := Lib.hid hA; have HB := Lib.hid hB; have HS := Lib.hid hS
      clear hs1 hs2 q3 q4 hLA hLB hA hB hS
      obtain ⟨kd, xo, xn⟩ := x
      dsimp only at q0 q1 q2 Q3 Q4 S1 S2
      by_cases h1 : kd = 1
      · subst h1
        have s1 : turnA (d.take (k + 1)) = LA := by rw [S1.out, if_pos rfl, List.append_nil]
        have s2 : turnB (d.take (k + 1)) = LB ++ [⟨3, xn, xo⟩] := by rw [S2.out, if_pos rfl]; rfl
        have T1 := Lib.hid s1; have T2 := Lib.hid s2
        clear s1 s2
        obtain ⟨w2, hw2⟩ : ∃ w2, w2 = (wr.alloc (.cells #[.int .i64 1, .slice B1 xo.length d1, .slice B2 xn.length d2] 101)).alloc (.cells #[.int .i64 3, .slice B2 xn.length d2, .slice B1 xo.length d1] 101) := ⟨_, rfl⟩
        have b2 : Below wr.heap.size wr w2 := by rw [hw2]; exact ((Below.refl _ _).alloc (Nat.le_refl _) _).alloc (by simp) _
        have hW2 := hW.trans (b2.mono hW.size)
        have hA2 := HA.out.below b2 hW.size
        have hB2 := HB.out.below b2 hW.size
        have hq3 := Q3.out.below (b2.mono hW.size)
        have hq4 := Q4.out.below (b2.mono hW.size)
        obtain ⟨us, how, hea⟩ := hB2.is
        have lA := hA2.lt
        have lB := hB2.lt
        subst hw2
        have HOW := Lib.hid how; have HEA := Lib.hid hea; have HA2 := Lib.hid hA2; have HB2 := Lib.hid hB2; have LA1 := Lib.hid lA; have LB1 := Lib.hid lB
        have HQ3 := Lib.hid hq3; have HQ4 := Lib.hid hq4
        clear how hea b2 S1 S2 hA2 hB2 lA lB hq3 hq4
        go_wp2_with (at_builtin; refine wpList_pushF rfl _ _ _ rfl w.heap.size 101 i0 _ 3 56 Tryd.underlying41 hi0 hz0 hz1 hz2 rfl (by omega) (by omega) u4 LB.length _ #[.int .i64 3, .slice B2 xn.length d2, .slice B1 xo.length d1] rfl rfl HOW.out (by simp [Act.eval]) (chg_one _ _ _ _ _ _ _) (by omega) hW2.size ?_; intro v7 w7 hown7 hg7 hat7)
        exact ⟨⟨k + 1, by omega, by go_num, by rw [T1.out]; exact HA2.out.kept hg7 HS.out.symm (fun g hg => (LB1.out g hg).1) hW2.size, by rw [T2.out]; exact ChO.push (y := ⟨3, .slice B2 xn.length d2, .slice B1 xo.length d1⟩) hown7 HEA.out ⟨rfl, HQ4.out, HQ3.out⟩ hg7 (fun g hg => (LB1.out g hg).1) hW2.size, (apart_push HS.out.symm (fun g hg => (LA1.out g hg).2) hat7).symm, below_grown hW2 hg7 (fun g hg => (LB1.out g hg).1) hW2.size⟩, by simp [intOf]; omega⟩
      · by_cases h3 : kd = 3
        · subst h3
          have s1 : turnA (d.take (k + 1)) = LA ++ [⟨1, xn, xo⟩] := by rw [S1.out, if_neg (by simp)]; rfl
          have s2 : turnB (d.take (k + 1)) = LB := by rw [S2.out, if_neg (by simp), List.append_nil]
          have T1 := Lib.hid s1; have T2 := Lib.hid s2
          clear s1 s2 h1
          obtain ⟨w2, hw2⟩ : ∃ w2, w2 = (wr.alloc (.cells #[.int .i64 3, .slice B1 xo.length d1, .slice B2 xn.length d2] 101)).alloc (.cells #[.int .i64 1, .slice B2 xn.length d2, .slice B1 xo.length d1] 101) := ⟨_, rfl⟩
          have b2 : Below wr.heap.size wr w2 := by rw [hw2]; exact ((Below.refl _ _).alloc (Nat.le_refl _) _).alloc (by simp) _
          have hW2 := hW.trans (b2.mono hW.size)
          have hA2 := HA.out.below b2 hW.size
          have hB2 := HB.out.below b2 hW.size
          have hq3 := Q3.out.below (b2.mono hW.size)
          have hq4 := Q4.out.below (b2.mono hW.size)
          obtain ⟨us, how, hea⟩ := hA2.is
          have lA := hA2.lt
          have lB := hB2.lt
          subst hw2
          have HOW := Lib.hid how; have HEA := Lib.hid hea; have HA2 := Lib.hid hA2; have HB2 := Lib.hid hB2; have LA1 := Lib.hid lA; have LB1 := Lib.hid lB
          have HQ3 := Lib.hid hq3; have HQ4 := Lib.hid hq4
          clear how hea b2 S1 S2 hA2 hB2 lA lB hq3 hq4
          go_wp2_with (at_builtin; refine wpList_pushF rfl _ _ _ rfl w.heap.size 101 i0 _ 3 56 Tryd.underlying41 hi0 hz0 hz1 hz2 rfl (by omega) (by omega) u3 LA.length _ #[.int .i64 1, .slice B2 xn.length d2, .slice B1 xo.length d1] rfl rfl HOW.out (by simp [Act.eval]) (chg_one _ _ _ _ _ _ _) (by omega) hW2.size ?_; intro v7 w7 hown7 hg7 hat7)
          exact ⟨⟨k + 1, by omega, by go_num, by rw [T1.out]; exact ChO.push (y := ⟨1, .slice B2 xn.length d2, .slice B1 xo.length d1⟩) hown7 HEA.out ⟨rfl, HQ4.out, HQ3.out⟩ hg7 (fun g hg => (LA1.out g hg).1) hW2.size, by rw [T2.out]; exact HB2.out.kept hg7 HS.out (fun g hg => (LA1.out g hg).1) hW2.size, apart_push HS.out (fun g hg => (LB1.out g hg).2) hat7, below_grown hW2 hg7 (fun g hg => (LA1.out g hg).1) hW2.size⟩, by simp [intOf]; omega⟩
        · have s1 : turnA (d.take (k + 1)) = LA ++ [⟨kd, xn, xo⟩] := by rw [S1.out, if_neg h1]; unfold turn1; rw [if_neg h1, if_neg h3]
          have s2 : turnB (d.take (k + 1)) = LB := by rw [S2.out, if_neg h1, List.append_nil]
          have T1 := Lib.hid s1; have T2 := Lib.hid s2
          have dd1 : (kd == 1) = false := by rw [beq_eq_false_iff_ne]; exact h1
          have dd3 : (kd == 3) = false := by rw [beq_eq_false_iff_ne]; exact h3
          clear s1 s2 h1 h3
          obtain ⟨w2, hw2⟩ : ∃ w2, w2 = (wr.alloc (.cells #[.int .i64 kd, .slice B1 xo.length d1, .slice B2 xn.length d2] 101)).alloc (.cells #[.int .i64 kd, .slice B2 xn.length d2, .slice B1 xo.length d1] 101) := ⟨_, rfl⟩
          have b2 : Below wr.heap.size wr w2 := by rw [hw2]; exact ((Below.refl _ _).alloc (Nat.le_refl _) _).alloc (by simp) _
          have hW2 := hW.trans (b2.mono hW.size)
          have hA2 := HA.out.below b2 hW.size
          have hB2 := HB.out.below b2 hW.size
          have hq3 := Q3.out.below (b2.mono hW.size)
          have hq4 := Q4.out.below (b2.mono hW.size)
          obtain ⟨us, how, hea⟩ := hA2.is
          have lA := hA2.lt
          have lB := hB2.lt
          subst hw2
          have HOW := Lib.hid how; have HEA := Lib.hid hea; have HA2 := Lib.hid hA2; have HB2 := Lib.hid hB2; have LA1 := Lib.hid lA; have LB1 := Lib.hid lB
          have HQ3 := Lib.hid hq3; have HQ4 := Lib.hid hq4
          clear how hea b2 S1 S2 hA2 hB2 lA lB hq3 hq4
          go_wp2_with (at_builtin; refine wpList_pushF rfl _ _ _ rfl w.heap.size 101 i0 _ 3 56 Tryd.underlying41 hi0 hz0 hz1 hz2 rfl (by omega) (by omega) u3 LA.length _ #[.int .i64 kd, .slice B2 xn.length d2, .slice B1 xo.length d1] rfl rfl HOW.out (by simp [Act.eval]) (chg_one _ _ _ _ _ _ _) (by omega) hW2.size ?_; intro v7 w7 hown7 hg7 hat7)
          exact ⟨⟨k + 1, by omega, by go_num, by rw [T1.out]; exact ChO.push (y := ⟨kd, .slice B2 xn.length d2, .slice B1 xo.length d1⟩) hown7 HEA.out ⟨rfl, HQ4.out, HQ3.out⟩ hg7 (fun g hg => (LA1.out g hg).1) hW2.size, by rw [T2.out]; exact HB2.out.kept hg7 HS.out (fun g hg => (LA1.out g hg).1) hW2.size, apart_push HS.out (fun g hg => (LB1.out g hg).2) hat7, below_grown hW2 hg7 (fun g hg => (LA1.out g hg).1) hW2.size⟩, by simp [intOf]; omega⟩
    · obtain rfl : k = d.length := by omega
      rw [List.take_length] at hA hB
      have hBr := hB.rd hW.size
      obtain ⟨us, how, hea⟩ := hA.is
      obtain ⟨bs, hob, heb⟩ := hB.is
      have hbl := heb.len
      have hsl := RdF.of_own chV_len (by omega) hob
      obtain ⟨bA, bc, hbv, hbs⟩ := hsl.is
      have hl2 := turnF_len d
      unfold turnF at hl2
      rw [List.length_append] at hl2
      have lA := hA.lt
      have hrows : ∀ w' : World, wr.grownBy w' u3.ownBlock → Below w.heap.size w w' := fun w' hg => below_grown hW hg (fun g hg => (lA g hg).1) hW.size
      subst hbv
      have HOW := Lib.hid how; have HEA := Lib.hid hea; have HEB := Lib.hid heb; have HBS := Lib.hid hbs; have LA1 := Lib.hid lA; have HRO := Lib.hid hrows
      clear how hea heb hbs lA hrows hsl hA hB hBr hob hlt
      have hsum : (turnA d).length + bs.length ≤ 100000 := by omega
      go_wp2_with (at_builtin; refine wpList_append_Own _ rfl _ _ _ rfl w.heap.size 101 i0 _ 3 56 Tryd.underlying41 hi0 hz0 hz1 hz2 rfl (by omega) (by omega) u3 (turnA d).length _ rfl HOW.out wr.heap.size bA bs.length bc (bs.flatMap chV) rfl HBS.out (chF_one HEB.out) (by simp only [maxLen]; omega) (by omega) hW.size ?_; intro v7 w7 hown7 hg7 hat7)
      have hb7 := HRO.out w7 hg7
      have hg8 := below_grown (Below.refl w.heap.size wr) hg7 (fun g hg => (LA1.out g hg).1) hW.size
      refine HR.out _ _ ⟨⟨_, rfl, us ++ bs, ?_, (HEA.out.append HEB.out).imp fun _ _ q => (q.below hg8).more hb7.size⟩, hb7⟩
      rw [← List.flatMap_append] at hown7
      exact RdF.of_own chV_len (by omega) hown7
end Go.Proofs.YtgiemhooeoakmaaDoor

namespace Go.Proofs.YtgiemhooeoakmaaDoor
open Go.RowKit Go.ChangeShapes Go.WideShapes
set_option linter.unusedVariables false
set_option linter.unusedSimpArgs false

set_option maxHeartbeats 4000000 in
set_option maxRecDepth 100000 in
theorem ref25_any (v : Value) (l : List Chg) (w : World) (h : RdCh valV w w.heap.size v l) (hl : l.length ≤ 100000) (hr : ∀ c ∈ l, c.old.length ≤ 100000 ∧ c.new.length ≤ 100000) :
    Calls Tryd.prog 23 #[v] w fun e w' => (∃ o, e = .returned o ∧ RdCh rvalV w' w'.heap.size o l) ∧ Below w.heap.size w w' := by
  refine cps fun R HR => ?_
  obtain ⟨i0, hi0, hz0, hz1, hz2⟩ := info_parts rchg_info
  have g0 := h
  obtain ⟨A, c, rfl⟩ := h.form
  have HRR := Lib.hid hr
  clear h hr
  go_enter Tryd.func23, Tryd.ntmps23
  go_wp2
  go_loopw [3, 8] (fun o i wr => ∃ k : Nat, k ≤ l.length ∧ i = .int .i64 k ∧ ChX rvalV 123 wr w.heap.size o (l.take k) ∧ Below w.heap.size w wr) (fun _ i _ => l.length - (intOf i).toNat)
  case atStart => exact ⟨0, Nat.zero_le _, rfl, ChX.nil _ _, Below.refl _ _⟩
  case round =>
    obtain ⟨k, hk, rfl, hch, hB⟩ := hrel
    by_cases hlt : k < l.length
    · obtain ⟨q, c3, uo, un, hv, p0, p1, p2, q3, q4⟩ := g0.at hlt
      have q0 := (hB.cell (World.block_lt_of_cell? w _ p0)).trans p0
      have q1 := (hB.cell (World.block_lt_of_cell? w _ p1)).trans p1
      have q2 := (hB.cell (World.block_lt_of_cell? w _ p2)).trans p2
      clear p0 p1 p2
      injection hv with hAA hln hcc
      subst hAA
      subst hcc
      clear hln
      have hs1 : l.take (k + 1) = l.take k ++ [l[k]] := List.take_succ_eq_append_getElem hlt
      have hrl := HRR.out _ (List.getElem_mem hlt)
      have hkl : (l.take k).length = k := by rw [List.length_take]; omega
      obtain ⟨x, hx⟩ : ∃ x, x = l[k] := ⟨_, rfl⟩
      rw [← hx] at q0 q3 q4 hs1 hrl
      clear hx
      obtain ⟨hro, hrn⟩ := hrl
      have dk : decide ((k : Int) < l.length) = true := decide_eq_true (by omega)
      obtain ⟨L, hL⟩ : ∃ L, L = l.take k := ⟨_, rfl⟩
      rw [← hL] at hs1 hkl hch
      have S1 := Lib.hid hs1
      obtain ⟨kd, xo, xn⟩ := x
      dsimp only at q0 q3 q4 hro hrn
      have Q3 := Lib.hid q3; have Q4 := Lib.hid q4
      obtain ⟨B1, d1, rfl, -⟩ := q3.is
      obtain ⟨B2, d2, rfl, -⟩ := q4.is
      obtain ⟨ws, hws⟩ : ∃ ws, ws = wr.alloc (.cells #[.int .i64 kd, .slice B1 xo.length d1, .slice B2 xn.length d2] 101) := ⟨_, rfl⟩
      have X := Box.new wr 101 #[.int .i64 kd, .slice B1 xo.length d1, .slice B2 xn.length d2]
      have bws : Below wr.heap.size wr ws := by rw [hws]; exact (Below.refl _ _).alloc (Nat.le_refl _) _
      rw [← hws] at X
      have hch2 := hch.keep bws
      have hB2 := hB.trans (bws.mono hB.size)
      have x0 := X.cell 0
      have x1 := X.cell 1
      have x2 := X.cell 2
      simp at x0 x1 x2
      have r3 := Q3.out
      have r4 := Q4.out
      have hcw := hch.lt
      have mk : ∀ w', Below ws.heap.size ws w' → w'.cell? ⟨wr.heap.size, 0, none⟩ = some (.int .i64 kd) ∧ w'.cell? ⟨wr.heap.size, 1, none⟩ = some (.slice B1 xo.length d1) ∧ w'.cell? ⟨wr.heap.size, 2, none⟩ = some (.slice B2 xn.length d2) ∧ Below w.heap.size w w' := fun w' hb =>
        ⟨(hb.cell (World.block_lt_of_cell? ws _ x0)).trans x0, (hb.cell (World.block_lt_of_cell? ws _ x1)).trans x1, (hb.cell (World.block_lt_of_cell? ws _ x2)).trans x2, hB2.trans (hb.mono hB2.size)⟩
      have mk9 : ∀ w8 w9, Below ws.heap.size ws w8 → w8.grownBy w9 u3.ownBlock → w9.cell? ⟨wr.heap.size, 0, none⟩ = some (.int .i64 kd) ∧ w9.cell? ⟨wr.heap.size, 1, none⟩ = some (.slice B1 xo.length d1) ∧ w9.cell? ⟨wr.heap.size, 2, none⟩ = some (.slice B2 xn.length d2) ∧ Below w.heap.size w w9 := fun w8 w9 hb hg => by
        have hX := X.below hb X.lt
        have hX9 := hX.grown hg (fun e => by have := (hcw _ e.symm).2; omega)
        have y0 := hX9.cell 0
        have y1 := hX9.cell 1
        have y2 := hX9.cell 2
        simp at y0 y1 y2
        exact ⟨y0, y1, y2, below_grown (hB2.trans (hb.mono hB2.size)) hg (fun g hg => (hcw g hg).1) (hB2.trans (hb.mono hB2.size)).size⟩
      have MK := Lib.hid mk; have MK9 := Lib.hid mk9; have HWS := Lib.hid hws; have R3 := Lib.hid r3; have R4 := Lib.hid r4; have HC2 := Lib.hid hch2
      have hcl := hch2.lt
      have HCL := Lib.hid hcl
      clear hs1 hL q3 q4 X x0 x1 x2 r3 r4 mk mk9 hws hch hch2 hcl hcw bws
      go_wp2
      rw [← HWS.out]
      go_region_held3 (fun w' => w'.cell? ⟨wr.heap.size, 0, none⟩ = some (.int .i64 kd) ∧ w'.cell? ⟨wr.heap.size, 1, none⟩ = some (.slice B1 xo.length d1) ∧ w'.cell? ⟨wr.heap.size, 2, none⟩ = some (.slice B2 xn.length d2) ∧ Below w.heap.size w w') (first | (exact MK.out _ (Below.drew (Below.refl _ _))) | (go_split_ands; exact MK9.out _ _ c8 hg9) | (go_split_ands; exact MK.out _ c8) | (go_split_ands; exact MK.out _ c7) | (go_split_ands; exact MK.out _ (Below.alloc c8 (Below.size c8) _)) | go_keep)
        (first | (have second := firstMark; go_at_call 34; go_split_ands; refine (refRow_any _ xn _ (RdF.next R4.out (MK.out _ c7).2.2.2) hrn).mono ?_; rintro e w8 ⟨u2, rfl, hou2, b8⟩; obtain ⟨uB, ud, rfl, -⟩ := (RdF.of_own rvalV_len (by omega) hou2).is; have c8 := keepB b8 c7; have hB8 := hB2.trans (c8.mono hB2.size); obtain ⟨us, how, hea⟩ := (HC2.out.keep c8).is; have hou3 := hou1.below b8 (Nat.le_refl _); have hx := ChRX.mk (g := rvalV) (w := w8) (row := u3.ownBlock) (u := ⟨kd, .slice uA xo.length uc, .slice uB xn.length ud⟩) (c := ⟨kd, xo, xn⟩) rfl (RdX.of_own rvalV_len (by omega) hou3 (fun g hg => (HCL.out g hg).2)) (RdX.of_own rvalV_len (by omega) hou2 (fun g hg => Nat.lt_of_lt_of_le (HCL.out g hg).2 c7.size)); have HOW8 := Lib.hid how; have HEA8 := Lib.hid hea; have HX8 := Lib.hid hx; clear how hea hx) | (go_at_call 34; go_split_ands; refine (refRow_any _ xo _ (RdF.next R3.out (MK.out _ (Below.drew (Below.refl _ _))).2.2.2) hro).mono ?_; rintro e w7 ⟨u1, rfl, hou1, b7⟩; have firstMark : True := trivial; obtain ⟨uA, uc, rfl, -⟩ := (RdF.of_own rvalV_len (by omega) hou1).is; have c7 : Below ws.heap.size ws w7 := keepB b7 (Below.drew (Below.refl _ _))) | (refine step_pushF rfl (.tmp 12) (.tmp 22) _ rfl w.heap.size 123 i0 _ 3 56 Tryd.underlying47 hi0 hz0 hz1 hz2 rfl (by omega) (by omega) u3 L.length _ #[.int .i64 kd, .slice uA xo.length uc, .slice uB xn.length ud] rfl (by simp [Act.eval, Act.put]) HOW8.out (by simp [Act.eval, Act.put]) (ch_one _ _ _ _ _ _ _) (by omega) hB8.size ?_; intro v9 w9 hown9 hg9 hat9; have hB9 := below_grown hB8 hg9 (fun g hg => (HCL.out g hg).1) hB8.size))
      go_wp2
      exact ⟨⟨k + 1, by omega, by go_num, by rw [S1.out]; exact ChX.push hown9 HEA8.out HX8.out hg9 hat9, hB9⟩, by simp [intOf]; omega⟩
    · obtain rfl : k = l.length := by omega
      rw [List.take_length] at hch
      have hrd := hch.rd
      clear hch hlt
      go_wp2
      exact HR.out _ _ ⟨⟨_, rfl, hrd⟩, hB⟩
end Go.Proofs.YtgiemhooeoakmaaDoor

namespace Go.Proofs.YtgiemhooeoakmaaDoor
set_option linter.unusedVariables false
set_option linter.unusedSimpArgs false

theorem plC_in {l : List Col} {keys : Row} (h : (plC l keys).2 = 0) : ∀ k ∈ keys, k ∈ namesC l := by
  unfold plC at h
  split at h
  · rename_i h1; exact absurd h h1
  · split at h
    · cases h
    · exact (plF_len _ _ _ _ h).2
theorem diffE_ok {la lb : List Col} {keys : Row} {ta tb : VTab} (h : diffE la lb keys ta tb = 0) : la = lb ∧ (dchk la keys ta).2 = 0 ∧ (dchk lb keys tb).2 = 0 := by
  unfold diffE at h
  split at h
  · cases h
  · rename_i h1
    split at h
    · rename_i h2; exact absurd h h2
    · rename_i h2
      refine ⟨?_, by simpa using h2, h⟩
      unfold sameC at h1
      simpa using h1
theorem diffE_turn {la lb : List Col} {keys : Row} {ta tb : VTab} (h : diffE la lb keys ta tb = 0) : diffE lb la keys tb ta = 0 ∧ diffE la la keys ta ta = 0 := by
  obtain ⟨rfl, h1, h2⟩ := diffE_ok h
  have hs : ¬ (sameC la la = false) := by unfold sameC; simp
  unfold diffE
  rw [if_neg hs, if_neg hs, h1, h2]
  exact ⟨rfl, rfl⟩
theorem diffL_zero {la lb : List Col} {keys : Row} {ta tb : VTab} (h : diffE la lb keys ta tb = 0) : diffL la lb keys ta tb = rdiffF (numsF (namesC la) keys) ta tb := by
  obtain ⟨rfl, h1, h2⟩ := diffE_ok h
  unfold diffL
  rw [if_pos h, rdiff_eq (dchk_ok h2).2]
theorem diffL_back {la lb : List Col} {keys : Row} {ta tb : VTab} (h : diffE la lb keys ta tb = 0) : diffL lb la keys tb ta = rdiffF (numsF (namesC la) keys) tb ta := by
  rw [diffL_zero (diffE_turn h).1, (diffE_ok h).1]
theorem diffL_self {la lb : List Col} {keys : Row} {ta tb : VTab} (h : diffE la lb keys ta tb = 0) : diffL la la keys ta ta = [] := by
  rw [diffL_zero (diffE_turn h).2]
  exact rdiff_self (dchk_ok (diffE_ok h).2.1).2
theorem diffL_no {la lb : List Col} {keys : Row} {ta tb : VTab} (h : diffE la lb keys ta tb ≠ 0) : diffL la lb keys ta tb = [] := by
  unfold diffL
  rw [if_neg h]
theorem rdiffF_rows {ps : List Int} {ta tb : VTab} {c : Chg} (h : c ∈ rdiffF ps ta tb) : (c.old = [] ∨ c.old ∈ ta) ∧ (c.new = [] ∨ c.new ∈ tb) := by
  unfold rdiffF at h
  rcases List.mem_append.1 h with h | h
  · obtain ⟨r, hr, hc⟩ := List.mem_flatMap.1 h
    unfold rA at hc
    rcases List.mem_append.1 hc with hc | hc
    · obtain ⟨x, hx, hc⟩ := List.mem_flatMap.1 hc
      unfold rIn at hc
      split at hc
      · split at hc
        · cases hc
        · rw [List.mem_singleton] at hc; subst hc; exact ⟨.inr hr, .inr hx⟩
      · cases hc
    · split at hc
      · cases hc
      · rw [List.mem_singleton] at hc; subst hc; exact ⟨.inr hr, .inl rfl⟩
  · obtain ⟨r, hr, hc⟩ := List.mem_flatMap.1 h
    unfold rB at hc
    split at hc
    · cases hc
    · rw [List.mem_singleton] at hc; subst hc; exact ⟨.inl rfl, .inr hr⟩
theorem diffL_rows {la lb : List Col} {keys : Row} {ta tb : VTab} {c : Chg} (h : c ∈ diffL la lb keys ta tb) : (c.old = [] ∨ c.old ∈ ta) ∧ (c.new = [] ∨ c.new ∈ tb) := by
  by_cases hz : diffE la lb keys ta tb = 0
  · rw [diffL_zero hz] at h
    exact rdiffF_rows h
  · rw [diffL_no hz] at h
    cases h
theorem diffL_len (la lb : List Col) (keys : Row) (ta tb : VTab) : (diffL la lb keys ta tb).length ≤ ta.length + tb.length := by
  unfold diffL
  split
  · unfold diffF
    rw [List.length_append]
    have := flat_le1 _ (chA_len (numsF (namesC la) keys) tb) ta
    have := flat_le1 _ (chB_len (numsF (namesC la) keys) ta) tb
    omega
  · simp
theorem diffL_short {la lb : List Col} {keys : Row} {ta tb : VTab} {n : Nat} (ha : ∀ r ∈ ta, r.length ≤ n) (hb : ∀ r ∈ tb, r.length ≤ n) : ∀ c ∈ diffL la lb keys ta tb, c.old.length ≤ n ∧ c.new.length ≤ n := fun c hc => by
  obtain ⟨h1, h2⟩ := diffL_rows hc
  constructor
  · rcases h1 with h1 | h1
    · rw [h1]; exact Nat.zero_le _
    · exact ha _ h1
  · rcases h2 with h2 | h2
    · rw [h2]; exact Nat.zero_le _
    · exact hb _ h2
theorem turnF_short {d : List Chg} {n : Nat} (h : ∀ c ∈ d, c.old.length ≤ n ∧ c.new.length ≤ n) : ∀ c ∈ turnF d, c.old.length ≤ n ∧ c.new.length ≤ n := fun c hc => by
  obtain ⟨x, hx, rfl⟩ := turnF_mem hc
  exact ⟨(h x hx).2, (h x hx).1⟩
theorem turns_len {la lb : List Col} {keys : Row} {ta tb : VTab} (h : diffE la lb keys ta tb = 0) : (turnF (diffL la lb keys ta tb)).length = (diffL lb la keys tb ta).length := by
  rw [turnF_len, diffL_zero h, diffL_back h, rdiff_sym]
theorem turns_in {la lb : List Col} {keys : Row} {ta tb : VTab} (h : diffE la lb keys ta tb = 0) : ∀ x ∈ turnF (diffL la lb keys ta tb), x ∈ diffL lb la keys tb ta := fun x hx => by
  obtain ⟨c, hc, rfl⟩ := turnF_mem hx
  rw [diffL_zero h] at hc
  rw [diffL_back h]
  exact rdiff_back hc
theorem none_same {la lb : List Col} {keys : Row} {ta tb : VTab} (h : diffE la lb keys ta tb = 0) (hn : diffL la lb keys ta tb = []) : (∀ r ∈ ta, r ∈ tb) ∧ ta.length = tb.length := by
  obtain ⟨rfl, h1, h2⟩ := diffE_ok h
  rw [diffL_zero h] at hn
  exact rdiff_none (dchk_ok h1).2 (dchk_ok h2).2 hn
theorem tells_fits {la lb : List Col} {keys : Row} {ta tb : VTab} (h : diffE la lb keys ta tb = 0) : (∀ k ∈ keys, k ∈ namesC la) ∧ (∀ x ∈ ta, x.length = la.length) ∧ (∀ x ∈ tb, x.length = la.length) := by
  obtain ⟨rfl, h1, h2⟩ := diffE_ok h
  exact ⟨plC_in (dchk_ok h1).1, rowF_len (dchk_ok h1).2, rowF_len (dchk_ok h2).2⟩
end Go.Proofs.YtgiemhooeoakmaaDoor

namespace Go.Proofs.YtgiemhooeoakmaaDoor
open Go.RowKit Go.ChangeShapes Go.WideShapes
set_option linter.unusedVariables false
set_option linter.unusedSimpArgs false

set_option maxHeartbeats 4000000 in
set_option maxRecDepth 100000 in
theorem fits25_any (v1 u1 v2 u2 z : Value) (la lb : List Col) (ta tb : VTab) (keys : Row) (w : World) (h1 : RdC w w.heap.size v1 la) (h2 : RdVT w w.heap.size u1 ta) (h3 : RdC w w.heap.size v2 lb) (h4 : RdVT w w.heap.size u2 tb) (hu : RdS w w.heap.size z keys) :
    Calls Tryd.prog 14 #[.agg #[v1, u1, v2, u2, z]] w fun e w' => (∃ g : Bool, e = .returned (.bool g) ∧ (g = true → (∀ k ∈ keys, k.size ≤ 100) ∧ fewTab la ta ∧ fewTab lb tb ∧ keys.length ≤ 12)) ∧ Below w.heap.size w w' := by
  refine cps fun R HR => ?_
  have g1 := h1; have g2 := h2; have g3 := h3; have g4 := h4; have hu0 := hu
  obtain ⟨A1, c1, rfl, -⟩ := h1.is
  obtain ⟨A2, c2, vs, rfl, -, -⟩ := h2.is
  obtain ⟨A3, c3, rfl, -⟩ := h3.is
  obtain ⟨A4, c4, vs', rfl, -, -⟩ := h4.is
  obtain ⟨A5, c5, rfl, -⟩ := hu.is
  have hfk := hu0.few
  clear h1 h2 h3 h4 hu
  obtain ⟨w0, hw0⟩ : ∃ w0, w0 = w.alloc (.cells #[.slice A1 la.length c1, .slice A2 ta.length c2, .slice A3 lb.length c3, .slice A4 tb.length c4, .slice A5 keys.length c5] 28) := ⟨_, rfl⟩
  have bw0 : Below w.heap.size w w0 := by rw [hw0]; exact (Below.refl _ _).alloc (Nat.le_refl _) _
  have X := Box.new w 28 #[.slice A1 la.length c1, .slice A2 ta.length c2, .slice A3 lb.length c3, .slice A4 tb.length c4, .slice A5 keys.length c5]
  rw [← hw0] at X
  have x4 := X.cell 4
  simp at x4
  have HX := Lib.hid X; have HW0 := Lib.hid hw0; have HB0 := Lib.hid bw0
  clear X hw0 bw0
  go_enter Tryd.func14, Tryd.ntmps14
  go_wp2
  rw [← HW0.out]
  go_loopw [8] (fun i wr => ∃ k : Nat, k ≤ keys.length ∧ i = .int .i64 k ∧ (∀ x ∈ keys.take k, x.size ≤ 100) ∧ wr = w0) (fun i _ => keys.length - (intOf i).toNat)
  case atStart => exact ⟨0, Nat.zero_le _, rfl, (fun x hx => by simp at hx), rfl⟩
  case round =>
    obtain ⟨k, hk, rfl, hN, rfl⟩ := hrel
    have HN := Lib.hid hN
    clear hN
    by_cases hlt : k < keys.length
    · obtain ⟨p, c6, hv, hc⟩ := (hu0.next HB0.out).at hlt
      injection hv with hA hln hcc
      subst hA
      subst hcc
      clear hln
      have hs1 : keys.take (k + 1) = keys.take k ++ [keys[k]] := List.take_succ_eq_append_getElem hlt
      obtain ⟨x, hx⟩ : ∃ x, x = keys[k] := ⟨_, rfl⟩
      rw [← hx] at hc hs1
      have S1 := Lib.hid hs1
      clear hx hs1
      have dk : decide ((k : Int) < keys.length) = true := decide_eq_true (by omega)
      by_cases hx : x.size ≤ 100
      · have d : decide ((x.size : Int) > 100) = false := decide_eq_false (by omega)
        have hn : ∀ y ∈ keys.take (k + 1), y.size ≤ 100 := by
          rw [S1.out]
          intro y hy
          rcases List.mem_append.1 hy with hy | hy
          · exact HN.out y hy
          · rw [List.mem_singleton.1 hy]; exact hx
        have HNN := Lib.hid hn
        have d2 : ¬ (100 : Int) < x.size := by omega
        have d3 : decide ((100 : Int) < x.size) = false := decide_eq_false d2
        clear hn hx
        go_wp2
        exact ⟨⟨k + 1, by omega, by go_num, HNN.out, trivial⟩, by simp [intOf]; omega⟩
      · have d3 : decide ((100 : Int) < x.size) = true := decide_eq_true (by omega)
        clear hx
        go_wp2
        exact HR.out _ _ ⟨⟨false, rfl, fun h => by cases h⟩, HB0.out⟩
    · have hn : ∀ y ∈ keys, y.size ≤ 100 := by
        have := HN.out
        rw [List.take_of_length_le (by omega)] at this
        exact this
      have HNN := Lib.hid hn
      have x0 := HX.out.cell 0
      have x1 := HX.out.cell 1
      simp at x0 x1
      clear hn
      go_wp2_with fail
      refine (few23_any _ _ la ta _ (RdF.next g1 HB0.out) (RdE.next (RdF.stays valV 4) g2 HB0.out)).mono ?_
      rintro e w1 ⟨⟨g, rfl, hg⟩, b1⟩
      have bw1 := HB0.out.trans (b1.mono HB0.out.size)
      have X1 := HX.out.below b1 HX.out.lt
      have y2 := X1.cell 2
      have y3 := X1.cell 3
      simp at y2 y3
      clear x0 x1 x4
      cases g
      · clear hg
        go_wp2
        exact HR.out _ _ ⟨⟨false, rfl, fun h => by cases h⟩, bw1⟩
      · have HG := Lib.hid (hg rfl)
        clear hg
        go_wp2_with fail
        refine (few23_any _ _ lb tb _ (RdF.next g3 bw1) (RdE.next (RdF.stays valV 4) g4 bw1)).mono ?_
        rintro e w2 ⟨⟨g, rfl, hg⟩, b2⟩
        have bw2 := bw1.trans (b2.mono bw1.size)
        have X2 := X1.below b2 X1.lt
        have z4 := X2.cell 4
        simp at z4
        clear y2 y3
        cases g
        · clear hg
          go_wp2
          exact HR.out _ _ ⟨⟨false, rfl, fun h => by cases h⟩, bw2⟩
        · have HG2 := Lib.hid (hg rfl)
          clear hg
          by_cases hk2 : keys.length ≤ 12
          · have d : decide ((keys.length : Int) ≤ 12) = true := decide_eq_true (by omega)
            go_wp2
            exact HR.out _ _ ⟨⟨_, rfl, fun _ => ⟨HNN.out, HG.out, HG2.out, hk2⟩⟩, bw2⟩
          · have d : decide ((keys.length : Int) ≤ 12) = false := decide_eq_false (by omega)
            go_wp2
            exact HR.out _ _ ⟨⟨false, rfl, fun h => by cases h⟩, bw2⟩
section
variable {H : Type} {enc : TypeId × Value → H} {w : World} {base : Nat} {spare : Nat → Bool} {held : Bool}
set_option maxRecDepth 100000 in
theorem open_colsF {fuel : Nat} {v : Value} {x : DataW H × List MemPlace} (hf : DataW.trod enc Tryd.prog w base spare held fuel 22 [v] = some x) (hsz : Sized Tryd.prog 22 x.1) : ∃ l, RdC w w.heap.size v l := by
  obtain ⟨A, n, c, xs, h1, h2, h3⟩ := open_sl (size := 3) Tryd.underlying22 (by kernel_rfl) (by omega) (of_decide_eq_true (by kernel_rfl)) hf hsz
  obtain ⟨l, hl, rfl⟩ : ∃ l : List Col, l.length = n ∧ xs = l.flatMap colV := by
    have key : ∀ k, k ≤ n → ∃ l : List Col, l.length = k ∧ xs.take (k * 3) = l.flatMap colV := by
      intro k
      induction k with
      | zero => exact fun _ => ⟨[], rfl, by simp⟩
      | succ k ih =>
        intro hk
        obtain ⟨l, hl, he⟩ := ih (by omega)
        obtain ⟨f, y, hy, -⟩ := h3 k (by omega)
        obtain ⟨c, hc⟩ := open_col hy
        refine ⟨l ++ [c], by simp [hl], ?_⟩
        rw [List.flatMap_append, ← he, Nat.succ_mul, List.take_add, hc]
        simp
    obtain ⟨l, hl, he⟩ := key n (Nat.le_refl _)
    exact ⟨l, hl, by rw [← he, List.take_of_length_le (by rw [h2.len]; exact Nat.le_refl _)]⟩
  subst hl
  exact ⟨l, A, c, h1, h2⟩
set_option maxRecDepth 100000 in
theorem open_tabF {fuel : Nat} {a b : Value} {x : DataW H × List MemPlace} (hf : DataW.trod enc Tryd.prog w base spare held fuel 25 [a, b] = some x) (hsz : Sized Tryd.prog 25 x.1) : ∃ l t, RdC w w.heap.size a l ∧ RdVT w w.heap.size b t := by
  obtain ⟨y0, y1, n, rfl, hl, h0, h1⟩ := trod_struct2 Tryd.underlying25 hf
  have c1 : Tryd.prog.cellsOf 22 = 1 := by kernel_rfl
  have c2 : Tryd.prog.cellsOf 23 = 1 := by kernel_rfl
  simp only [c1, c2] at h0 h1
  obtain ⟨l, hl⟩ := open_colsF (v := a) (by simpa using h0) (hsz.field Tryd.underlying25 (i := 0) rfl rfl)
  obtain ⟨t, ht⟩ := open_vtab (v := b) (by simpa using h1) (hsz.field Tryd.underlying25 (i := 1) rfl rfl)
  exact ⟨l, t, hl, ht⟩
theorem array5 {cs : Array Value} (h : cs.size = 5) : ∃ a b c d e, cs = #[a, b, c, d, e] := by
  obtain ⟨l⟩ := cs
  match l, h with
  | [a, b, c, d, e], _ => exact ⟨a, b, c, d, e, rfl⟩
theorem array2 {cs : Array Value} (h : cs.size = 2) : ∃ a b, cs = #[a, b] := by
  obtain ⟨l⟩ := cs
  match l, h with
  | [a, b], _ => exact ⟨a, b, rfl⟩
set_option maxRecDepth 100000 in
theorem open_case25 {v : Value} {d : DataW H} {p : List MemPlace} {r : Reach} {b0 : Nat} (hv : Value.okWide Tryd.prog w r b0 28 v) (h : DataW.Trod enc Tryd.prog w base spare held 28 v d p) (hsz : Sized Tryd.prog 28 d) :
    ∃ v1 u1 v2 u2 z la ta lb tb keys, v = .agg #[v1, u1, v2, u2, z] ∧ RdC w w.heap.size v1 la ∧ RdVT w w.heap.size u1 ta ∧ RdC w w.heap.size v2 lb ∧ RdVT w w.heap.size u2 tb ∧ RdS w w.heap.size z keys := by
  obtain ⟨cs, rfl, hs⟩ := okWide_struct Tryd.underlying28 hv
  obtain ⟨v1, u1, v2, u2, z, rfl⟩ := array5 (hs.trans (by kernel_rfl))
  obtain ⟨fuel, hf⟩ := h
  obtain ⟨y0, y1, y2, n, hx, _, h0, h1, h2⟩ := Go.Deep.trod_struct3 Tryd.underlying28 hf
  have c1 : Tryd.prog.cellsOf 25 = 2 := by kernel_rfl
  have c2 : Tryd.prog.cellsOf 26 = 1 := by kernel_rfl
  simp only [c1, c2] at h0 h1 h2
  simp only [Prod.mk.injEq] at hx
  obtain ⟨rfl, rfl⟩ := hx
  obtain ⟨la, ta, q1, q2⟩ := open_tabF (a := v1) (b := u1) (by simpa [Value.cells] using h0) (hsz.field Tryd.underlying28 (i := 0) rfl rfl)
  obtain ⟨lb, tb, q3, q4⟩ := open_tabF (a := v2) (b := u2) (by simpa [Value.cells] using h1) (hsz.field Tryd.underlying28 (i := 1) rfl rfl)
  obtain ⟨keys, q5⟩ := open_strs (v := z) (by simpa [Value.cells] using h2) (hsz.field Tryd.underlying28 (i := 2) rfl rfl)
  exact ⟨v1, u1, v2, u2, z, la, ta, lb, tb, keys, rfl, q1, q2, q3, q4, q5⟩
end
end Go.Proofs.YtgiemhooeoakmaaDoor

namespace Go.Proofs.YtgiemhooeoakmaaDoor
open Go.RowKit Go.ChangeShapes Go.WideShapes
set_option linter.unusedVariables false
set_option linter.unusedSimpArgs false

theorem RdF.new6 (w : World) (a b : ByteArray) (i j : Int) (p q : Bool) (e : TypeId) : RdC (w.alloc (.cells #[.string a, .int .i64 i, .bool p, .string b, .int .i64 j, .bool q] e)) (w.alloc (.cells #[.string a, .int .i64 i, .bool p, .string b, .int .i64 j, .bool q] e)).heap.size (.slice (some ⟨w.heap.size, 0, none⟩) 2 2) [⟨a, i, p⟩, ⟨b, j, q⟩] :=
  RdF.new (f := colV) (s := 3) w [⟨a, i, p⟩, ⟨b, j, q⟩] e 2 _ rfl colV_len rfl (by omega)
theorem RdE.new2 {α : Type} {R : World → Nat → Value → α → Prop} (hR : Stays R) (w : World) (a b : Value) (x y : α) (e : TypeId) (h1 : R w w.heap.size a x) (h2 : R w w.heap.size b y) : RdE R (w.alloc (.cells #[a, b] e)) (w.alloc (.cells #[a, b] e)).heap.size (.slice (some ⟨w.heap.size, 0, none⟩) 2 2) [x, y] := by
  have hb : Below w.heap.size w (w.alloc (.cells #[a, b] e)) := (Below.refl _ _).alloc (Nat.le_refl _) _
  exact ⟨_, _, [a, b], rfl, Sl.newrow w #[a, b] e (Nat.le_of_ble_eq_true rfl), (Each.nil.cons (hR.more (hR.below h2 hb) hb.size)).cons (hR.more (hR.below h1 hb) hb.size)⟩
def exR (n : Int) (s : ByteArray) : VRow := [⟨2, ⟨#[]⟩, n, false⟩, ⟨1, s, 0, false⟩]
theorem exRow_any (n : Int) (s : ByteArray) (w : World) : Calls Tryd.prog 58 #[.int .i64 n, .string s] w fun e w' => (∃ g, e = .returned (.slice (some ⟨g, 0, none⟩) 2 2) ∧ RdV w' w'.heap.size (.slice (some ⟨g, 0, none⟩) 2 2) (exR n s)) ∧ Below w.heap.size w w' := by
  refine cps fun R HR => ?_
  have h := RdF.new (f := valV) (s := 4) w (exR n s) 96 2 _ rfl valV_len rfl (by omega)
  have hb := (Below.refl w.heap.size w).alloc (Nat.le_refl _) (.cells #[.int .i64 2, .string ⟨#[]⟩, .int .i64 n, .bool false, .int .i64 1, .string s, .int .i64 0, .bool false] 96)
  have H := Lib.hid h; have HB := Lib.hid hb
  clear h hb
  go_enter Tryd.func58, Tryd.ntmps58
  go_wp2
  exact HR.out _ _ ⟨⟨_, rfl, H.out⟩, HB.out⟩
def exL : List Col := [⟨⟨#[105, 100]⟩, 2, false⟩, ⟨⟨#[115]⟩, 1, false⟩]
set_option maxHeartbeats 4000000 in
set_option maxRecDepth 100000 in
theorem awake25_any (w : World) (hT : Tab w) : Calls Tryd.prog 15 #[] w fun e w' => e = .returned (.bool true) ∧ Below w.heap.size w w' := by
  refine cps fun R HR => ?_
  have E1 := Lib.hid (show diffE exL exL [⟨#[105, 100]⟩] [exR 1 ⟨#[120]⟩, exR 2 ⟨#[121]⟩] [exR 2 ⟨#[122]⟩, exR 3 ⟨#[113]⟩] = 0 by decide +kernel)
  have E2 := Lib.hid (show diffL exL exL [⟨#[105, 100]⟩] [exR 1 ⟨#[120]⟩, exR 2 ⟨#[121]⟩] [exR 2 ⟨#[122]⟩, exR 3 ⟨#[113]⟩] = [⟨1, exR 1 ⟨#[120]⟩, []⟩, ⟨2, exR 2 ⟨#[121]⟩, exR 2 ⟨#[122]⟩⟩, ⟨3, [], exR 3 ⟨#[113]⟩⟩] by decide +kernel)
  have hC := RdF.new6 w ⟨#[105, 100]⟩ ⟨#[115]⟩ 2 1 false false 99
  have b0 := (Below.refl w.heap.size w).alloc (Nat.le_refl _) (.cells #[.string ⟨#[105, 100]⟩, .int .i64 2, .bool false, .string ⟨#[115]⟩, .int .i64 1, .bool false] 99)
  have HC := Lib.hid hC; have B0 := Lib.hid b0; have HT := Lib.hid hT
  clear hC b0 hT
  go_enter Tryd.func15, Tryd.ntmps15
  go_wp2_with fail
  refine (exRow_any 1 ⟨#[120]⟩ _).mono ?_
  rintro e w1 ⟨⟨ga, rfl, ra⟩, b1⟩
  go_wp2_with fail
  refine (exRow_any 2 ⟨#[121]⟩ _).mono ?_
  rintro e w2 ⟨⟨gb, rfl, rb⟩, b2⟩
  have t1 := RdE.new2 (RdF.stays valV 4) w2 _ _ _ _ 61 (RdF.next ra b2) rb
  have b3 := (Below.refl w2.heap.size w2).alloc (Nat.le_refl _) (.cells #[.slice (some ⟨ga, 0, none⟩) 2 2, .slice (some ⟨gb, 0, none⟩) 2 2] 61)
  have c1 := b1.trans (b2.mono b1.size)
  have c2 := c1.trans (b3.mono c1.size)
  go_wp2_with fail
  refine (exRow_any 2 ⟨#[122]⟩ _).mono ?_
  rintro e w4 ⟨⟨gc, rfl, rc⟩, b4⟩
  have c3 := c2.trans (b4.mono c2.size)
  go_wp2_with fail
  refine (exRow_any 3 ⟨#[113]⟩ _).mono ?_
  rintro e w5 ⟨⟨gd, rfl, rd⟩, b5⟩
  have c5 := c3.trans (b5.mono c3.size)
  have t2 := RdE.new2 (RdF.stays valV 4) w5 _ _ _ _ 61 (RdF.next rc b5) rd
  have b6 := (Below.refl w5.heap.size w5).alloc (Nat.le_refl _) (.cells #[.slice (some ⟨gc, 0, none⟩) 2 2, .slice (some ⟨gd, 0, none⟩) 2 2] 61)
  have c6 := c5.trans (b6.mono c5.size)
  have t1b := RdE.next (RdF.stays valV 4) (RdE.next (RdF.stays valV 4) (RdE.next (RdF.stays valV 4) t1 b4) b5) b6
  obtain ⟨w6, hw6⟩ : ∃ w6, w6 = w5.alloc (.cells #[.slice (some ⟨gc, 0, none⟩) 2 2, .slice (some ⟨gd, 0, none⟩) 2 2] 61) := ⟨_, rfl⟩
  rw [← hw6] at t2 c6 t1b
  have hs6 : w6.heap.size = w5.heap.size + 1 := by rw [hw6]; simp
  have k7 := RdS.new w6 [⟨#[105, 100]⟩] 9 1 rfl (by omega)
  have b7 := (Below.refl w6.heap.size w6).alloc (Nat.le_refl _) (.cells #[.string ⟨#[105, 100]⟩] 9)
  have c7 := c6.trans (b7.mono c6.size)
  have t1c := RdE.next (RdF.stays valV 4) t1b b7
  have t2c := RdE.next (RdF.stays valV 4) t2 b7
  have hc7 := RdF.next HC.out c7
  have T7 := HT.out.below (B0.out.trans (c7.mono B0.out.size))
  have c7w := B0.out.trans (c7.mono B0.out.size)
  rw [hs6] at k7
  simp only [List.map_cons, List.map_nil] at k7
  rw [hw6] at k7 t1c t2c hc7 T7 c7w
  have K7 := Lib.hid k7; have T1C := Lib.hid t1c; have T2C := Lib.hid t2c; have HC7 := Lib.hid hc7; have TT := Lib.hid T7; have CW := Lib.hid c7w
  clear k7 t1c t2c hc7 T7 c7w c7 b7 hs6 hw6 t1b c6 b6 t2 c5 rc rd c3 b4 b5 c2 c1 b3 t1 ra rb b1 b2
  go_wp2_with fail
  refine (ddiff_any _ _ _ _ _ exL exL [exR 1 ⟨#[120]⟩, exR 2 ⟨#[121]⟩] [exR 2 ⟨#[122]⟩, exR 3 ⟨#[113]⟩] [⟨#[105, 100]⟩] _ HC7.out T1C.out HC7.out T2C.out K7.out (by decide) (by decide) (by decide) (by decide) (by decide) (by decide) (by decide) TT.out).mono ?_
  rintro e w8 ⟨⟨o, rfl, ho⟩, b8⟩
  rw [E1.out]
  rw [E2.out] at ho
  have h0 := ho.at (k := 0) (by decide)
  have h1 := ho.at (k := 1) (by decide)
  have h2 := ho.at (k := 2) (by decide)
  obtain ⟨p, c, uo, un, rfl, p0, -, -, -, -⟩ := h0
  obtain ⟨p', c', uo', un', hv, q0, q1, q2, q3, q4⟩ := h1
  injection hv with hA _ hcc
  injection hA with hA
  subst hA
  subst hcc
  obtain ⟨p', c', uo2, un2, hv, r0, -, -, -, -⟩ := h2
  injection hv with hA _ hcc
  injection hA with hA
  subst hA
  subst hcc
  obtain ⟨a, ca, rfl, s0, s1, s2, s3⟩ := RdV.at q4 (k := 1) (by decide)
  have cw := CW.out.trans (b8.mono CW.out.size)
  simp [exR, Addr.add] at p0 q0 q1 q2 r0 s0 s1
  clear s2 s3 q3 q4 ho
  go_wp2
  exact HR.out _ _ ⟨rfl, cw⟩
end Go.Proofs.YtgiemhooeoakmaaDoor


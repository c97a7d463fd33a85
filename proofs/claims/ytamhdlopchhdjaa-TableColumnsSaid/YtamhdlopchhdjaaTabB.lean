/- Layer 13: great, Widths, Even. -/
import Derived.Test.YtamhdlopchhdjaaTabA
namespace Go.Proofs.Ytamhdlopchhdjaa
open Go.RowKit Go.ChangeShapes Go.WideShapes
set_option linter.unusedVariables false
set_option linter.unusedSimpArgs false

theorem greatLaw_any (v : Value) (t : Tbl) (w : World) {B : Nat} (h : RdT w B v t) :
    Calls Try.prog 8 #[v] w fun e w' => (∃ g : Bool, e = .returned (.bool g) ∧ (g = false → t.length ≤ 40 ∧ tot List.length t ≤ 200 ∧ tot bytesR t ≤ 2000)) ∧ w' = w := by
  refine cps fun R HR => ?_
  go_enter Try.func8, Try.ntmps8
  go_wp2_with fail
  refine (great_any v t 40 200 2000 _ h (by omega) (by omega) (by omega)).mono ?_
  rintro e w1 ⟨⟨g, rfl, hg⟩, rfl⟩
  have HG := Lib.hid hg; clear hg
  go_wp2
  exact HR.out _ _ ⟨⟨g, rfl, HG.out⟩, rfl⟩

/-- The least and the greatest number of fields. -/
def leastF (t : Tbl) : Nat := match t with
  | [] => 0
  | a :: r => r.foldl (fun m x => min m x.length) a.length
def mostF (t : Tbl) : Nat := t.foldl (fun m x => max m x.length) 0
theorem least_snoc (t : Tbl) (x : Row) : leastF (t ++ [x]) = if t = [] then x.length else min (leastF t) x.length := by
  cases t with
  | nil => rfl
  | cons a r => simp [leastF, List.foldl_append]
theorem most_snoc (t : Tbl) (x : Row) : mostF (t ++ [x]) = max (mostF t) x.length := by
  simp [mostF, List.foldl_append]
theorem least_take (t : Tbl) {k : Nat} (hk : k < t.length) : leastF (t.take (k + 1)) = if k = 0 then t[k].length else min (leastF (t.take k)) t[k].length := by
  rw [List.take_succ_eq_append_getElem hk, least_snoc]
  by_cases h : k = 0
  · subst h; simp
  · rw [if_neg h, if_neg]
    intro hh
    have h0 : (t.take k).length = 0 := by rw [hh]; rfl
    rw [List.length_take] at h0
    omega
theorem most_take (t : Tbl) {k : Nat} (hk : k < t.length) : mostF (t.take (k + 1)) = max (mostF (t.take k)) t[k].length := by
  rw [List.take_succ_eq_append_getElem hk, most_snoc]
theorem widths_any (v : Value) (t : Tbl) (w : World) {B : Nat} (h : RdT w B v t) :
    Calls Try.prog 10 #[v] w fun e w' => e = .returned (.tuple #[.int .i64 (leastF t), .int .i64 (mostF t)]) ∧ w' = w := by
  refine cps fun R HR => ?_
  have h0 := h
  obtain ⟨A, c, vs, rfl, -, -⟩ := h.is
  have hfew := h.few
  go_enter Try.func10, Try.ntmps10
  go_wp2
  go_loopw [2, 3, 8] (fun p q i wr => ∃ k : Nat, k ≤ t.length ∧ i = .int .i64 k ∧ p = .int .i64 (leastF (t.take k)) ∧ q = .int .i64 (mostF (t.take k)) ∧ wr = w) (fun _ _ i _ => t.length - (intOf i).toNat)
  case atStart => exact ⟨0, Nat.zero_le _, rfl, rfl, rfl, rfl⟩
  case round =>
    obtain ⟨k, hk, rfl, rfl, rfl, rfl⟩ := hrel
    by_cases hlt : k < t.length
    · obtain ⟨a, c', u, hv, hc, hu⟩ := h0.at hlt
      injection hv with hA _ hcc
      subst hA
      subst hcc
      obtain ⟨A2, c2, rfl, -⟩ := hu.is
      have hl := least_take t hlt
      have hm := most_take t hlt
      obtain ⟨r, hr⟩ : ∃ r, r = t[k] := ⟨_, rfl⟩
      rw [← hr] at hu hl hm hc
      obtain ⟨p, hp⟩ : ∃ p, p = leastF (t.take k) := ⟨_, rfl⟩
      obtain ⟨q, hq⟩ : ∃ q, q = mostF (t.take k) := ⟨_, rfl⟩
      rw [← hp] at hl ⊢
      rw [← hq] at hm ⊢
      clear hr hp hq
      have hl0 : k = 0 → leastF (t.take (k + 1)) = r.length := fun h => by rw [hl, if_pos h]
      have hl1 : ¬ k = 0 → leastF (t.take (k + 1)) = min p r.length := fun h => by rw [hl, if_neg h]
      clear hl
      have HL0 := Lib.hid hl0; have HL1 := Lib.hid hl1; have HM := Lib.hid hm
      clear hl0 hl1 hm
      have dk : decide ((k : Int) < t.length) = true := decide_eq_true (by omega)
      go_wp2
      all_goals
        have hl0 := HL0.out; have hl1 := HL1.out; have hm := HM.out; clear HL0 HL1 HM
        try simp only [beq_iff_eq, beq_eq_false_iff_ne, ne_eq] at *
        exact ⟨⟨k + 1, by omega, congrArg (Value.int .i64) (by omega), congrArg (Value.int .i64) (by omega), congrArg (Value.int .i64) (by omega), trivial⟩, by simp [intOf]; omega⟩
    · obtain rfl : k = t.length := by omega
      rw [List.take_length]
      clear hlt
      go_wp2
      exact HR.out _ _ ⟨rfl, rfl⟩
theorem even_any (v : Value) (t : Tbl) (w : World) {B : Nat} (h : RdT w B v t) :
    Calls Try.prog 12 #[v] w fun e w' => e = .returned (.bool ((leastF t : Int) == (mostF t : Int))) ∧ w' = w := by
  refine cps fun R HR => ?_
  go_enter Try.func12, Try.ntmps12
  go_wp2_with fail
  refine (widths_any v t _ h).mono ?_
  rintro e w1 ⟨rfl, rfl⟩
  go_wp2
  exact HR.out _ _ ⟨rfl, rfl⟩
theorem refWidths_any (v : Value) (t : Tbl) (w : World) {B : Nat} (h : RdT w B v t) :
    Calls Try.prog 11 #[v] w fun e w' => e = .returned (.tuple #[.int .i64 (leastF t), .int .i64 (mostF t)]) ∧ w' = w := by
  refine cps fun R HR => ?_
  have h0 := h
  obtain ⟨A, c, vs, rfl, -, -⟩ := h.is
  have hfew := h.few
  go_enter Try.func11, Try.ntmps11
  go_wp2
  go_loopw [4, 5, 10] (fun p q i wr => ∃ k : Nat, k ≤ t.length ∧ i = .int .i64 k ∧ p = .int .i64 (leastF (t.take k)) ∧ q = .int .i64 (mostF (t.take k)) ∧ wr = w) (fun _ _ i _ => t.length - (intOf i).toNat)
  case atStart => exact ⟨0, Nat.zero_le _, rfl, rfl, rfl, rfl⟩
  case round =>
    obtain ⟨k, hk, rfl, rfl, rfl, rfl⟩ := hrel
    by_cases hlt : k < t.length
    · obtain ⟨a, c', u, hv, hc, hu⟩ := h0.at hlt
      injection hv with hA _ hcc
      subst hA
      subst hcc
      obtain ⟨A2, c2, rfl, -⟩ := hu.is
      have hl := least_take t hlt
      have hm := most_take t hlt
      obtain ⟨r, hr⟩ : ∃ r, r = t[k] := ⟨_, rfl⟩
      rw [← hr] at hu hl hm hc
      obtain ⟨p, hp⟩ : ∃ p, p = leastF (t.take k) := ⟨_, rfl⟩
      obtain ⟨q, hq⟩ : ∃ q, q = mostF (t.take k) := ⟨_, rfl⟩
      rw [← hp] at hl ⊢
      rw [← hq] at hm ⊢
      clear hr hp hq
      have hl0 : k = 0 → leastF (t.take (k + 1)) = r.length := fun h => by rw [hl, if_pos h]
      have hl1 : ¬ k = 0 → leastF (t.take (k + 1)) = min p r.length := fun h => by rw [hl, if_neg h]
      clear hl
      have HL0 := Lib.hid hl0; have HL1 := Lib.hid hl1; have HM := Lib.hid hm
      clear hl0 hl1 hm
      have dk : decide ((k : Int) < t.length) = true := decide_eq_true (by omega)
      go_wp2
      all_goals
        have hl0 := HL0.out; have hl1 := HL1.out; have hm := HM.out; clear HL0 HL1 HM
        try simp only [beq_iff_eq, beq_eq_false_iff_ne, ne_eq] at *
        exact ⟨⟨k + 1, by omega, congrArg (Value.int .i64) (by omega), congrArg (Value.int .i64) (by omega), congrArg (Value.int .i64) (by omega), trivial⟩, by simp [intOf]; omega⟩
    · obtain rfl : k = t.length := by omega
      rw [List.take_length]
      clear hlt
      go_wp2
      exact HR.out _ _ ⟨rfl, rfl⟩
/-- Have all records as many fields? -/
def evenF (t : Tbl) : Bool := t.all fun r => r.length == (t.headD []).length
theorem refEven_any (v : Value) (t : Tbl) (w : World) {B : Nat} (h : RdT w B v t) :
    Calls Try.prog 13 #[v] w fun e w' => e = .returned (.bool (evenF t)) ∧ w' = w := by
  refine cps fun R HR => ?_
  have h0 := h
  obtain ⟨A, c, vs, rfl, -, -⟩ := h.is
  have hfew := h.few
  go_enter Try.func13, Try.ntmps13
  go_wp2
  go_loopw [7] (fun i wr => ∃ k : Nat, k ≤ t.length ∧ i = .int .i64 k ∧ (∀ j (hj : j < t.length), j < k → t[j].length = (t.headD []).length) ∧ wr = w) (fun i _ => t.length - (intOf i).toNat)
  case atStart => exact ⟨0, Nat.zero_le _, rfl, fun j _ h => by omega, rfl⟩
  case round =>
    obtain ⟨k, hk, rfl, hN, rfl⟩ := hrel
    have HN := Lib.hid hN; clear hN
    by_cases hlt : k < t.length
    · obtain ⟨a, c', u, hv, hc, hu⟩ := h0.at hlt
      injection hv with hA _ hcc
      subst hA
      subst hcc
      obtain ⟨A2, c2, rfl, -⟩ := hu.is
      obtain ⟨a', c', u', hv', hc', hu'⟩ := h0.at (k := 0) (by omega)
      injection hv' with hA _ hcc
      injection hA with hA
      subst hA
      clear hcc
      obtain ⟨A3, c3, rfl, -⟩ := hu'.is
      have hadd : a.add 0 = a := by simp [Addr.add]
      rw [hadd] at hc'
      have hhead : t[0] = t.headD [] := by
        cases t with
        | nil => simp at hlt
        | cons x r => rfl
      have hev : ¬ t[k].length = t[0].length → evenF t = false := fun hne => by
        rw [Bool.eq_false_iff]
        intro he
        have := List.all_eq_true.1 he t[k] (List.getElem_mem hlt)
        rw [← hhead] at this
        exact hne (by simpa using this)
      obtain ⟨r, hr⟩ : ∃ r, r = t[k] := ⟨_, rfl⟩
      obtain ⟨r0, hr0⟩ : ∃ r, r = t[0] := ⟨_, rfl⟩
      rw [← hr] at hu hc hev
      rw [← hr0] at hu' hc' hev hhead
      have HR1 := Lib.hid hr; have HH := Lib.hid hhead; have HE := Lib.hid hev
      clear hr hr0 hhead hev
      have dk : decide ((k : Int) < t.length) = true := decide_eq_true (by omega)
      have h00 : 0 < t.length := by omega
      by_cases he : r.length = r0.length
      · have d : ((r.length : Int) != (r0.length : Int)) = false := by simp [he]
        have hnn : ∀ j (hj : j < t.length), j < k + 1 → t[j].length = (t.headD []).length := fun j hj hjk => by
          by_cases hjk' : j < k
          · exact HN.out j hj hjk'
          · obtain rfl : j = k := by omega
            rw [← HR1.out, he, HH.out]
        have HNN := Lib.hid hnn
        clear hnn he
        go_wp2
        exact ⟨⟨k + 1, by omega, by go_num, HNN.out, trivial⟩, by simp [intOf]; omega⟩
      · have d : ((r.length : Int) != (r0.length : Int)) = true := by rw [bne_iff_ne]; omega
        have HF := Lib.hid (HE.out he)
        clear he
        go_wp2
        exact HR.out _ _ ⟨by rw [HF.out], rfl⟩
    · have HT := Lib.hid (show evenF t = true by
        unfold evenF
        rw [List.all_eq_true]
        intro x hx
        obtain ⟨j, hj, rfl⟩ := List.getElem_of_mem hx
        rw [beq_iff_eq]
        exact HN.out j hj (by omega))
      go_wp2
      exact HR.out _ _ ⟨by rw [HT.out]; rfl, rfl⟩
theorem least_le_fold : ∀ (r : Tbl) (m : Nat), r.foldl (fun m x => min m x.length) m ≤ m ∧ (∀ x ∈ r, r.foldl (fun m x => min m x.length) m ≤ x.length) ∧ (r.foldl (fun m x => min m x.length) m = m ∨ ∃ x ∈ r, r.foldl (fun m x => min m x.length) m = x.length)
  | [], m => ⟨Nat.le_refl _, (fun x h => by cases h), .inl rfl⟩
  | a :: r, m => by
    obtain ⟨h1, h2, h3⟩ := least_le_fold r (min m a.length)
    rw [List.foldl_cons]
    refine ⟨by omega, fun x hx => ?_, ?_⟩
    · rcases List.mem_cons.1 hx with rfl | hx
      · omega
      · exact h2 x hx
    · rcases h3 with h3 | ⟨x, hx, h3⟩
      · by_cases hm : m ≤ a.length
        · exact .inl (by omega)
        · exact .inr ⟨a, by simp, by omega⟩
      · exact .inr ⟨x, by simp [hx], h3⟩
theorem most_ge_fold : ∀ (r : Tbl) (m : Nat), m ≤ r.foldl (fun m x => max m x.length) m ∧ (∀ x ∈ r, x.length ≤ r.foldl (fun m x => max m x.length) m) ∧ (r.foldl (fun m x => max m x.length) m = m ∨ ∃ x ∈ r, r.foldl (fun m x => max m x.length) m = x.length)
  | [], m => ⟨Nat.le_refl _, (fun x h => by cases h), .inl rfl⟩
  | a :: r, m => by
    obtain ⟨h1, h2, h3⟩ := most_ge_fold r (max m a.length)
    rw [List.foldl_cons]
    refine ⟨by omega, fun x hx => ?_, ?_⟩
    · rcases List.mem_cons.1 hx with rfl | hx
      · omega
      · exact h2 x hx
    · rcases h3 with h3 | ⟨x, hx, h3⟩
      · by_cases hm : a.length ≤ m
        · exact .inl (by omega)
        · exact .inr ⟨a, by simp, by omega⟩
      · exact .inr ⟨x, by simp [hx], h3⟩
/-- An even table: all widths are one. -/
theorem even_iff (t : Tbl) : ((leastF t : Int) == (mostF t : Int)) = evenF t := by
  rw [Bool.eq_iff_iff, beq_iff_eq]
  unfold evenF
  rw [List.all_eq_true]
  cases t with
  | nil => simp [leastF, mostF]
  | cons a r =>
    obtain ⟨h1, h2, h3⟩ := least_le_fold r a.length
    obtain ⟨m1, m2, m3⟩ := most_ge_fold (a :: r) 0
    show ((r.foldl (fun m x => min m x.length) a.length : Nat) : Int) = (((a :: r).foldl (fun m x => max m x.length) 0 : Nat) : Int) ↔ _
    constructor
    · intro he x hx
      have := m2 x hx
      have ha := m2 a (by simp)
      rw [beq_iff_eq]
      show x.length = a.length
      rcases List.mem_cons.1 hx with rfl | hx
      · rfl
      · have := h2 x hx
        omega
    · intro he
      have he' : ∀ x ∈ a :: r, x.length = a.length := fun x hx => by have := he x hx; rw [beq_iff_eq] at this; exact this
      have ha := m2 a (by simp)
      have e1 : r.foldl (fun m x => min m x.length) a.length = a.length := by
        rcases h3 with h3 | ⟨x, hx, h3⟩
        · exact h3
        · rw [h3]; exact he' x (by simp [hx])
      have e2 : (a :: r).foldl (fun m x => max m x.length) 0 = a.length := by
        rcases m3 with m3 | ⟨x, hx, m3⟩
        · omega
        · rw [m3]; exact he' x hx
      omega
end Go.Proofs.Ytamhdlopchhdjaa

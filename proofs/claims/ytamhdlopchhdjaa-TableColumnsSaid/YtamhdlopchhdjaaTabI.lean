/- Layer 13: Pick, and the reference's Has, Pick. -/
import Derived.Test.YtamhdlopchhdjaaTabH
namespace Go.Proofs.Ytamhdlopchhdjaa
open Go.RowKit Go.ChangeShapes Go.WideShapes
set_option linter.unusedVariables false
set_option linter.unusedSimpArgs false

def intV (l : List Int) : List Value := l.map (Value.int .i64)
structure RdI (w : World) (B : Nat) (v : Value) (l : List Int) : Prop where
  is : ∃ A c, v = .slice A l.length c ∧ Sl w B 1 A l.length c (intV l)
theorem RdI.below {w w' : World} {B : Nat} {v : Value} {l : List Int} (h : RdI w B v l) (hb : Below B w w') : RdI w' B v l := by
  obtain ⟨A, c, h1, h2⟩ := h.is
  exact ⟨A, c, h1, h2.below hb⟩
theorem RdI.next {w w' : World} {v : Value} {l : List Int} (h : RdI w w.heap.size v l) (hb : Below w.heap.size w w') : RdI w' w'.heap.size v l := by
  obtain ⟨A, c, h1, h2⟩ := (h.below hb).is
  exact ⟨A, c, h1, h2.more hb.size⟩
theorem RdI.at {w : World} {B : Nat} {v : Value} {l : List Int} (h : RdI w B v l) {k : Nat} (hk : k < l.length) : ∃ a c, v = .slice (some a) l.length c ∧ w.cell? (a.add k) = some (.int .i64 l[k]) := by
  obtain ⟨A, c, h1, h2⟩ := h.is
  obtain ⟨a, rfl⟩ := h2.some_ (by omega)
  refine ⟨a, c, h1, h2.cell a k _ rfl ?_⟩
  unfold intV
  rw [List.getElem?_map, List.getElem?_eq_getElem hk]
  rfl
theorem RdI.few {w : World} {B : Nat} {v : Value} {l : List Int} (h : RdI w B v l) : l.length ≤ 140737488355328 := by
  obtain ⟨A, c, h1, h2⟩ := h.is
  exact h2.few
def negF (l : List Int) : Bool := l.any fun p => decide (p < 0)
theorem pick1_any (p : Int) (w : World) : Calls Try.prog 31 #[.int .i64 p] w fun e w' => e = .returned (.bool (decide (p < 0))) ∧ w' = w := by
  refine cps fun R HR => ?_
  go_enter Try.func31, Try.ntmps31
  go_wp2
  exact HR.out _ _ ⟨rfl, rfl⟩
/-- The place of the first number below 0, so many being behind. -/
def idxN : Nat → List Int → Int
  | _, [] => -1
  | j, p :: r => if p < 0 then j else idxN (j + 1) r
theorem idxN_neg : ∀ (l : List Int) (j : Nat), decide (0 ≤ idxN j l) = negF l
  | [], j => rfl
  | p :: r, j => by
    rw [idxN]
    unfold negF
    rw [List.any_cons]
    split
    · rename_i h
      rw [decide_eq_true h, decide_eq_true (by omega)]
      rfl
    · rename_i h
      rw [decide_eq_false h, idxN_neg r (j + 1)]
      rfl
theorem indexI_any (v : Value) (l : List Int) (w : World) (h : RdI w w.heap.size v l) :
    Calls Try.prog 38 #[v, .func (.func 31) #[] #[]] w fun e w' => e = .returned (.int .i64 (idxN 0 l)) ∧ w' = w := by
  refine cps fun R HR => ?_
  have h0 := h
  obtain ⟨A, c, rfl, -⟩ := h.is
  have hfew := h.few
  clear h
  go_enter Try.func38, Try.ntmps38
  go_wp2
  go_loopw [8] (fun i wr => ∃ k : Nat, k ≤ l.length ∧ i = .int .i64 k ∧ idxN k (l.drop k) = idxN 0 l ∧ wr = w) (fun i _ => l.length - (intOf i).toNat)
  case atStart => exact ⟨0, Nat.zero_le _, rfl, rfl, rfl⟩
  case round =>
    obtain ⟨k, hk, rfl, hN, rfl⟩ := hrel
    have HN := Lib.hid hN; clear hN
    by_cases hlt : k < l.length
    · obtain ⟨p, c3, hv, hcp⟩ := h0.at hlt
      injection hv with hA _ hcc
      subst hA
      subst hcc
      have hd : l.drop k = l[k] :: l.drop (k + 1) := List.drop_eq_getElem_cons hlt
      obtain ⟨s, hs⟩ : ∃ s, s = l[k] := ⟨_, rfl⟩
      rw [← hs] at hcp hd
      clear hs
      have dk : decide ((k : Int) < l.length) = true := decide_eq_true (by omega)
      by_cases hb : s < 0
      · have HV := Lib.hid (show idxN 0 l = k by rw [← HN.out, hd, idxN, if_pos hb])
        have d : decide (s < 0) = true := decide_eq_true hb
        clear hd hb
        go_wp2_with fail
        refine (pick1_any s _).mono ?_
        rintro e w1 ⟨rfl, rfl⟩
        go_wp2
        exact HR.out _ _ ⟨by rw [HV.out]; rfl, rfl⟩
      · have HV := Lib.hid (show idxN (k + 1) (l.drop (k + 1)) = idxN 0 l by rw [← HN.out, hd, idxN, if_neg hb])
        have d : decide (s < 0) = false := decide_eq_false hb
        clear hd hb
        go_wp2_with fail
        refine (pick1_any s _).mono ?_
        rintro e w1 ⟨rfl, rfl⟩
        go_wp2
        exact ⟨⟨k + 1, by omega, by go_num, HV.out, trivial⟩, by simp [intOf]; omega⟩
    · have hd : l.drop k = [] := List.drop_of_length_le (by omega)
      have HV := Lib.hid (show idxN 0 l = -1 by rw [← HN.out, hd, idxN])
      clear hd
      go_wp2
      exact HR.out _ _ ⟨by rw [HV.out]; rfl, rfl⟩
theorem contains_any (v : Value) (l : List Int) (w : World) (h : RdI w w.heap.size v l) :
    Calls Try.prog 30 #[v, .func (.func 31) #[] #[]] w fun e w' => e = .returned (.bool (negF l)) ∧ w' = w := by
  refine cps fun R HR => ?_
  have hx := idxN_neg l 0
  have HX := Lib.hid hx; clear hx
  go_enter Try.func30, Try.ntmps30
  go_wp2_with fail
  refine (indexI_any v l _ h).mono ?_
  rintro e w1 ⟨rfl, rfl⟩
  go_wp2
  exact HR.out _ _ ⟨by rw [← HX.out]; rfl, rfl⟩
theorem refHas_any (v : Value) (t : Tbl) (n : Nat) (w : World) {B : Nat} (h : RdT w B v t) :
    Calls Try.prog 18 #[v, .int .i64 n] w fun e w' => e = .returned (.bool (hasF t n)) ∧ w' = w := by
  refine cps fun R HR => ?_
  have h0 := h
  obtain ⟨A, c, vs, rfl, -, -⟩ := h.is
  have hfew := h.few
  clear h
  go_enter Try.func18, Try.ntmps18
  go_wp2
  go_loopw [9] (fun i wr => ∃ k : Nat, k ≤ t.length ∧ i = .int .i64 k ∧ hasF (t.take k) n = true ∧ wr = w) (fun i _ => t.length - (intOf i).toNat)
  case atStart => exact ⟨0, Nat.zero_le _, rfl, rfl, rfl⟩
  case round =>
    obtain ⟨k, hk, rfl, hH, rfl⟩ := hrel
    have HH := Lib.hid hH; clear hH
    by_cases hlt : k < t.length
    · obtain ⟨p, c3, u, hv, hc, hu⟩ := h0.at hlt
      injection hv with hA _ hcc
      subst hA
      subst hcc
      have hs2 : hasF (t.take (k + 1)) n = (hasF (t.take k) n && decide (n < t[k].length)) := by
        unfold hasF
        rw [List.take_succ_eq_append_getElem hlt, List.all_append]
        simp
      have hs3 : hasF t n = true → n < t[k].length := fun hh => by
        have := List.all_eq_true.1 hh t[k] (List.getElem_mem hlt)
        simpa using this
      obtain ⟨x, hx⟩ : ∃ x, x = t[k] := ⟨_, rfl⟩
      rw [← hx] at hu hs2 hs3
      have S2 := Lib.hid hs2; have S3 := Lib.hid hs3
      clear hx hs2 hs3
      obtain ⟨A2, c2, rfl, -⟩ := hu.is
      have hxf := hu.few
      have dk : decide ((k : Int) < t.length) = true := decide_eq_true (by omega)
      by_cases hnl : n < x.length
      · have HV := Lib.hid (show hasF (t.take (k + 1)) n = true by rw [S2.out, HH.out, decide_eq_true hnl]; rfl)
        have d : ¬ x.length ≤ n := by omega
        clear hnl
        go_wp2
        exact ⟨⟨k + 1, by omega, by go_num, HV.out, trivial⟩, by simp [intOf]; omega⟩
      · have HV := Lib.hid (show hasF t n = false by rw [Bool.eq_false_iff]; exact fun hh => hnl (S3.out hh))
        have d : x.length ≤ n := by omega
        clear hnl
        go_wp2
        exact HR.out _ _ ⟨by rw [HV.out], rfl⟩
    · obtain rfl : k = t.length := by omega
      have HV := Lib.hid (show hasF t n = true by have := HH.out; rw [List.take_length] at this; exact this)
      go_wp2
      exact HR.out _ _ ⟨by rw [HV.out]; rfl, rfl⟩
end Go.Proofs.Ytamhdlopchhdjaa

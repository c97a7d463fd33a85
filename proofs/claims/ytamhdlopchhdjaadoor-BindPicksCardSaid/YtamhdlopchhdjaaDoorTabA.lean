/- Tables of strings, as they lie in memory; what is great; how wide. -/
import Derived.Test.YtamhdlopchhdjaaDoorOpen
namespace Go.Proofs.YtamhdlopchhdjaaDoor
open Go.RowKit Go.ChangeShapes Go.WideShapes
set_option linter.unusedVariables false
set_option linter.unusedSimpArgs false

abbrev Row := List ByteArray
abbrev Tbl := List (List ByteArray)
def strV (l : Row) : List Value := l.map Value.string
/-- A row of strings. -/
structure RdS (w : World) (B : Nat) (v : Value) (l : Row) : Prop where
  is : ∃ A c, v = .slice A l.length c ∧ Sl w B 1 A l.length c (strV l)
/-- A table. -/
structure RdT (w : World) (B : Nat) (v : Value) (t : Tbl) : Prop where
  is : ∃ A c vs, v = .slice A t.length c ∧ Sl w B 1 A t.length c vs ∧ Each (RdS w B) vs t
section
variable {w w' : World} {B B' : Nat} {v : Value} {l : Row} {t : Tbl}
theorem RdS.below (h : RdS w B v l) (hb : Below B w w') : RdS w' B v l := by
  obtain ⟨A, c, h1, h2⟩ := h.is
  exact ⟨A, c, h1, h2.below hb⟩
theorem RdT.below (h : RdT w B v t) (hb : Below B w w') : RdT w' B v t := by
  obtain ⟨A, c, vs, h1, h2, h3⟩ := h.is
  exact ⟨A, c, vs, h1, h2.below hb, h3.imp fun _ _ h => h.below hb⟩
theorem RdS.more (h : RdS w B v l) (hb : B ≤ B') : RdS w B' v l := by
  obtain ⟨A, c, h1, h2⟩ := h.is
  exact ⟨A, c, h1, h2.more hb⟩
theorem RdT.more (h : RdT w B v t) (hb : B ≤ B') : RdT w B' v t := by
  obtain ⟨A, c, vs, h1, h2, h3⟩ := h.is
  exact ⟨A, c, vs, h1, h2.more hb, h3.imp fun _ _ h => h.more hb⟩
/-- What a walk reads at place k of a row. -/
theorem RdS.at (h : RdS w B v l) {k : Nat} (hk : k < l.length) : ∃ a c, v = .slice (some a) l.length c ∧ w.cell? (a.add k) = some (.string l[k]) := by
  obtain ⟨A, c, h1, h2⟩ := h.is
  obtain ⟨a, rfl⟩ := h2.some_ (by omega)
  refine ⟨a, c, h1, h2.cell a k _ rfl ?_⟩
  unfold strV
  rw [List.getElem?_map, List.getElem?_eq_getElem hk]
  rfl
theorem RdT.at (h : RdT w B v t) {k : Nat} (hk : k < t.length) : ∃ a c u, v = .slice (some a) t.length c ∧ w.cell? (a.add k) = some u ∧ RdS w B u t[k] := by
  obtain ⟨A, c, vs, h1, h2, h3⟩ := h.is
  obtain ⟨a, rfl⟩ := h2.some_ (by omega)
  obtain ⟨u, hu, hr⟩ := h3.got (List.getElem?_eq_getElem hk)
  exact ⟨a, c, u, h1, h2.cell a k _ rfl hu, hr⟩
theorem RdT.few (h : RdT w B v t) : t.length ≤ 140737488355328 := by
  obtain ⟨A, c, vs, h1, h2, h3⟩ := h.is
  exact h2.few
theorem RdS.few (h : RdS w B v l) : l.length ≤ 140737488355328 := by
  obtain ⟨A, c, h1, h2⟩ := h.is
  exact h2.few
end

def tot {α : Type} (f : α → Nat) (l : List α) : Nat := (l.map f).sum
theorem tot_take {α : Type} (f : α → Nat) (l : List α) {k : Nat} (hk : k < l.length) : tot f (l.take (k + 1)) = tot f (l.take k) + f l[k] := by
  unfold tot
  rw [List.take_succ_eq_append_getElem hk, List.map_append, List.sum_append]
  simp
theorem tot_all {α : Type} (f : α → Nat) (l : List α) : tot f (l.take l.length) = tot f l := by rw [List.take_length]
theorem le_sum : ∀ {l : List Nat} {x : Nat}, x ∈ l → x ≤ l.sum
  | a :: l, x, h => by
    rw [List.sum_cons]
    rcases List.mem_cons.1 h with rfl | h
    · omega
    · have := le_sum h; omega
def bytesR (r : Row) : Nat := tot ByteArray.size r

set_option maxHeartbeats 1000000 in
theorem great_any (v : Value) (t : Tbl) (R0 F0 B0 : Nat) (w : World) {B : Nat} (h : RdT w B v t) (hR : R0 ≤ 100000) (hF : F0 ≤ 100000) (hB : B0 ≤ 100000) :
    Calls Tryd.prog 35 #[v, .int .i64 R0, .int .i64 F0, .int .i64 B0] w fun e w' => (∃ g : Bool, e = .returned (.bool g) ∧ (g = false → t.length ≤ R0 ∧ tot List.length t ≤ F0 ∧ tot bytesR t ≤ B0)) ∧ w' = w := by
  refine cps fun R HR => ?_
  have h0 := h
  obtain ⟨A, c, vs, rfl, -, -⟩ := h.is
  have hfew := h.few
  go_enter Tryd.func35, Tryd.ntmps35
  by_cases hg : R0 < t.length
  · have d : decide ((R0 : Int) < t.length) = true := decide_eq_true (by omega)
    go_wp2
    exact HR.out _ _ ⟨⟨true, rfl, fun h => by cases h⟩, rfl⟩
  · have d : decide ((R0 : Int) < t.length) = false := decide_eq_false (by omega)
    go_wp2
    go_loopw [2, 3, 19] (fun f b i wr => ∃ k nf nb : Nat, k ≤ t.length ∧ i = .int .i64 k ∧ f = .int .i64 nf ∧ b = .int .i64 nb ∧ tot List.length (t.take k) + nf = F0 ∧ tot bytesR (t.take k) + nb = B0 ∧ wr = w) (fun _ _ i _ => t.length - (intOf i).toNat)
    case atStart => exact ⟨0, F0, B0, Nat.zero_le _, rfl, rfl, rfl, by simp [tot], by simp [tot], rfl⟩
    case round =>
      obtain ⟨k, nf, nb, hk, rfl, rfl, rfl, hf, hb, rfl⟩ := hrel
      have HF := Lib.hid hf; have HB := Lib.hid hb
      obtain ⟨w3, rfl⟩ : ∃ w3 : World, w3 = wr := ⟨_, rfl⟩
      by_cases hlt : k < t.length
      · obtain ⟨a, c', u, hv, hc, hu⟩ := h0.at hlt
        injection hv with hA _ hcc
        subst hA
        subst hcc
        obtain ⟨A2, c2, rfl, -⟩ := hu.is
        have hs1 := tot_take List.length t hlt
        have hs2 := tot_take bytesR t hlt
        obtain ⟨r, hr⟩ : ∃ r, r = t[k] := ⟨_, rfl⟩
        rw [← hr] at hu hs1 hs2 hc
        have S1 := Lib.hid hs1; have S2 := Lib.hid hs2
        have HRR := Lib.hid hr
        clear hr hs1 hs2 hf hb
        have hrf := hu.few
        have dk : decide ((k : Int) < t.length) = true := decide_eq_true (by omega)
        by_cases hg2 : nf < r.length
        · have d2 : decide ((nf : Int) < r.length) = true := decide_eq_true (by omega)
          go_wp2
          exact HR.out _ _ ⟨⟨true, rfl, fun h => by cases h⟩, rfl⟩
        · have d2 : decide ((nf : Int) < r.length) = false := decide_eq_false (by omega)
          have hnf : nf ≤ 100000 := by have := HF.out; omega
          have hw2 : ((nf : Int) - r.length) = ((nf - r.length : Nat) : Int) := by omega
          go_wp2
          go_loopw [3, 33] (fun b j wr => ∃ m mb : Nat, m ≤ r.length ∧ j = .int .i64 m ∧ b = .int .i64 mb ∧ tot ByteArray.size (r.take m) + mb = nb ∧ wr = w3) (fun _ j _ => r.length - (intOf j).toNat)
          case atStart => exact ⟨0, nb, Nat.zero_le _, rfl, rfl, by simp [tot], rfl⟩
          case round =>
            obtain ⟨m, mb, hm, rfl, rfl, hmb, rfl⟩ := hrel
            have HMB := Lib.hid hmb; clear hmb
            by_cases hlt2 : m < r.length
            · obtain ⟨a3, c3, hv3, hc3⟩ := hu.at hlt2
              injection hv3 with hA3 _ hcc3
              subst hA3
              subst hcc3
              have hs3 := tot_take ByteArray.size r hlt2
              obtain ⟨x, hx⟩ : ∃ x, x = r[m] := ⟨_, rfl⟩
              rw [← hx] at hc3 hs3
              have S3 := Lib.hid hs3; clear hs3 hx
              have dm : decide ((m : Int) < r.length) = true := decide_eq_true (by omega)
              by_cases hg3 : mb < x.size
              · have d3 : decide ((mb : Int) < x.size) = true := decide_eq_true (by omega)
                go_wp2
                exact HR.out _ _ ⟨⟨true, rfl, fun h => by cases h⟩, rfl⟩
              · have d3 : decide ((mb : Int) < x.size) = false := decide_eq_false (by omega)
                have hbb : mb ≤ 100000 := by have := HMB.out; have := HB.out; omega
                have hw : ((mb : Int) - x.size) = ((mb - x.size : Nat) : Int) := by omega
                have hn : tot ByteArray.size (r.take (m + 1)) + (mb - x.size) = nb := by have := HMB.out; have := S3.out; omega
                have HN := Lib.hid hn; clear hn
                go_wp2
                exact ⟨⟨m + 1, mb - x.size, by omega, by go_num, by go_num, HN.out, trivial⟩, by simp [intOf]; omega⟩
            · obtain rfl : m = r.length := by omega
              have hn1 : tot List.length (t.take (k + 1)) + (nf - r.length) = F0 := by have := HF.out; have := S1.out; omega
              have hn2 : tot bytesR (t.take (k + 1)) + mb = B0 := by
                have h1 := HB.out
                have h2 := S2.out
                have h3 := HMB.out
                rw [tot_all] at h3
                unfold bytesR at h1 h2 ⊢
                omega
              have N1 := Lib.hid hn1; have N2 := Lib.hid hn2
              clear hn1 hn2
              go_wp2
              exact ⟨⟨k + 1, nf - r.length, mb, by omega, by go_num, by go_num, by go_num, N1.out, N2.out, trivial⟩, by simp [intOf]; omega⟩
      · obtain rfl : k = t.length := by omega
        have hres : t.length ≤ R0 ∧ tot List.length t ≤ F0 ∧ tot bytesR t ≤ B0 := by
          have h1 := HF.out
          have h2 := HB.out
          rw [tot_all] at h1 h2
          exact ⟨by omega, by omega, by omega⟩
        have HRES := Lib.hid hres
        clear hres hf hb hlt
        go_wp2
        exact HR.out _ _ ⟨⟨false, rfl, fun _ => HRES.out⟩, rfl⟩
end Go.Proofs.YtamhdlopchhdjaaDoor

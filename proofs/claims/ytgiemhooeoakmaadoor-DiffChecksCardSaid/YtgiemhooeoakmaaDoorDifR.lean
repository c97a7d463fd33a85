/- Layer 25, the law: is a case short? How a case is opened. -/
import Derived.Test.YtgiemhooeoakmaaDoorDifI
import Derived.Test.YtgiemhooeoakmaaDoorRowD
import Derived.Test.YtgiemhooeoakmaaDoorTabG
namespace Go.Proofs.YtgiemhooeoakmaaDoor
open Go.RowKit Go.ChangeShapes Go.WideShapes
set_option linter.unusedVariables false
set_option linter.unusedSimpArgs false

set_option maxHeartbeats 4000000 in
set_option maxRecDepth 100000 in
theorem fits25_any (v1 u1 v2 u2 z : Value) (la lb : List Col) (ta tb : VTab) (keys : Row) (w : World) (h1 : RdC w w.heap.size v1 la) (h2 : RdVT w w.heap.size u1 ta) (h3 : RdC w w.heap.size v2 lb) (h4 : RdVT w w.heap.size u2 tb) (hu : RdS w w.heap.size z keys) :
    Calls Tryd.prog 14 #[.agg #[v1, u1, v2, u2, z]] w fun e w' => (∃ g : Bool, e = .returned (.bool g) ∧ (g = true → (∀ k ∈ keys, k.size ≤ 100) ∧ fewTab la ta ∧ fewTab lb tb ∧ keys.length ≤ 12)) ∧ Below w.heap.size w w' := by
  refine cps fun R HR => ?_
  have g1 := h1; have g2 := h2; have g3 := h3; have g4 := h4; have hu0 := hu
  obtain ⟨A1, c1, rfl, -⟩ := h1.is
  obtain ⟨A2, c2, vs, rfl, -, -⟩ := h2.is
  obtain ⟨A3, c3, rfl, -⟩ := h3.is
  obtain ⟨A4, c4, vs', rfl, -, -⟩ := h4.is
  obtain ⟨A5, c5, rfl, -⟩ := hu.is
  have hfk := hu0.few
  clear h1 h2 h3 h4 hu
  obtain ⟨w0, hw0⟩ : ∃ w0, w0 = w.alloc (.cells #[.slice A1 la.length c1, .slice A2 ta.length c2, .slice A3 lb.length c3, .slice A4 tb.length c4, .slice A5 keys.length c5] 28) := ⟨_, rfl⟩
  have bw0 : Below w.heap.size w w0 := by rw [hw0]; exact (Below.refl _ _).alloc (Nat.le_refl _) _
  have X := Box.new w 28 #[.slice A1 la.length c1, .slice A2 ta.length c2, .slice A3 lb.length c3, .slice A4 tb.length c4, .slice A5 keys.length c5]
  rw [← hw0] at X
  have x4 := X.cell 4
  simp at x4
  have HX := Lib.hid X; have HW0 := Lib.hid hw0; have HB0 := Lib.hid bw0
  clear X hw0 bw0
  go_enter Tryd.func14, Tryd.ntmps14
  go_wp2
  rw [← HW0.out]
  go_loopw [8] (fun i wr => ∃ k : Nat, k ≤ keys.length ∧ i = .int .i64 k ∧ (∀ x ∈ keys.take k, x.size ≤ 100) ∧ wr = w0) (fun i _ => keys.length - (intOf i).toNat)
  case atStart => exact ⟨0, Nat.zero_le _, rfl, (fun x hx => by simp at hx), rfl⟩
  case round =>
    obtain ⟨k, hk, rfl, hN, rfl⟩ := hrel
    have HN := Lib.hid hN
    clear hN
    by_cases hlt : k < keys.length
    · obtain ⟨p, c6, hv, hc⟩ := (hu0.next HB0.out).at hlt
      injection hv with hA hln hcc
      subst hA
      subst hcc
      clear hln
      have hs1 : keys.take (k + 1) = keys.take k ++ [keys[k]] := List.take_succ_eq_append_getElem hlt
      obtain ⟨x, hx⟩ : ∃ x, x = keys[k] := ⟨_, rfl⟩
      rw [← hx] at hc hs1
      have S1 := Lib.hid hs1
      clear hx hs1
      have dk : decide ((k : Int) < keys.length) = true := decide_eq_true (by omega)
      by_cases hx : x.size ≤ 100
      · have d : decide ((x.size : Int) > 100) = false := decide_eq_false (by omega)
        have hn : ∀ y ∈ keys.take (k + 1), y.size ≤ 100 := by
          rw [S1.out]
          intro y hy
          rcases List.mem_append.1 hy with hy | hy
          · exact HN.out y hy
          · rw [List.mem_singleton.1 hy]; exact hx
        have HNN := Lib.hid hn
        have d2 : ¬ (100 : Int) < x.size := by omega
        have d3 : decide ((100 : Int) < x.size) = false := decide_eq_false d2
        clear hn hx
        go_wp2
        exact ⟨⟨k + 1, by omega, by go_num, HNN.out, trivial⟩, by simp [intOf]; omega⟩
      · have d3 : decide ((100 : Int) < x.size) = true := decide_eq_true (by omega)
        clear hx
        go_wp2
        exact HR.out _ _ ⟨⟨false, rfl, fun h => by cases h⟩, HB0.out⟩
    · have hn : ∀ y ∈ keys, y.size ≤ 100 := by
        have := HN.out
        rw [List.take_of_length_le (by omega)] at this
        exact this
      have HNN := Lib.hid hn
      have x0 := HX.out.cell 0
      have x1 := HX.out.cell 1
      simp at x0 x1
      clear hn
      go_wp2_with fail
      refine (few23_any _ _ la ta _ (RdF.next g1 HB0.out) (RdE.next (RdF.stays valV 4) g2 HB0.out)).mono ?_
      rintro e w1 ⟨⟨g, rfl, hg⟩, b1⟩
      have bw1 := HB0.out.trans (b1.mono HB0.out.size)
      have X1 := HX.out.below b1 HX.out.lt
      have y2 := X1.cell 2
      have y3 := X1.cell 3
      simp at y2 y3
      clear x0 x1 x4
      cases g
      · clear hg
        go_wp2
        exact HR.out _ _ ⟨⟨false, rfl, fun h => by cases h⟩, bw1⟩
      · have HG := Lib.hid (hg rfl)
        clear hg
        go_wp2_with fail
        refine (few23_any _ _ lb tb _ (RdF.next g3 bw1) (RdE.next (RdF.stays valV 4) g4 bw1)).mono ?_
        rintro e w2 ⟨⟨g, rfl, hg⟩, b2⟩
        have bw2 := bw1.trans (b2.mono bw1.size)
        have X2 := X1.below b2 X1.lt
        have z4 := X2.cell 4
        simp at z4
        clear y2 y3
        cases g
        · clear hg
          go_wp2
          exact HR.out _ _ ⟨⟨false, rfl, fun h => by cases h⟩, bw2⟩
        · have HG2 := Lib.hid (hg rfl)
          clear hg
          by_cases hk2 : keys.length ≤ 12
          · have d : decide ((keys.length : Int) ≤ 12) = true := decide_eq_true (by omega)
            go_wp2
            exact HR.out _ _ ⟨⟨_, rfl, fun _ => ⟨HNN.out, HG.out, HG2.out, hk2⟩⟩, bw2⟩
          · have d : decide ((keys.length : Int) ≤ 12) = false := decide_eq_false (by omega)
            go_wp2
            exact HR.out _ _ ⟨⟨false, rfl, fun h => by cases h⟩, bw2⟩
section
variable {H : Type} {enc : TypeId × Value → H} {w : World} {base : Nat} {spare : Nat → Bool} {held : Bool}
set_option maxRecDepth 100000 in
theorem open_colsF {fuel : Nat} {v : Value} {x : DataW H × List MemPlace} (hf : DataW.trod enc Tryd.prog w base spare held fuel 22 [v] = some x) (hsz : Sized Tryd.prog 22 x.1) : ∃ l, RdC w w.heap.size v l := by
  obtain ⟨A, n, c, xs, h1, h2, h3⟩ := open_sl (size := 3) Tryd.underlying22 (by kernel_rfl) (by omega) (of_decide_eq_true (by kernel_rfl)) hf hsz
  obtain ⟨l, hl, rfl⟩ : ∃ l : List Col, l.length = n ∧ xs = l.flatMap colV := by
    have key : ∀ k, k ≤ n → ∃ l : List Col, l.length = k ∧ xs.take (k * 3) = l.flatMap colV := by
      intro k
      induction k with
      | zero => exact fun _ => ⟨[], rfl, by simp⟩
      | succ k ih =>
        intro hk
        obtain ⟨l, hl, he⟩ := ih (by omega)
        obtain ⟨f, y, hy, -⟩ := h3 k (by omega)
        obtain ⟨c, hc⟩ := open_col hy
        refine ⟨l ++ [c], by simp [hl], ?_⟩
        rw [List.flatMap_append, ← he, Nat.succ_mul, List.take_add, hc]
        simp
    obtain ⟨l, hl, he⟩ := key n (Nat.le_refl _)
    exact ⟨l, hl, by rw [← he, List.take_of_length_le (by rw [h2.len]; exact Nat.le_refl _)]⟩
  subst hl
  exact ⟨l, A, c, h1, h2⟩
set_option maxRecDepth 100000 in
theorem open_tabF {fuel : Nat} {a b : Value} {x : DataW H × List MemPlace} (hf : DataW.trod enc Tryd.prog w base spare held fuel 25 [a, b] = some x) (hsz : Sized Tryd.prog 25 x.1) : ∃ l t, RdC w w.heap.size a l ∧ RdVT w w.heap.size b t := by
  obtain ⟨y0, y1, n, rfl, hl, h0, h1⟩ := trod_struct2 Tryd.underlying25 hf
  have c1 : Tryd.prog.cellsOf 22 = 1 := by kernel_rfl
  have c2 : Tryd.prog.cellsOf 23 = 1 := by kernel_rfl
  simp only [c1, c2] at h0 h1
  obtain ⟨l, hl⟩ := open_colsF (v := a) (by simpa using h0) (hsz.field Tryd.underlying25 (i := 0) rfl rfl)
  obtain ⟨t, ht⟩ := open_vtab (v := b) (by simpa using h1) (hsz.field Tryd.underlying25 (i := 1) rfl rfl)
  exact ⟨l, t, hl, ht⟩
theorem array5 {cs : Array Value} (h : cs.size = 5) : ∃ a b c d e, cs = #[a, b, c, d, e] := by
  obtain ⟨l⟩ := cs
  match l, h with
  | [a, b, c, d, e], _ => exact ⟨a, b, c, d, e, rfl⟩
theorem array2 {cs : Array Value} (h : cs.size = 2) : ∃ a b, cs = #[a, b] := by
  obtain ⟨l⟩ := cs
  match l, h with
  | [a, b], _ => exact ⟨a, b, rfl⟩
set_option maxRecDepth 100000 in
theorem open_case25 {v : Value} {d : DataW H} {p : List MemPlace} {r : Reach} {b0 : Nat} (hv : Value.okWide Tryd.prog w r b0 28 v) (h : DataW.Trod enc Tryd.prog w base spare held 28 v d p) (hsz : Sized Tryd.prog 28 d) :
    ∃ v1 u1 v2 u2 z la ta lb tb keys, v = .agg #[v1, u1, v2, u2, z] ∧ RdC w w.heap.size v1 la ∧ RdVT w w.heap.size u1 ta ∧ RdC w w.heap.size v2 lb ∧ RdVT w w.heap.size u2 tb ∧ RdS w w.heap.size z keys := by
  obtain ⟨cs, rfl, hs⟩ := okWide_struct Tryd.underlying28 hv
  obtain ⟨v1, u1, v2, u2, z, rfl⟩ := array5 (hs.trans (by kernel_rfl))
  obtain ⟨fuel, hf⟩ := h
  obtain ⟨y0, y1, y2, n, hx, _, h0, h1, h2⟩ := Go.Deep.trod_struct3 Tryd.underlying28 hf
  have c1 : Tryd.prog.cellsOf 25 = 2 := by kernel_rfl
  have c2 : Tryd.prog.cellsOf 26 = 1 := by kernel_rfl
  simp only [c1, c2] at h0 h1 h2
  simp only [Prod.mk.injEq] at hx
  obtain ⟨rfl, rfl⟩ := hx
  obtain ⟨la, ta, q1, q2⟩ := open_tabF (a := v1) (b := u1) (by simpa [Value.cells] using h0) (hsz.field Tryd.underlying28 (i := 0) rfl rfl)
  obtain ⟨lb, tb, q3, q4⟩ := open_tabF (a := v2) (b := u2) (by simpa [Value.cells] using h1) (hsz.field Tryd.underlying28 (i := 1) rfl rfl)
  obtain ⟨keys, q5⟩ := open_strs (v := z) (by simpa [Value.cells] using h2) (hsz.field Tryd.underlying28 (i := 2) rfl rfl)
  exact ⟨v1, u1, v2, u2, z, la, ta, lb, tb, keys, rfl, q1, q2, q3, q4, q5⟩
end
end Go.Proofs.YtgiemhooeoakmaaDoor

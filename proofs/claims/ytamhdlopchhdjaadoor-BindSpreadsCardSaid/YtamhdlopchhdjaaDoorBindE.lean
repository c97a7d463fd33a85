/- Layer 19: Pick, and the reference's; rows of ints that came in. -/
import Derived.Test.YtamhdlopchhdjaaDoorBindD
namespace Go.Proofs.YtamhdlopchhdjaaDoor
open Go.RowKit Go.ChangeShapes Go.WideShapes
set_option linter.unusedVariables false
set_option linter.unusedSimpArgs false

theorem each_ints : ∀ (vs : List Value) (l : List Int), Each (fun u s => u = Value.int .i64 s) vs l → vs = intV l := by
  intro vs l h
  unfold intV
  apply List.ext_getElem?
  intro i
  rw [List.getElem?_map]
  cases hl : l[i]? with
  | none =>
    have := h.len
    rw [List.getElem?_eq_none_iff] at hl
    rw [List.getElem?_eq_none (by omega)]
    rfl
  | some s =>
    obtain ⟨u, hu, hr⟩ := h.got hl
    rw [hu, hr]
    rfl
theorem open_intsV {H : Type} {enc : TypeId × Value → H} {w : World} {base : Nat} {spare : Nat → Bool} {held : Bool} {v : Value} {d : DataW H} {p : List MemPlace} {r : Reach} {b0 : Nat} (hv : Value.okWide Tryd.prog w r b0 37 v) (h : DataW.Trod enc Tryd.prog w base spare held 37 v d p) (hsz : Sized Tryd.prog 37 d) :
    ∃ l, RdI w w.heap.size v l := by
  obtain ⟨A0, n0, c0, rfl⟩ := okWide_slice Tryd.underlying37 hv
  obtain ⟨fuel, hf⟩ := h
  obtain ⟨A, n, c, vs, l, h1, hs, hl⟩ := open_ones (R := fun u s => u = Value.int .i64 s) Tryd.underlying37 (by kernel_rfl) (of_decide_eq_true (by kernel_rfl)) hf hsz (fun u f y hy hz => by
    obtain ⟨s, h1, -, -⟩ := DataW.trod_int Tryd.underlying3 hy
    injection h1 with h1
    exact ⟨s, h1⟩)
  have hvs := each_ints vs l hl
  subst hvs
  have hn : n = l.length := by have := hs.len; rw [intV_len] at this; omega
  subst hn
  exact ⟨l, A, c, h1, hs⟩
def negI (l : List Int) : Bool := l.any fun p => decide (p < 0)
def overI (n : Nat) (l : List Int) : Bool := l.any fun p => decide ((n : Int) ≤ p)
def pickR (r : Row) (l : List Int) : Row := l.map fun p => r.getD p.toNat ⟨#[]⟩
/-- What Pick tells: the fields, the error's number. -/
def pickF (r : Row) (l : List Int) : Row × Nat := if negI l then ([], 22) else if overI r.length l then ([], 10) else (pickR r l, 0)
theorem negI_snoc (l : List Int) {k : Nat} (hk : k < l.length) : negI (l.take (k + 1)) = (negI (l.take k) || decide (l[k] < 0)) := by
  unfold negI
  rw [List.take_succ_eq_append_getElem hk, List.any_append]
  simp
theorem overI_snoc (n : Nat) (l : List Int) {k : Nat} (hk : k < l.length) : overI n (l.take (k + 1)) = (overI n (l.take k) || decide ((n : Int) ≤ l[k])) := by
  unfold overI
  rw [List.take_succ_eq_append_getElem hk, List.any_append]
  simp
theorem pickR_snoc (r : Row) (l : List Int) {k : Nat} (hk : k < l.length) : pickR r (l.take (k + 1)) = pickR r (l.take k) ++ [r.getD (l[k]).toNat ⟨#[]⟩] := by
  unfold pickR
  rw [List.take_succ_eq_append_getElem hk, List.map_append]
  rfl
theorem negI_at {l : List Int} {k : Nat} (hk : k < l.length) (h : l[k] < 0) : negI l = true := List.any_eq_true.2 ⟨_, List.getElem_mem hk, decide_eq_true h⟩
theorem overI_at {n : Nat} {l : List Int} {k : Nat} (hk : k < l.length) (h : (n : Int) ≤ l[k]) : overI n l = true := List.any_eq_true.2 ⟨_, List.getElem_mem hk, decide_eq_true h⟩
def badI (b : Bool) : Nat := if b then 10 else 0
/-- The fields at those places that there are. -/
def pickS (r : Row) (l : List Int) : Row := (l.filter fun p : Int => decide (p < r.length)).map fun p : Int => r.getD p.toNat ⟨#[]⟩
theorem pickS_snoc (r : Row) (l : List Int) {k : Nat} (hk : k < l.length) : pickS r (l.take (k + 1)) = if l[k] < r.length then pickS r (l.take k) ++ [r.getD (l[k]).toNat ⟨#[]⟩] else pickS r (l.take k) := by
  unfold pickS
  rw [List.take_succ_eq_append_getElem hk, List.filter_append, List.map_append]
  by_cases h : l[k] < r.length
  · rw [if_pos h, List.filter_cons_of_pos (by simpa using h)]
    rfl
  · rw [if_neg h, List.filter_cons_of_neg (by simpa using h)]
    simp
theorem pickS_all {r : Row} {l : List Int} (h : overI r.length l = false) : pickS r l = pickR r l := by
  unfold pickS pickR
  rw [List.filter_eq_self.2]
  intro p hp
  unfold overI at h
  rw [List.any_eq_false] at h
  have := h p hp
  simp at this ⊢
  omega
set_option maxHeartbeats 2000000 in
theorem bpick_any (v u : Value) (r : Row) (l : List Int) (w : World) (h : RdS w w.heap.size v r) (hu : RdI w w.heap.size u l) (hl : l.length ≤ 100000) :
    Calls Tryd.prog 31 #[v, u] w fun e w' => ∃ o, e = .returned (.tuple #[o, .int .i64 (pickF r l).2]) ∧ Own w' w.heap.size 9 1 o (pickF r l).1.length (strV (pickF r l).1) ∧ Below w.heap.size w w' := by
  refine cps fun R HR => ?_
  obtain ⟨i0, hi0, hz0, hz1, hz2⟩ := info_parts str_info
  have h0 := h
  have hu0 := hu
  obtain ⟨A, c, rfl, -⟩ := h.is
  obtain ⟨A2, c2, rfl, -⟩ := hu.is
  have hfr := h0.few
  have hfl := hu0.few
  clear h hu
  obtain ⟨Y, hY⟩ : ∃ Y, Y = pickF r l := ⟨_, rfl⟩
  rw [← hY] at HR
  unfold pickF at hY
  have HY := Lib.hid hY
  clear hY
  go_enter Tryd.func31, Tryd.ntmps31
  go_wp2
  go_loopw [6, 7, 12] (fun o b i wr => ∃ k : Nat, k ≤ l.length ∧ i = .int .i64 k ∧ negI (l.take k) = false ∧ b = .int .i64 (badI (overI r.length (l.take k))) ∧ (pickS r (l.take k)).length ≤ k ∧ Own wr w.heap.size 9 1 o (pickS r (l.take k)).length (strV (pickS r (l.take k))) ∧ Below w.heap.size w wr) (fun _ _ i _ => l.length - (intOf i).toNat)
  case atStart => exact ⟨0, Nat.zero_le _, rfl, rfl, rfl, Nat.zero_le _, Own.nil_ _ _ _ _, Below.refl _ _⟩
  case round =>
    obtain ⟨k, hk, rfl, hN, rfl, hm, hO, hB⟩ := hrel
    have HN := Lib.hid hN
    clear hN
    by_cases hlt : k < l.length
    · obtain ⟨p, c3, hv, hc⟩ := (hu0.below hB).at hlt
      injection hv with hA _ hcc
      subst hA
      subst hcc
      have hs1 := negI_snoc l hlt
      have hs2 := overI_snoc r.length l hlt
      have hs3 := pickS_snoc r l hlt
      have hs4 : l[k] < 0 → negI l = true := negI_at hlt
      obtain ⟨x, hx⟩ : ∃ x, x = l[k] := ⟨_, rfl⟩
      rw [← hx] at hc hs1 hs2 hs3 hs4
      obtain ⟨o0, ho0⟩ : ∃ o0, o0 = overI r.length (l.take k) := ⟨_, rfl⟩
      rw [← ho0] at hs2 ⊢
      obtain ⟨P, hP⟩ : ∃ P, P = pickS r (l.take k) := ⟨_, rfl⟩
      rw [← hP] at hs3 hO hm
      have S1 := Lib.hid hs1; have S2 := Lib.hid hs2; have S3 := Lib.hid hs3; have S4 := Lib.hid hs4; have HO0 := Lib.hid ho0; have HP := Lib.hid hP
      clear hx hs1 hs2 hs3 hs4 ho0 hP
      have dk : decide ((k : Int) < l.length) = true := decide_eq_true (by omega)
      by_cases hneg : x < 0
      · have hy := HY.out
        rw [S4.out hneg, if_pos rfl] at hy
        subst hy
        have dn : decide (x < 0) = true := decide_eq_true hneg
        clear hneg
        go_wp2
        exact HR.out _ _ ⟨_, rfl, Own.nil_ _ _ _ _, hB⟩
      · obtain ⟨n, rfl⟩ := Int.eq_ofNat_of_zero_le (a := x) (by omega)
        have hn2 : negI (l.take (k + 1)) = false := by rw [S1.out, HN.out, decide_eq_false hneg]; rfl
        have N2 := Lib.hid hn2
        have dn : decide ((n : Int) < 0) = false := decide_eq_false hneg
        clear hneg hn2
        by_cases hov : r.length ≤ n
        · have ho2 : overI r.length (l.take (k + 1)) = true := by rw [S2.out, decide_eq_true (by omega)]; simp
          have hp2 : pickS r (l.take (k + 1)) = P := by rw [S3.out, if_neg (by omega)]
          have do_ : decide (r.length ≤ n) = true := decide_eq_true hov
          have O2 := Lib.hid ho2; have P2 := Lib.hid hp2
          clear ho2 hp2
          go_wp2
          exact ⟨⟨k + 1, by omega, by go_num, N2.out, by rw [O2.out]; rfl, by rw [P2.out]; omega, by rw [P2.out]; exact hO, hB⟩, by simp [intOf]; omega⟩
        · have hltr : n < r.length := by omega
          obtain ⟨pr, c4, hvr, hcr⟩ := (h0.below hB).at hltr
          injection hvr with hA _ hcc
          subst hA
          subst hcc
          have ho2 : overI r.length (l.take (k + 1)) = o0 := by rw [S2.out, decide_eq_false (by omega)]; simp
          have hg : r.getD n ⟨#[]⟩ = r[n] := by rw [List.getD_eq_getElem?_getD, List.getElem?_eq_getElem hltr]; rfl
          have hp2 : pickS r (l.take (k + 1)) = P ++ [r[n]] := by rw [S3.out, if_pos (by omega), Int.toNat_natCast, hg]
          obtain ⟨s, hs⟩ : ∃ s, s = r[n] := ⟨_, rfl⟩
          rw [← hs] at hcr hp2
          have do_ : decide (r.length ≤ n) = false := decide_eq_false hov
          have hltI : (n : Int) < r.length := by omega
          have O2 := Lib.hid ho2; have P2 := Lib.hid hp2
          have hPm : P.length ≤ 100000 := by omega
          clear ho2 hp2 hg hs hov
          go_wp2_with (at_builtin; refine wpList_push rfl _ _ _ rfl w.heap.size 9 i0 _ 16 Tryd.underlying22 hi0 hz0 hz1 hz2 rfl (by omega) u6 P.length _ (.string s) rfl hO rfl rfl (by omega) hB.size ?_; intro v5 w5 hown5 hg5 hat5)
          exact ⟨⟨k + 1, by omega, by go_num, N2.out, by rw [O2.out]; try rfl, by rw [P2.out, List.length_append]; simp; omega, by rw [P2.out, List.length_append, strV_snoc]; exact hown5, below_grown hB hg5 (fun g hg => (hO.lt g hg).1) hB.size⟩, by simp [intOf]; omega⟩
    · obtain rfl : k = l.length := by omega
      rw [List.take_length] at hO hm ⊢
      have hn := HN.out
      rw [List.take_length] at hn
      have hy := HY.out
      rw [hn, if_neg (by simp)] at hy
      have HY2 := Lib.hid hy
      clear hy hlt
      obtain ⟨o0, ho0⟩ : ∃ o0, o0 = overI r.length l := ⟨_, rfl⟩
      have HO0 := Lib.hid ho0
      rw [← ho0]
      clear ho0
      cases o0
      · have hy := HY2.out
        rw [← HO0.out, if_neg (by simp)] at hy
        subst hy
        have hps := pickS_all HO0.out.symm
        rw [hps] at hO
        have e0 : badI false = 0 := rfl
        rw [e0]
        clear hps hn e0 HN HY HY2
        go_wp2
        exact HR.out _ _ ⟨_, rfl, hO, hB⟩
      · have hy := HY2.out
        rw [← HO0.out, if_pos rfl] at hy
        subst hy
        have e0 : badI true = 10 := rfl
        rw [e0]
        clear hn e0 HN HY HY2
        go_wp2
        exact HR.out _ _ ⟨_, rfl, Own.nil_ _ _ _ _, hB⟩
end Go.Proofs.YtamhdlopchhdjaaDoor

/- Layer 19: Spread, and the reference's. -/
import Derived.Test.YtamhdlopchhdjaaDoorBindF
namespace Go.Proofs.YtamhdlopchhdjaaDoor
open Go.RowKit Go.ChangeShapes Go.WideShapes
set_option linter.unusedVariables false
set_option linter.unusedSimpArgs false

theorem RdI.take {w : World} {B k c : Nat} {A : Option Addr} {l : List Int} (h : RdI w B (.slice A l.length c) l) (hk : k ≤ l.length) : RdI w B (.slice A k c) (l.take k) := by
  obtain ⟨A', c', h1, h2⟩ := h.is
  injection h1 with hA _ hc
  subst hA
  subst hc
  have hkl : (l.take k).length = k := by rw [List.length_take]; omega
  refine ⟨A, c, by rw [hkl], ⟨by rw [intV_len, Nat.mul_one], by rw [hkl]; have := h2.cap; omega, h2.most, by rw [hkl]; have := h2.few; omega, fun hA => by rw [hkl]; have := h2.nil hA; omega, fun hn => h2.low (by rw [hkl] at hn; omega), fun a j u hA hu => h2.cell a j u hA ?_⟩⟩
  unfold intV at hu ⊢
  rw [List.getElem?_map] at hu ⊢
  by_cases hj : j < k
  · rw [List.getElem?_take, if_pos hj] at hu
    exact hu
  · rw [List.getElem?_take, if_neg hj] at hu
    simp at hu
theorem RdI.cap {w : World} {B c : Nat} {A : Option Addr} {n : Nat} {l : List Int} (h : RdI w B (.slice A n c) l) : l.length ≤ c := by
  obtain ⟨A', c', h1, h2⟩ := h.is
  injection h1 with _ _ hc
  subst hc
  exact h2.cap
theorem made_strs (n : Nat) : (madeCells (Value.string ⟨#[]⟩).cells (n * 1)).toList = strV (List.replicate n ⟨#[]⟩) := by
  unfold madeCells strV
  apply List.ext_getElem?
  intro i
  rw [Nat.mul_one, List.map_replicate, Array.getElem?_toList, Array.getElem?_map, List.getElem?_replicate]
  by_cases hi : i < n
  · rw [Array.getElem?_range, if_pos hi, if_pos hi]
    have hc : (Value.string ⟨#[]⟩).cells = #[.string ⟨#[]⟩] := rfl
    rw [hc]
    simp [Nat.mod_one]
  · rw [Array.getElem?_range, if_neg hi, if_neg hi]
    rfl
theorem okPl_take {W : Int} : ∀ (l : List Int) (k : Nat) (hk : k < l.length), okPl W (l.take k) (l.drop k) = if l[k] < 0 ∨ W ≤ l[k] ∨ l[k] ∈ l.take k then false else okPl W (l.take (k + 1)) (l.drop (k + 1)) := by
  intro l k hk
  rw [List.drop_eq_getElem_cons hk, okPl, List.take_succ_eq_append_getElem hk]
set_option maxHeartbeats 4000000 in
theorem spread_any (v u : Value) (r : Row) (l : List Int) (W : Int) (w : World) (h : RdS w w.heap.size v r) (hu : RdI w w.heap.size u l) (hl : l.length ≤ 100000) :
    Calls Tryd.prog 33 #[v, u, .int .i64 W] w fun e w' => ∃ o, e = .returned (.tuple #[o, .int .i64 (spreadF r l W).2]) ∧ Own w' w.heap.size 9 1 o (spreadF r l W).1.length (strV (spreadF r l W).1) ∧ Below w.heap.size w w' := by
  refine cps fun R HR => ?_
  obtain ⟨i0, hi0, hz0, hz1, hz2⟩ := info_parts str_info
  have h0 := h
  have hu0 := hu
  obtain ⟨A, c, rfl, -⟩ := h.is
  obtain ⟨A2, c2, rfl, -⟩ := hu.is
  have hfr := h0.few
  have hfl := hu0.few
  have hcap := hu0.cap
  clear h hu
  obtain ⟨Y, hY⟩ : ∃ Y, Y = spreadF r l W := ⟨_, rfl⟩
  rw [← hY] at HR
  unfold spreadF at hY
  have HY := Lib.hid hY
  clear hY
  go_enter Tryd.func33, Tryd.ntmps33
  by_cases hW : W < 0 ∨ 65536 < W
  · have hy := HY.out
    rw [if_pos hW] at hy
    subst hy
    rcases hW with hW | hW
    · have d1 : decide (W < 0) = true := decide_eq_true hW
      clear hW
      go_wp2
      exact HR.out _ _ ⟨_, rfl, Own.nil_ _ _ _ _, Below.refl _ _⟩
    · have d1 : decide (W < 0) = false := decide_eq_false (by omega)
      have d2 : decide (65536 < W) = true := decide_eq_true hW
      clear hW
      go_wp2
      exact HR.out _ _ ⟨_, rfl, Own.nil_ _ _ _ _, Below.refl _ _⟩
  · have d1 : decide (W < 0) = false := decide_eq_false (by omega)
    have d2 : decide (65536 < W) = false := decide_eq_false (by omega)
    have hy := HY.out
    rw [if_neg hW] at hy
    obtain ⟨n, rfl⟩ := Int.eq_ofNat_of_zero_le (a := W) (by omega)
    rw [Int.toNat_natCast] at hy
    have hn : n ≤ 65536 := by omega
    have HY2 := Lib.hid hy
    clear hy HY hW
    go_wp2
    go_loopw [21] (fun i wr => ∃ k : Nat, k ≤ l.length ∧ i = .int .i64 k ∧ okPl n (l.take k) (l.drop k) = okPl n [] l ∧ wr = w) (fun i _ => l.length - (intOf i).toNat)
    case atStart => exact ⟨0, Nat.zero_le _, rfl, rfl, rfl⟩
    case round =>
      obtain ⟨k, hk, rfl, hN, rfl⟩ := hrel
      have HN := Lib.hid hN
      clear hN
      by_cases hlt : k < l.length
      · obtain ⟨p, c3, hv, hc⟩ := hu0.at hlt
        injection hv with hA _ hcc
        subst hA
        subst hcc
        have hs1 := okPl_take (W := (n : Int)) l k hlt
        have htk := hu0.take (k := k) (by omega)
        obtain ⟨x, hx⟩ : ∃ x, x = l[k] := ⟨_, rfl⟩
        rw [← hx] at hc hs1
        have S1 := Lib.hid hs1
        clear hx hs1
        have hkc : k ≤ c2 := by omega
        have hc0 : ¬ c2 = 0 := by omega
        have dk : decide ((k : Int) < l.length) = true := decide_eq_true (by omega)
        have bad : (x < 0 ∨ (n : Int) ≤ x ∨ x ∈ l.take k) → okPl n [] l = false := fun hb => by rw [← HN.out, S1.out, if_pos hb]
        by_cases hneg : x < 0
        · have hy := HY2.out
          rw [bad (.inl hneg), if_pos rfl] at hy
          subst hy
          have dn : decide (x < 0) = true := decide_eq_true hneg
          clear hneg bad
          go_wp2
          exact HR.out _ _ ⟨_, rfl, Own.nil_ _ _ _ _, Below.refl _ _⟩
        · have dn : decide (x < 0) = false := decide_eq_false hneg
          by_cases hov : (n : Int) ≤ x
          · have hy := HY2.out
            rw [bad (.inr (.inl hov)), if_pos rfl] at hy
            subst hy
            have dn : decide ((n : Int) ≤ x) = true := decide_eq_true hov
            clear hneg bad
            go_wp2
            exact HR.out _ _ ⟨_, rfl, Own.nil_ _ _ _ _, Below.refl _ _⟩
          · have do_ : decide ((n : Int) ≤ x) = false := decide_eq_false hov
            obtain ⟨tw, htw⟩ : ∃ tw, tw = decide (x ∈ l.take k) := ⟨_, rfl⟩
            have HTW := Lib.hid htw; have BAD := Lib.hid bad
            have hno2 : ¬ (x < 0 ∨ (n : Int) ≤ x) := by omega
            have HNO := Lib.hid hno2
            clear htw bad hno2
            go_wp2_with fail
            refine (containsInt_any _ (l.take k) x _ htk).mono ?_
            rintro e w5 ⟨rfl, rfl⟩
            rw [← HTW.out]
            cases tw
            · have hn2 : okPl n (l.take (k + 1)) (l.drop (k + 1)) = okPl n [] l := by
                have := HN.out
                rw [S1.out, if_neg (fun hh => by
                  rcases hh with hh | hh | hh
                  · exact HNO.out (.inl hh)
                  · exact HNO.out (.inr hh)
                  · exact of_decide_eq_false HTW.out.symm hh)] at this
                exact this
              have N2 := Lib.hid hn2
              clear hn2
              go_wp2
              exact ⟨⟨k + 1, by omega, by go_num, N2.out, trivial⟩, by simp [intOf]; omega⟩
            · have hy := HY2.out
              rw [BAD.out (.inr (.inr (of_decide_eq_true HTW.out.symm))), if_pos rfl] at hy
              subst hy
              go_wp2
              exact HR.out _ _ ⟨_, rfl, Own.nil_ _ _ _ _, Below.refl _ _⟩
      · obtain rfl : k = l.length := by omega
        have hok : okPl n [] l = true := by rw [← HN.out, List.drop_length, okPl]
        have hy := HY2.out
        rw [hok, if_neg (by simp)] at hy
        have HY3 := Lib.hid hy; have HOK := Lib.hid hok
        clear hlt hy hok HY2 HN
        by_cases hrl : r.length = l.length
        · have hy := HY3.out
          rw [if_pos hrl] at hy
          subst hy
          have dl : ((r.length : Int) != (l.length : Int)) = false := by simp [hrl]
          have HRL := Lib.hid hrl
          clear hrl
          obtain ⟨w1, rfl⟩ : ∃ w1 : World, w1 = wr := ⟨_, rfl⟩
          go_wp2_with (at_make; refine wpList_make_full _ rfl _ _ _ rfl w1.heap.size 9 i0 _ 1 Tryd.underlying22 hi0 hz0 hz1 .i64 .i64 _ _ n rfl rfl rfl rfl (by rw [hz2]; omega) (by unfold maxLen; omega) (Nat.le_refl _) ?_; intro w2 hown2 hg2)
          rw [made_strs] at hown2
          have ho2 := Own.of_owns hown2 (by omega)
          have hb2 : Below w1.heap.size w1 w2 := below_grown (Below.refl _ _) hg2 (fun _ e => by cases e) (Nat.le_refl _)
          clear hown2 hg2
          go_loopw [50] (fun i wr => ∃ k : Nat, k ≤ l.length ∧ i = .int .i64 k ∧ Own wr w1.heap.size 9 1 (.slice (some ⟨w1.heap.size, 0, none⟩) n n) n (strV (setF (l.take k) (r.take k) (List.replicate n ⟨#[]⟩))) ∧ Below w1.heap.size w1 wr) (fun i _ => l.length - (intOf i).toNat)
          case atStart => exact ⟨0, Nat.zero_le _, rfl, ho2, hb2⟩
          case round =>
            obtain ⟨k, hk, rfl, hO, hB⟩ := hrel
            by_cases hlt : k < l.length
            · have hltr : k < r.length := by rw [HRL.out]; exact hlt
              obtain ⟨p, c3, hv, hc⟩ := (hu0.below hB).at hlt
              injection hv with hA _ hcc
              subst hA
              subst hcc
              obtain ⟨pr, c4, hvr, hcr⟩ := (h0.below hB).at hltr
              injection hvr with hA _ hcc
              subst hA
              subst hcc
              have hs1 := setF_snoc l r (List.replicate n ⟨#[]⟩) k hlt hltr
              have hb := okPl_at l [] HOK.out l[k] (List.getElem_mem hlt)
              obtain ⟨x, hx⟩ : ∃ x, x = l[k] := ⟨_, rfl⟩
              obtain ⟨s, hs⟩ : ∃ s, s = r[k] := ⟨_, rfl⟩
              rw [← hx] at hc hs1 hb
              rw [← hs] at hcr hs1
              obtain ⟨q, rfl⟩ := Int.eq_ofNat_of_zero_le (a := x) hb.1
              rw [Int.toNat_natCast] at hs1
              have hqn : q < n := by omega
              have S1 := Lib.hid hs1
              clear hx hs hs1 hb
              have hfz := hO.thaw (k := q) (by omega)
              obtain ⟨y, hy⟩ : ∃ y, (strV (setF (l.take k) (r.take k) (List.replicate n ⟨#[]⟩)))[q]? = some y := ⟨_, List.getElem?_eq_getElem (by rw [strV_len, setF_len]; simpa using hqn)⟩
              have hcx : wr.cell? ⟨w1.heap.size, q, none⟩ = some y := by have := hO.sl.cell _ q _ rfl hy; rw [head_add] at this; exact this
              have ho5 := hO.put (k := q) (by omega) (.string s)
              have he : (strV (setF (l.take k) (r.take k) (List.replicate n ⟨#[]⟩))).set q (.string s) = strV ((setF (l.take k) (r.take k) (List.replicate n ⟨#[]⟩)).set q s) := by unfold strV; rw [List.map_set]
              rw [he, ← S1.out] at ho5
              have hb5 : Below w1.heap.size w1 (wr.setCell ⟨w1.heap.size, q, none⟩ (.string s)) := hB.setCell (by simp) _
              have HO5 := Lib.hid ho5; have HB5 := Lib.hid hb5
              have dk : decide ((k : Int) < l.length) = true := decide_eq_true (by omega)
              have hkrI : (k : Int) < r.length := by omega
              clear ho5 hb5 he hy
              go_wp2
              exact ⟨⟨k + 1, by omega, by go_num, HO5.out, HB5.out⟩, by simp [intOf]; omega⟩
            · obtain rfl : k = l.length := by omega
              have hrt : r.take l.length = r := by rw [← HRL.out, List.take_length]
              rw [List.take_length, hrt] at hO
              have hlen : (spreadR r l n).length = n := by unfold spreadR; rw [setF_len]; simp
              have HLEN := Lib.hid hlen
              clear hlt hrt hlen
              go_wp2
              exact HR.out _ _ ⟨_, rfl, by rw [HLEN.out]; exact hO, hB⟩
        · have hy := HY3.out
          rw [if_neg hrl] at hy
          subst hy
          have dl : ((r.length : Int) != (l.length : Int)) = true := by rw [bne_iff_ne]; omega
          clear hrl
          go_wp2
          exact HR.out _ _ ⟨_, rfl, Own.nil_ _ _ _ _, Below.refl _ _⟩
theorem any_take (l : List Int) (k m : Nat) (x : Int) (hk : k ≤ l.length) (hm : m < k) : ((l.take k).take (m + 1)).any (fun q => decide (x = q)) = (((l.take k).take m).any (fun q => decide (x = q)) || decide (x = l[m]'(by omega))) := by
  have h1 : m < (l.take k).length := by rw [List.length_take]; omega
  rw [List.take_succ_eq_append_getElem h1, List.any_append, List.getElem_take]
  simp
set_option maxHeartbeats 4000000 in
set_option maxRecDepth 100000 in
theorem refSpread_any (v u : Value) (r : Row) (l : List Int) (W : Int) (w : World) (h : RdS w w.heap.size v r) (hu : RdI w w.heap.size u l) (hl : l.length ≤ 100000) :
    Calls Tryd.prog 34 #[v, u, .int .i64 W] w fun e w' => ∃ o, e = .returned (.tuple #[o, .int .i64 (spreadF r l W).2]) ∧ Own w' w.heap.size 9 1 o (spreadF r l W).1.length (strV (spreadF r l W).1) ∧ Below w.heap.size w w' := by
  refine cps fun R HR => ?_
  obtain ⟨i0, hi0, hz0, hz1, hz2⟩ := info_parts str_info
  have h0 := h
  have hu0 := hu
  obtain ⟨A, c, rfl, -⟩ := h.is
  obtain ⟨A2, c2, rfl, -⟩ := hu.is
  have hfr := h0.few
  have hfl := hu0.few
  have hcap := hu0.cap
  clear h hu
  obtain ⟨Y, hY⟩ : ∃ Y, Y = spreadF r l W := ⟨_, rfl⟩
  rw [← hY] at HR
  unfold spreadF at hY
  have HY := Lib.hid hY
  clear hY
  go_enter Tryd.func34, Tryd.ntmps34
  by_cases hW : W < 0 ∨ 65536 < W
  · have hy := HY.out
    rw [if_pos hW] at hy
    subst hy
    rcases hW with hW | hW
    · have d1 : decide (W < 0) = true := decide_eq_true hW
      clear hW
      go_wp2
      exact HR.out _ _ ⟨_, rfl, Own.nil_ _ _ _ _, Below.refl _ _⟩
    · have d1 : decide (W < 0) = false := decide_eq_false (by omega)
      have d2 : decide (65536 < W) = true := decide_eq_true hW
      clear hW
      go_wp2
      exact HR.out _ _ ⟨_, rfl, Own.nil_ _ _ _ _, Below.refl _ _⟩
  · have d1 : decide (W < 0) = false := decide_eq_false (by omega)
    have d2 : decide (65536 < W) = false := decide_eq_false (by omega)
    have hy := HY.out
    rw [if_neg hW] at hy
    obtain ⟨n, rfl⟩ := Int.eq_ofNat_of_zero_le (a := W) (by omega)
    rw [Int.toNat_natCast] at hy
    have hn : n ≤ 65536 := by omega
    have HY2 := Lib.hid hy
    clear hy HY hW
    go_wp2
    go_loopw [25] (fun i wr => ∃ k : Nat, k ≤ l.length ∧ i = .int .i64 k ∧ okPl n (l.take k) (l.drop k) = okPl n [] l ∧ wr = w) (fun i _ => l.length - (intOf i).toNat)
    case atStart => exact ⟨0, Nat.zero_le _, rfl, rfl, rfl⟩
    case round =>
      obtain ⟨k, hk, rfl, hN, rfl⟩ := hrel
      have HN := Lib.hid hN
      clear hN
      obtain ⟨w1, rfl⟩ : ∃ w1 : World, w1 = wr := ⟨_, rfl⟩
      by_cases hlt : k < l.length
      · obtain ⟨p, c3, hv, hc⟩ := hu0.at hlt
        injection hv with hA _ hcc
        subst hA
        subst hcc
        have hs1 := okPl_take (W := (n : Int)) l k hlt
        have htk := hu0.take (k := k) (by omega)
        obtain ⟨x, hx⟩ : ∃ x, x = l[k] := ⟨_, rfl⟩
        rw [← hx] at hc hs1
        have S1 := Lib.hid hs1
        clear hx hs1
        have hkc : k ≤ c2 := by omega
        have hc0 : ¬ c2 = 0 := by omega
        have dk : decide ((k : Int) < l.length) = true := decide_eq_true (by omega)
        have bad : (x < 0 ∨ (n : Int) ≤ x ∨ x ∈ l.take k) → okPl n [] l = false := fun hb => by rw [← HN.out, S1.out, if_pos hb]
        by_cases hneg : x < 0
        · have hy := HY2.out
          rw [bad (.inl hneg), if_pos rfl] at hy
          subst hy
          have dn : decide (x < 0) = true := decide_eq_true hneg
          clear hneg bad
          go_wp2
          exact HR.out _ _ ⟨_, rfl, Own.nil_ _ _ _ _, Below.refl _ _⟩
        · have dn : decide (x < 0) = false := decide_eq_false hneg
          by_cases hov : (n : Int) ≤ x
          · have hy := HY2.out
            rw [bad (.inr (.inl hov)), if_pos rfl] at hy
            subst hy
            have dn : decide ((n : Int) ≤ x) = true := decide_eq_true hov
            clear hneg bad
            go_wp2
            exact HR.out _ _ ⟨_, rfl, Own.nil_ _ _ _ _, Below.refl _ _⟩
          · have do_ : decide ((n : Int) ≤ x) = false := decide_eq_false hov
            have BAD := Lib.hid bad
            have hno2 : ¬ (x < 0 ∨ (n : Int) ≤ x) := by omega
            have HNO := Lib.hid hno2
            clear bad hno2
            go_wp2
            go_loopw [41] (fun j wr => ∃ m : Nat, m ≤ k ∧ j = .int .i64 m ∧ ((l.take k).take m).any (fun q => decide (x = q)) = false ∧ wr = w1) (fun j _ => k - (intOf j).toNat)
            case atStart => exact ⟨0, Nat.zero_le _, rfl, rfl, rfl⟩
            case round =>
              obtain ⟨m, hm, rfl, hQ, rfl⟩ := hrel
              have HQ := Lib.hid hQ
              clear hQ
              by_cases hlt2 : m < k
              · have hml : m < l.length := by omega
                obtain ⟨p3, c5, hv3, hc3⟩ := hu0.at hml
                injection hv3 with hA3 _ hcc3
                injection hA3 with hA3
                subst hA3
                subst hcc3
                have hq1 := any_take l k m x hk hlt2
                have hmem : l[m] ∈ l.take k := by
                  rw [List.mem_take_iff_getElem]
                  exact ⟨m, by omega, rfl⟩
                obtain ⟨y, hy⟩ : ∃ y, y = l[m] := ⟨_, rfl⟩
                rw [← hy] at hc3 hq1 hmem
                have Q1 := Lib.hid hq1; have HM := Lib.hid hmem
                clear hy hq1 hmem
                have dm : decide ((m : Int) < k) = true := decide_eq_true (by omega)
                by_cases he : x = y
                · have hy := HY2.out
                  rw [BAD.out (.inr (.inr (he ▸ HM.out))), if_pos rfl] at hy
                  subst hy
                  have de : (x == y) = true := by simp [he]
                  clear he
                  go_wp2
                  exact HR.out _ _ ⟨_, rfl, Own.nil_ _ _ _ _, Below.refl _ _⟩
                · have hq2 : ((l.take k).take (m + 1)).any (fun q => decide (x = q)) = false := by rw [Q1.out, HQ.out, decide_eq_false he]; rfl
                  have Q2 := Lib.hid hq2
                  have de : (x == y) = false := by rw [beq_eq_false_iff_ne]; exact he
                  clear he hq2
                  go_wp2
                  exact ⟨⟨m + 1, by omega, by go_num, Q2.out, trivial⟩, by simp [intOf]; omega⟩
              · obtain rfl : m = k := by omega
                have hni : x ∉ l.take m := fun hh => by
                  have := HQ.out
                  rw [List.take_take, Nat.min_self, List.any_eq_false] at this
                  exact this x hh (decide_eq_true rfl)
                have hn2 : okPl n (l.take (m + 1)) (l.drop (m + 1)) = okPl n [] l := by
                  have := HN.out
                  rw [S1.out, if_neg (fun hh => by
                    rcases hh with hh | hh | hh
                    · exact HNO.out (.inl hh)
                    · exact HNO.out (.inr hh)
                    · exact hni hh)] at this
                  exact this
                have N2 := Lib.hid hn2
                clear hn2 hni
                go_wp2
                exact ⟨⟨m + 1, by omega, by go_num, N2.out, trivial⟩, by simp [intOf]; omega⟩
      · obtain rfl : k = l.length := by omega
        have hok : okPl n [] l = true := by rw [← HN.out, List.drop_length, okPl]
        have hy := HY2.out
        rw [hok, if_neg (by simp)] at hy
        have HY3 := Lib.hid hy; have HOK := Lib.hid hok
        clear hlt hy hok HY2 HN
        by_cases hrl : r.length = l.length
        · have hy := HY3.out
          rw [if_pos hrl, spreadR_eq HOK.out] at hy
          subst hy
          have dl : ((r.length : Int) != (l.length : Int)) = false := by simp [hrl]
          have HRL := Lib.hid hrl
          clear hrl
          obtain ⟨w4, rfl⟩ : ∃ w4 : World, w4 = w1 := ⟨_, rfl⟩
          go_wp2
          go_loopw [12, 13] (fun o i wr => ∃ k : Nat, k ≤ n ∧ i = .int .i64 k ∧ Own wr w4.heap.size 9 1 o k (strV ((List.range k).map fun i => spreadAt i l r ⟨#[]⟩)) ∧ Below w4.heap.size w4 wr) (fun _ i _ => n - (intOf i).toNat)
          case atStart => exact ⟨0, Nat.zero_le _, rfl, Own.nil_ _ _ _ _, Below.refl _ _⟩
          case round =>
            obtain ⟨k, hk, rfl, hO, hB⟩ := hrel
            obtain ⟨w5, rfl⟩ : ∃ w5 : World, w5 = wr := ⟨_, rfl⟩
            by_cases hlt : k < n
            · have dk : decide ((k : Int) < n) = true := decide_eq_true (by omega)
              go_wp2
              go_loopw [14, 62] (fun s j wr => ∃ m : Nat, m ≤ l.length ∧ j = .int .i64 m ∧ s = .string (spreadAt k (l.take m) (r.take m) ⟨#[]⟩) ∧ wr = w5) (fun _ j _ => l.length - (intOf j).toNat)
              case atStart => exact ⟨0, Nat.zero_le _, rfl, rfl, rfl⟩
              case round =>
                obtain ⟨m, hm, rfl, rfl, rfl⟩ := hrel
                by_cases hlt2 : m < l.length
                · have hltr : m < r.length := by rw [HRL.out]; exact hlt2
                  obtain ⟨p, c3, hv, hc⟩ := (hu0.below hB).at hlt2
                  injection hv with hA _ hcc
                  subst hA
                  subst hcc
                  obtain ⟨pr, c4, hvr, hcr⟩ := (h0.below hB).at hltr
                  injection hvr with hA _ hcc
                  subst hA
                  subst hcc
                  have hs1 := spreadAt_snoc k l r ⟨#[]⟩ m hlt2 hltr
                  obtain ⟨x, hx⟩ : ∃ x, x = l[m] := ⟨_, rfl⟩
                  obtain ⟨s, hs⟩ : ∃ s, s = r[m] := ⟨_, rfl⟩
                  rw [← hx, ← hs] at hs1
                  rw [← hx] at hc
                  rw [← hs] at hcr
                  have S1 := Lib.hid hs1
                  clear hx hs hs1
                  have dm : decide ((m : Int) < l.length) = true := decide_eq_true (by omega)
                  have hmrI : (m : Int) < r.length := by omega
                  by_cases he : x = k
                  · have h2 : spreadAt k (l.take (m + 1)) (r.take (m + 1)) ⟨#[]⟩ = s := by rw [S1.out, if_pos he]
                    have H2 := Lib.hid h2
                    have de : (x == (k : Int)) = true := by simp [he]
                    clear he h2
                    go_wp2
                    exact ⟨⟨m + 1, by omega, by go_num, by rw [H2.out], trivial⟩, by simp [intOf]; omega⟩
                  · have h2 : spreadAt k (l.take (m + 1)) (r.take (m + 1)) ⟨#[]⟩ = spreadAt k (l.take m) (r.take m) ⟨#[]⟩ := by rw [S1.out, if_neg he]
                    have H2 := Lib.hid h2
                    have de : (x == (k : Int)) = false := by rw [beq_eq_false_iff_ne]; exact he
                    clear he h2
                    go_wp2
                    exact ⟨⟨m + 1, by omega, by go_num, by rw [H2.out], trivial⟩, by simp [intOf]; omega⟩
                · obtain rfl : m = l.length := by omega
                  have hrt : r.take l.length = r := by rw [← HRL.out, List.take_length]
                  rw [List.take_length, hrt]
                  have hr1 : (List.range (k + 1)).map (fun i => spreadAt i l r ⟨#[]⟩) = (List.range k).map (fun i => spreadAt i l r ⟨#[]⟩) ++ [spreadAt k l r ⟨#[]⟩] := by rw [List.range_succ, List.map_append]; rfl
                  obtain ⟨s, hs⟩ : ∃ s, s = spreadAt k l r ⟨#[]⟩ := ⟨_, rfl⟩
                  rw [← hs] at hr1 ⊢
                  have R1 := Lib.hid hr1
                  clear hr1 hs hrt
                  go_wp2_with (at_builtin; refine wpList_push rfl _ _ _ rfl w4.heap.size 9 i0 _ 16 Tryd.underlying22 hi0 hz0 hz1 hz2 rfl (by omega) u12 k _ (.string s) rfl hO rfl rfl (by omega) hB.size ?_; intro v5 w6 hown5 hg5 hat5)
                  exact ⟨⟨k + 1, by omega, by go_num, by rw [R1.out, strV_snoc]; exact hown5, below_grown hB hg5 (fun g hg => (hO.lt g hg).1) hB.size⟩, by simp [intOf]; omega⟩
            · obtain rfl : k = n := by omega
              have hlen : ((List.range k).map fun i => spreadAt i l r ⟨#[]⟩).length = k := by simp
              have HLEN := Lib.hid hlen
              clear hlt hlen
              go_wp2
              exact HR.out _ _ ⟨_, rfl, by rw [HLEN.out]; exact hO, hB⟩
        · have hy := HY3.out
          rw [if_neg hrl] at hy
          subst hy
          have dl : ((r.length : Int) != (l.length : Int)) = true := by rw [bne_iff_ne]; omega
          clear hrl
          go_wp2
          exact HR.out _ _ ⟨_, rfl, Own.nil_ _ _ _ _, Below.refl _ _⟩
end Go.Proofs.YtamhdlopchhdjaaDoor

/- Layer 19: the reference's Pick; Spread, and the reference's. -/
import Derived.Test.YtamhdlopchhdjaaDoorBindE
namespace Go.Proofs.YtamhdlopchhdjaaDoor
open Go.RowKit Go.ChangeShapes Go.WideShapes
set_option linter.unusedVariables false
set_option linter.unusedSimpArgs false

set_option maxHeartbeats 2000000 in
theorem refPickB_any (v u : Value) (r : Row) (l : List Int) (w : World) (h : RdS w w.heap.size v r) (hu : RdI w w.heap.size u l) (hl : l.length ≤ 100000) :
    Calls Tryd.prog 32 #[v, u] w fun e w' => ∃ o, e = .returned (.tuple #[o, .int .i64 (pickF r l).2]) ∧ Own w' w.heap.size 9 1 o (pickF r l).1.length (strV (pickF r l).1) ∧ Below w.heap.size w w' := by
  refine cps fun R HR => ?_
  obtain ⟨i0, hi0, hz0, hz1, hz2⟩ := info_parts str_info
  have h0 := h
  have hu0 := hu
  obtain ⟨A, c, rfl, -⟩ := h.is
  obtain ⟨A2, c2, rfl, -⟩ := hu.is
  have hfr := h0.few
  have hfl := hu0.few
  clear h hu
  obtain ⟨Y, hY⟩ : ∃ Y, Y = pickF r l := ⟨_, rfl⟩
  rw [← hY] at HR
  unfold pickF at hY
  have HY := Lib.hid hY
  clear hY
  go_enter Tryd.func32, Tryd.ntmps32
  go_wp2
  go_loopw [13] (fun i wr => ∃ k : Nat, k ≤ l.length ∧ i = .int .i64 k ∧ negI (l.take k) = false ∧ wr = w) (fun i _ => l.length - (intOf i).toNat)
  case atStart => exact ⟨0, Nat.zero_le _, rfl, rfl, rfl⟩
  case round =>
    obtain ⟨k, hk, rfl, hN, rfl⟩ := hrel
    have HN := Lib.hid hN
    clear hN
    by_cases hlt : k < l.length
    · obtain ⟨p, c3, hv, hc⟩ := hu0.at hlt
      injection hv with hA _ hcc
      subst hA
      subst hcc
      have hs1 := negI_snoc l hlt
      have hs4 : l[k] < 0 → negI l = true := negI_at hlt
      obtain ⟨x, hx⟩ : ∃ x, x = l[k] := ⟨_, rfl⟩
      rw [← hx] at hc hs1 hs4
      have S1 := Lib.hid hs1; have S4 := Lib.hid hs4
      clear hx hs1 hs4
      have dk : decide ((k : Int) < l.length) = true := decide_eq_true (by omega)
      by_cases hneg : x < 0
      · have hy := HY.out
        rw [S4.out hneg, if_pos rfl] at hy
        subst hy
        have dn : decide (x < 0) = true := decide_eq_true hneg
        clear hneg
        go_wp2
        exact HR.out _ _ ⟨_, rfl, Own.nil_ _ _ _ _, Below.refl _ _⟩
      · have hn2 : negI (l.take (k + 1)) = false := by rw [S1.out, HN.out, decide_eq_false hneg]; rfl
        have N2 := Lib.hid hn2
        have dn : decide (x < 0) = false := decide_eq_false hneg
        clear hneg hn2
        go_wp2
        exact ⟨⟨k + 1, by omega, by go_num, N2.out, trivial⟩, by simp [intOf]; omega⟩
    · obtain rfl : k = l.length := by omega
      have hn := HN.out
      rw [List.take_length] at hn
      have hy := HY.out
      rw [hn, if_neg (by simp)] at hy
      have HY2 := Lib.hid hy
      have HNEG := Lib.hid hn
      obtain ⟨w4, rfl⟩ : ∃ w4 : World, w4 = wr := ⟨_, rfl⟩
      clear hy hlt hn HN HY
      go_wp2
      go_loopw [8, 22] (fun o i wr => ∃ k : Nat, k ≤ l.length ∧ i = .int .i64 k ∧ overI r.length (l.take k) = false ∧ Own wr w4.heap.size 9 1 o k (strV (pickR r (l.take k))) ∧ Below w4.heap.size w4 wr) (fun _ i _ => l.length - (intOf i).toNat)
      case atStart => exact ⟨0, Nat.zero_le _, rfl, rfl, Own.nil_ _ _ _ _, Below.refl _ _⟩
      case round =>
        obtain ⟨k, hk, rfl, hV, hO, hB⟩ := hrel
        have HV := Lib.hid hV
        clear hV
        by_cases hlt : k < l.length
        · obtain ⟨p, c3, hv, hc⟩ := (hu0.below hB).at hlt
          injection hv with hA _ hcc
          subst hA
          subst hcc
          have hs2 := overI_snoc r.length l hlt
          have hs3 := pickR_snoc r l hlt
          have hs4 : (r.length : Int) ≤ l[k] → overI r.length l = true := overI_at hlt
          have hs5 : ¬ l[k] < 0 := fun h => by
            have := negI_at hlt h
            rw [HNEG.out] at this
            cases this
          obtain ⟨x, hx⟩ : ∃ x, x = l[k] := ⟨_, rfl⟩
          rw [← hx] at hc hs2 hs3 hs4 hs5
          obtain ⟨n, rfl⟩ := Int.eq_ofNat_of_zero_le (a := x) (by omega)
          have S2 := Lib.hid hs2; have S3 := Lib.hid hs3; have S4 := Lib.hid hs4
          clear hx hs2 hs3 hs4 hs5
          have dk : decide ((k : Int) < l.length) = true := decide_eq_true (by omega)
          by_cases hov : r.length ≤ n
          · have hy := HY2.out
            rw [S4.out (by omega), if_pos rfl] at hy
            subst hy
            have do_ : decide (r.length ≤ n) = true := decide_eq_true hov
            go_wp2
            exact HR.out _ _ ⟨_, rfl, Own.nil_ _ _ _ _, hB⟩
          · have hltr : n < r.length := by omega
            obtain ⟨pr, c4, hvr, hcr⟩ := (h0.below hB).at hltr
            injection hvr with hA _ hcc
            subst hA
            subst hcc
            have ho2 : overI r.length (l.take (k + 1)) = false := by rw [S2.out, HV.out, decide_eq_false (by omega)]; simp
            have hg : r.getD n ⟨#[]⟩ = r[n] := by rw [List.getD_eq_getElem?_getD, List.getElem?_eq_getElem hltr]; rfl
            have hp2 : pickR r (l.take (k + 1)) = pickR r (l.take k) ++ [r[n]] := by rw [S3.out, Int.toNat_natCast, hg]
            obtain ⟨s, hs⟩ : ∃ s, s = r[n] := ⟨_, rfl⟩
            rw [← hs] at hcr hp2
            have do_ : decide (r.length ≤ n) = false := decide_eq_false hov
            have hltI : (n : Int) < r.length := by omega
            have O2 := Lib.hid ho2; have P2 := Lib.hid hp2
            clear ho2 hp2 hg hs
            go_wp2_with (at_builtin; refine wpList_push rfl _ _ _ rfl w4.heap.size 9 i0 _ 16 Tryd.underlying22 hi0 hz0 hz1 hz2 rfl (by omega) u8 k _ (.string s) rfl hO rfl rfl (by omega) hB.size ?_; intro v5 w5 hown5 hg5 hat5)
            exact ⟨⟨k + 1, by omega, by go_num, O2.out, by rw [P2.out, strV_snoc]; exact hown5, below_grown hB hg5 (fun g hg => (hO.lt g hg).1) hB.size⟩, by simp [intOf]; omega⟩
        · obtain rfl : k = l.length := by omega
          rw [List.take_length] at hO
          have hn := HV.out
          rw [List.take_length] at hn
          have hy := HY2.out
          rw [hn, if_neg (by simp)] at hy
          subst hy
          have hlen : (pickR r l).length = l.length := by unfold pickR; rw [List.length_map]
          have HLEN := Lib.hid hlen
          clear hn hlt hlen
          go_wp2
          exact HR.out _ _ ⟨_, rfl, by rw [HLEN.out]; exact hO, hB⟩
/-- May these be places of a width, those ahead of them seen? -/
def okPl (W : Int) : List Int → List Int → Bool
  | _, [] => true
  | seen, p :: r => if p < 0 ∨ W ≤ p ∨ p ∈ seen then false else okPl W (seen ++ [p]) r
def setF : List Int → Row → Row → Row
  | p :: ps, x :: xs, out => setF ps xs (out.set p.toNat x)
  | _, _, out => out
def spreadR (r : Row) (l : List Int) (n : Nat) : Row := setF l r (List.replicate n ⟨#[]⟩)
/-- What Spread tells: the record, the error's number. -/
def spreadF (r : Row) (l : List Int) (W : Int) : Row × Nat :=
  if W < 0 ∨ 65536 < W then ([], 22) else if okPl W [] l = false then ([], 22) else if r.length = l.length then (spreadR r l W.toNat, 0) else ([], 10)
theorem okPl_at {W : Int} : ∀ (l seen : List Int), okPl W seen l = true → ∀ p ∈ l, 0 ≤ p ∧ p < W
  | a :: l, seen, h, p, hp => by
    rw [okPl] at h
    split at h
    · cases h
    · rename_i hno
      rcases List.mem_cons.1 hp with rfl | hp
      · omega
      · exact okPl_at l _ h p hp
theorem okPl_nodup {W : Int} : ∀ (l seen : List Int), okPl W seen l = true → l.Nodup ∧ ∀ p ∈ l, p ∉ seen
  | [], seen, h => ⟨List.nodup_nil, fun p hp => by cases hp⟩
  | a :: l, seen, h => by
    rw [okPl] at h
    split at h
    · cases h
    · rename_i hno
      obtain ⟨h1, h2⟩ := okPl_nodup l _ h
      refine ⟨List.nodup_cons.2 ⟨fun hm => (h2 a hm) (by simp), h1⟩, fun p hp => ?_⟩
      rcases List.mem_cons.1 hp with rfl | hp
      · exact fun hs => hno (.inr (.inr hs))
      · exact fun hs => h2 p hp (by simp [hs])
theorem setF_len : ∀ (l : List Int) (r out : Row), (setF l r out).length = out.length
  | [], r, out => rfl
  | p :: ps, [], out => rfl
  | p :: ps, x :: xs, out => by rw [setF, setF_len ps xs, List.length_set]
theorem setF_snoc : ∀ (l : List Int) (r out : Row) (k : Nat) (hk : k < l.length) (hr : k < r.length), setF (l.take (k + 1)) (r.take (k + 1)) out = (setF (l.take k) (r.take k) out).set (l[k]).toNat r[k]
  | p :: ps, x :: xs, out, 0, hk, hr => rfl
  | p :: ps, x :: xs, out, k + 1, hk, hr => by
    simp only [List.take_succ_cons, setF, List.getElem_cons_succ]
    exact setF_snoc ps xs _ k (by simpa using hk) (by simpa using hr)
/-- The field at a place. -/
def spreadAt (i : Nat) : List Int → Row → ByteArray → ByteArray
  | p :: ps, x :: xs, s => spreadAt i ps xs (if p = i then x else s)
  | _, _, s => s
theorem spreadAt_snoc (i : Nat) : ∀ (l : List Int) (r : Row) (s : ByteArray) (k : Nat) (hk : k < l.length) (hr : k < r.length), spreadAt i (l.take (k + 1)) (r.take (k + 1)) s = if l[k] = i then r[k] else spreadAt i (l.take k) (r.take k) s
  | p :: ps, x :: xs, s, 0, hk, hr => rfl
  | p :: ps, x :: xs, s, k + 1, hk, hr => by
    simp only [List.take_succ_cons, spreadAt, List.getElem_cons_succ]
    exact spreadAt_snoc i ps xs _ k (by simpa using hk) (by simpa using hr)
theorem setF_at (i : Nat) : ∀ (l : List Int) (r out : Row) (hi : i < out.length), (∀ p ∈ l, 0 ≤ p) → (setF l r out)[i]? = some (spreadAt i l r out[i])
  | [], r, out, hi, _ => List.getElem?_eq_getElem hi
  | p :: ps, [], out, hi, _ => List.getElem?_eq_getElem hi
  | p :: ps, x :: xs, out, hi, hp => by
    have h1 := setF_at i ps xs (out.set p.toNat x) (by simpa using hi) (fun q hq => hp q (by simp [hq]))
    rw [setF, h1, spreadAt, List.getElem_set]
    have h0 := hp p (by simp)
    by_cases h : p = i
    · rw [if_pos h, if_pos (by omega)]
    · rw [if_neg h, if_neg (by omega)]
theorem spreadR_eq {r : Row} {l : List Int} {W : Nat} (h : okPl W [] l = true) : spreadR r l W = (List.range W).map fun i => spreadAt i l r ⟨#[]⟩ := by
  apply List.ext_getElem?
  intro i
  unfold spreadR
  by_cases hi : i < W
  · rw [setF_at i l r _ (by simpa using hi) (fun p hp => (okPl_at l [] h p hp).1)]
    simp [hi]
  · rw [List.getElem?_eq_none (by rw [setF_len]; simp; omega), List.getElem?_eq_none (by simp; omega)]
theorem spreadAt_not (i : Nat) : ∀ (l : List Int) (r : Row) (s : ByteArray), (i : Int) ∉ l → spreadAt i l r s = s
  | [], r, s, _ => by cases r <;> rfl
  | p :: ps, [], s, _ => rfl
  | p :: ps, x :: xs, s, h => by
    rw [spreadAt, if_neg (fun e => h (by simp [e])), spreadAt_not i ps xs s (fun hm => h (by simp [hm]))]
theorem spreadAt_get : ∀ (l : List Int) (r : Row) (s : ByteArray) (k : Nat) (hk : k < l.length) (hr : k < r.length) (n : Nat), l.Nodup → l[k] = (n : Int) → spreadAt n l r s = r[k]
  | p :: ps, x :: xs, s, 0, hk, hr, n, hn, he => by
    have he2 : p = (n : Int) := he
    rw [spreadAt, if_pos he2]
    exact spreadAt_not n ps xs x (by have := (List.nodup_cons.1 hn).1; rw [← he2]; exact this)
  | p :: ps, x :: xs, s, k + 1, hk, hr, n, hn, he => by
    rw [spreadAt]
    exact spreadAt_get ps xs _ k (by simpa using hk) (by simpa using hr) n (List.nodup_cons.1 hn).2 he
/-- Picked again the record is as it was. -/
theorem pick_spread {r : Row} {l : List Int} {W : Nat} (h : okPl W [] l = true) (hl : r.length = l.length) : pickF (spreadR r l W) l = (r, 0) := by
  have hb := okPl_at l [] h
  have hn := (okPl_nodup l [] h).1
  have hlen : (spreadR r l W).length = W := by unfold spreadR; rw [setF_len]; simp
  unfold pickF
  rw [if_neg, if_neg]
  · congr 1
    apply List.ext_getElem?
    intro k
    unfold pickR
    rw [List.getElem?_map]
    by_cases hk : k < l.length
    · rw [List.getElem?_eq_getElem hk, List.getElem?_eq_getElem (by omega)]
      obtain ⟨n, hn2⟩ := Int.eq_ofNat_of_zero_le (hb _ (List.getElem_mem hk)).1
      have hW := (hb _ (List.getElem_mem hk)).2
      simp only [Option.map_some]
      rw [hn2, Int.toNat_natCast, spreadR_eq h, List.getD_eq_getElem?_getD, List.getElem?_map, List.getElem?_range (by omega)]
      simp only [Option.map_some, Option.getD_some]
      rw [spreadAt_get l r _ k hk (by omega) n hn hn2]
    · rw [List.getElem?_eq_none (by omega), List.getElem?_eq_none (by omega)]
      rfl
  · rw [hlen]
    intro ho
    obtain ⟨p, hp, hd⟩ := List.any_eq_true.1 ho
    have := hb p hp
    have := of_decide_eq_true hd
    omega
  · intro ho
    obtain ⟨p, hp, hd⟩ := List.any_eq_true.1 ho
    have := hb p hp
    have := of_decide_eq_true hd
    omega
end Go.Proofs.YtamhdlopchhdjaaDoor

/- Layer 13: Fits. -/
import Derived.Test.YtamhdlopchhdjaaTabH
import Derived.Test.YtamhdlopchhdjaaLim
namespace Go.Proofs.Ytamhdlopchhdjaa
open Go.RowKit Go.ChangeShapes Go.WideShapes
set_option linter.unusedVariables false
set_option linter.unusedSimpArgs false

/-- The place of the first field that is too long, so many fields being behind. -/
def idxF (L : Int) : Nat → Row → Int
  | _, [] => -1
  | j, s :: r => if L < s.size then j else idxF L (j + 1) r
theorem fits1_any (s : ByteArray) (b : Nat) (L : Int) (w : World) (hc : w.cell? ⟨b, 0, none⟩ = some (.int .i64 L)) :
    Calls Try.prog 40 #[.string s, .pointer (some ⟨b, 0, none⟩)] w fun e w' => e = .returned (.bool (decide (L < s.size))) ∧ w' = w := by
  refine cps fun R HR => ?_
  go_enter Try.func40, Try.ntmps40
  go_wp2
  exact HR.out _ _ ⟨rfl, rfl⟩
theorem indexS_any (v : Value) (l : Row) (b : Nat) (L : Int) (w : World) (h : RdS w w.heap.size v l) (hc : w.cell? ⟨b, 0, none⟩ = some (.int .i64 L)) :
    Calls Try.prog 39 #[v, .func (.func 40) #[] #[.pointer (some ⟨b, 0, none⟩)]] w fun e w' => e = .returned (.int .i64 (idxF L 0 l)) ∧ w' = w := by
  refine cps fun R HR => ?_
  have h0 := h
  obtain ⟨A, c, rfl, -⟩ := h.is
  have hfew := h.few
  clear h
  go_enter Try.func39, Try.ntmps39
  go_wp2
  go_loopw [8] (fun i wr => ∃ k : Nat, k ≤ l.length ∧ i = .int .i64 k ∧ idxF L k (l.drop k) = idxF L 0 l ∧ wr = w) (fun i _ => l.length - (intOf i).toNat)
  case atStart => exact ⟨0, Nat.zero_le _, rfl, rfl, rfl⟩
  case round =>
    obtain ⟨k, hk, rfl, hN, rfl⟩ := hrel
    have HN := Lib.hid hN; clear hN
    by_cases hlt : k < l.length
    · obtain ⟨p, c3, hv, hcp⟩ := h0.at hlt
      injection hv with hA _ hcc
      subst hA
      subst hcc
      have hd : l.drop k = l[k] :: l.drop (k + 1) := List.drop_eq_getElem_cons hlt
      obtain ⟨s, hs⟩ : ∃ s, s = l[k] := ⟨_, rfl⟩
      rw [← hs] at hcp hd
      clear hs
      have dk : decide ((k : Int) < l.length) = true := decide_eq_true (by omega)
      by_cases hb : L < s.size
      · have HV := Lib.hid (show idxF L 0 l = k by rw [← HN.out, hd, idxF, if_pos hb])
        have d : decide (L < (s.size : Int)) = true := decide_eq_true hb
        clear hd hb
        go_wp2_with fail
        refine (fits1_any s b L _ hc).mono ?_
        rintro e w1 ⟨rfl, rfl⟩
        go_wp2
        exact HR.out _ _ ⟨by rw [HV.out]; rfl, rfl⟩
      · have HV := Lib.hid (show idxF L (k + 1) (l.drop (k + 1)) = idxF L 0 l by rw [← HN.out, hd, idxF, if_neg hb])
        have d : decide (L < (s.size : Int)) = false := decide_eq_false hb
        clear hd hb
        go_wp2_with fail
        refine (fits1_any s b L _ hc).mono ?_
        rintro e w1 ⟨rfl, rfl⟩
        go_wp2
        exact ⟨⟨k + 1, by omega, by go_num, HV.out, trivial⟩, by simp [intOf]; omega⟩
    · have hd : l.drop k = [] := List.drop_of_length_le (by omega)
      have HV := Lib.hid (show idxF L 0 l = -1 by rw [← HN.out, hd, idxF])
      clear hd
      go_wp2
      exact HR.out _ _ ⟨by rw [HV.out]; rfl, rfl⟩
/-- What of a record doesn't fit: the field, the error's number. -/
def fitR (L F Rc : Int) (U : Bool) (i : Nat) (r : Row) (width : Nat) : Int × Nat :=
  if Rc ≤ i then (0, 9) else if F < r.length then (F, 8) else if 0 ≤ idxF L 0 r then (idxF L 0 r, 7) else if U = true ∧ r.length ≠ width then (0, 10) else (0, 0)
set_option maxHeartbeats 1000000 in
theorem fitRow_any (L F Rc : Int) (U : Bool) (i : Nat) (v : Value) (r : Row) (width : Nat) (w : World) (h : RdS w w.heap.size v r) :
    Calls Try.prog 33 #[.agg #[.int .i64 L, .int .i64 F, .int .i64 Rc, .bool U], .int .i64 i, v, .int .i64 width] w fun e w' => e = .returned (.tuple #[.int .i64 (fitR L F Rc U i r width).1, .int .i64 (fitR L F Rc U i r width).2]) ∧ Below w.heap.size w w' := by
  refine cps fun R HR => ?_
  have hmf : ∀ (fn : Fn) (first cap : Array Value) (w : World), (Instr.makeFunc fn first cap).run Try.prog w = .ok (.func fn first cap) w := fun _ _ _ _ => rfl
  have X := Box.new w 45 #[.int .i64 L, .int .i64 F, .int .i64 Rc, .bool U]
  have bel := below_alloc1 w (.cells #[.int .i64 L, .int .i64 F, .int .i64 Rc, .bool U] 45)
  have c0 : (w.alloc (.cells #[.int .i64 L, .int .i64 F, .int .i64 Rc, .bool U] 45)).cell? ⟨w.heap.size, 0, none⟩ = some (.int .i64 L) := X.cell 0
  have h1 := h.next bel
  have h2 := h
  obtain ⟨A, c, rfl, -⟩ := h.is
  have hfew := h2.few
  clear h h2
  go_enter Try.func33, Try.ntmps33
  go_wp2_with fail
  refine (indexS_any _ r w.heap.size L _ h1 c0).mono ?_
  rintro e w1 ⟨rfl, rfl⟩
  obtain ⟨x, hx⟩ : ∃ x, x = idxF L 0 r := ⟨_, rfl⟩
  obtain ⟨Y, hY⟩ : ∃ Y, Y = fitR L F Rc U i r width := ⟨_, rfl⟩
  rw [← hY] at HR
  unfold fitR at hY
  rw [← hx] at hY ⊢
  clear hx c0
  by_cases q1 : Rc ≤ i
  · rw [if_pos q1] at hY
    subst hY
    have d1 : decide (Rc ≤ (i : Int)) = true := decide_eq_true q1
    clear q1
    go_wp2
    exact HR.out _ _ ⟨rfl, bel⟩
  · rw [if_neg q1] at hY
    have d1 : decide (Rc ≤ (i : Int)) = false := decide_eq_false q1
    clear q1
    by_cases q2 : F < r.length
    · rw [if_pos q2] at hY
      subst hY
      have d2 : decide (F < (r.length : Int)) = true := decide_eq_true q2
      clear q2
      go_wp2
      exact HR.out _ _ ⟨rfl, bel⟩
    · rw [if_neg q2] at hY
      have d2 : decide (F < (r.length : Int)) = false := decide_eq_false q2
      clear q2
      by_cases q3 : 0 ≤ x
      · rw [if_pos q3] at hY
        subst hY
        have d3 : decide (0 ≤ x) = true := decide_eq_true q3
        clear q3
        go_wp2
        exact HR.out _ _ ⟨rfl, bel⟩
      · rw [if_neg q3] at hY
        have d3 : decide (0 ≤ x) = false := decide_eq_false q3
        clear q3
        cases U with
        | false =>
          rw [if_neg (by simp)] at hY
          subst hY
          go_wp2
          exact HR.out _ _ ⟨rfl, bel⟩
        | true =>
          by_cases q4 : r.length = width
          · rw [if_neg (by simp [q4])] at hY
            subst hY
            have d4 : ((r.length : Int) != (width : Int)) = false := by simp [q4]
            clear q4
            go_wp2
            exact HR.out _ _ ⟨rfl, bel⟩
          · rw [if_pos ⟨rfl, q4⟩] at hY
            subst hY
            have d4 : ((r.length : Int) != (width : Int)) = true := by rw [bne_iff_ne]; omega
            clear q4
            go_wp2
            exact HR.out _ _ ⟨rfl, bel⟩
/-- What of a table doesn't fit, so many records being behind: the record, the field, the error's number. -/
def fitT (L F Rc : Int) (U : Bool) (width : Nat) : Nat → Tbl → Int × Int × Nat
  | _, [] => (0, 0, 0)
  | i, r :: t => if (fitR L F Rc U i r width).2 = 0 then fitT L F Rc U width (i + 1) t else (i, (fitR L F Rc U i r width).1, (fitR L F Rc U i r width).2)
def fitA (L F Rc : Int) (U : Bool) (t : Tbl) : Int × Int × Nat := if fitsL L F Rc then fitT L F Rc U (t.headD []).length 0 t else (0, 0, 2)
set_option maxHeartbeats 4000000 in
theorem tabFits_any (L F Rc : Int) (U : Bool) (v : Value) (t : Tbl) (w : World) (h : RdT w w.heap.size v t) :
    Calls Try.prog 23 #[.agg #[.int .i64 L, .int .i64 F, .int .i64 Rc, .bool U], v] w fun e w' => e = .returned (.tuple #[.int .i64 (fitA L F Rc U t).1, .int .i64 (fitA L F Rc U t).2.1, .int .i64 (fitA L F Rc U t).2.2]) ∧ Below w.heap.size w w' := by
  refine cps fun R HR => ?_
  have X := Box.new w 45 #[.int .i64 L, .int .i64 F, .int .i64 Rc, .bool U]
  have bel := below_alloc1 w (.cells #[.int .i64 L, .int .i64 F, .int .i64 Rc, .bool U] 45)
  have h2 := h
  obtain ⟨A, c, vs, rfl, -, -⟩ := h.is
  have hfew := h2.few
  clear h
  obtain ⟨Y, hY⟩ : ∃ Y, Y = fitA L F Rc U t := ⟨_, rfl⟩
  rw [← hY] at HR
  unfold fitA at hY
  go_enter Try.func23, Try.ntmps23
  go_wp2_with fail
  refine (limits_any L F Rc U _).mono ?_
  rintro e w1 ⟨rfl, b1⟩
  have b01 := bel.trans (b1.mono bel.size)
  have X1 := X.below b1 X.lt
  cases hf : fitsL L F Rc
  · have HL := Lib.hid (show limL L F Rc = 2 by simp [limL, hf])
    rw [hf, if_neg (by simp)] at hY
    subst hY
    rw [HL.out]
    clear hf
    go_wp2
    refine bodyPost_ret (v := .tuple #[.int .i64 0, .int .i64 0, .int .i64 (2 : Nat)]) (by simp [results, Try.results23, go_sem]) rfl (HR.out _ _ ⟨rfl, b01⟩)
  · have HL := Lib.hid (show limL L F Rc = 0 by simp [limL, hf])
    rw [hf, if_pos rfl] at hY
    have HYY := Lib.hid hY
    rw [HL.out]
    clear hf hY
    have ht1 := h2.next b01
    go_wp2
    go_loopw [19] (fun i wr => ∃ k : Nat, k ≤ t.length ∧ i = .int .i64 k ∧ fitT L F Rc U (t.headD []).length k (t.drop k) = Y ∧ Below w1.heap.size w1 wr) (fun i _ => t.length - (intOf i).toNat)
    case atStart => exact ⟨0, Nat.zero_le _, rfl, HYY.out.symm, Below.refl _ _⟩
    case round =>
      obtain ⟨k, hk, rfl, hN, hB⟩ := hrel
      have HN := Lib.hid hN; clear hN
      by_cases hlt : k < t.length
      · obtain ⟨p, c3, u, hv, hc, hu⟩ := (ht1.next hB).at hlt
        injection hv with hA _ hcc
        subst hA
        subst hcc
        obtain ⟨p', c3', u', hv', hc', hu'⟩ := (ht1.next hB).at (k := 0) (by omega)
        injection hv' with hA _ hcc
        injection hA with hA
        subst hA
        clear hcc
        have hadd : p.add 0 = p := by simp [Addr.add]
        rw [hadd] at hc'
        have hhead : t[0] = t.headD [] := by
          cases t with
          | nil => simp at hlt
          | cons x r => rfl
        have hd : t.drop k = t[k] :: t.drop (k + 1) := List.drop_eq_getElem_cons hlt
        obtain ⟨x, hx⟩ : ∃ x, x = t[k] := ⟨_, rfl⟩
        rw [← hx] at hu hd
        rw [hhead] at hu'
        obtain ⟨x0, hx0⟩ : ∃ x0, x0 = t.headD [] := ⟨_, rfl⟩
        rw [← hx0] at hu'
        obtain ⟨A3, c5, rfl, -⟩ := hu'.is
        have hx0f := hu'.few
        have HD := Lib.hid hd; have HX0 := Lib.hid hx0
        clear hx hd hhead hx0 hu'
        have dk : decide ((k : Int) < t.length) = true := decide_eq_true (by omega)
        have h00 : 0 < t.length := by omega
        have X2 := X1.below hB X1.lt
        have k0 := cell_regrown (X2.cell 0)
        have k1 := cell_regrown (X2.cell 1)
        have k2 := cell_regrown (X2.cell 2)
        have k3 := cell_regrown (X2.cell 3)
        simp at k0 k1 k2 k3
        have kc := cell_regrown hc'
        obtain ⟨q, hq⟩ : ∃ q, q = fitR L F Rc U k x x0.length := ⟨_, rfl⟩
        have gF : ∀ dn os, Calls Try.prog 33 #[.agg #[.int .i64 L, .int .i64 F, .int .i64 Rc, .bool U], .int .i64 k, u, .int .i64 x0.length] (Go.Sort.grow (redrawn wr dn) os) fun e w'' => e = .returned (.tuple #[.int .i64 q.1, .int .i64 q.2]) ∧ ∃ p : Regrown, w'' = Go.Sort.grow (redrawn wr p.d) p.os := fun dn os => Calls.regrown_of (by
          rw [hq]
          exact fitRow_any L F Rc U k u x x0.length _ (hu.next (below_regrown wr dn os)))
        have HQ := Lib.hid hq; clear hq
        go_wp2
        refine wp_region_quiet_below (by kernel_rfl) (by kernel_rfl) ?_
        repeat (go_big_quiet_step ((go_at_call 33; with_reducible exact gF _ _)))
        refine wpQuiet_nil ?_
        intro w9 hw9
        have bel2 : Below w1.heap.size w1 w9 := by obtain ⟨p, rfl⟩ := hw9; exact hB.trans ((below_regrown _ p.d p.os).mono hB.size)
        clear hw9 gF k0 k1 k2 k3 kc
        obtain ⟨q1, q2⟩ := q
        by_cases hz : q2 = 0
        · have hn : fitT L F Rc U (t.headD []).length (k + 1) (t.drop (k + 1)) = Y := by
            rw [← HN.out, HD.out, fitT, ← HX0.out, ← HQ.out, if_pos hz]
          have HNN := Lib.hid hn; clear hn
          subst hz
          go_wp2
          exact ⟨⟨k + 1, by omega, by go_num, HNN.out, bel2⟩, by simp [intOf]; omega⟩
        · have hn : Y = ((k : Int), q1, q2) := by
            rw [← HN.out, HD.out, fitT, ← HX0.out, ← HQ.out, if_neg hz]
          subst hn
          have d : ((q2 : Int) != 0) = true := by rw [bne_iff_ne]; omega
          clear hz
          go_wp2
          refine bodyPost_ret (v := .tuple #[.int .i64 k, .int .i64 q1, .int .i64 q2]) (by simp [results, Try.results23, go_sem]) rfl (HR.out _ _ ⟨rfl, b01.trans (bel2.mono b01.size)⟩)
      · have hn : Y = (0, 0, 0) := by
          rw [← HN.out, List.drop_of_length_le (by omega), fitT]
        subst hn
        go_wp2
        refine bodyPost_ret (v := .tuple #[.int .i64 0, .int .i64 0, .int .i64 (0 : Nat)]) (by simp [results, Try.results23, go_sem]) rfl (HR.out _ _ ⟨rfl, b01.trans (hB.mono b01.size)⟩)
end Go.Proofs.Ytamhdlopchhdjaa

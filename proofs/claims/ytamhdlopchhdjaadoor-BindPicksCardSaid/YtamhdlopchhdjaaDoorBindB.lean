/- Layer 19: Bind, and the reference's. -/
import Derived.Test.YtamhdlopchhdjaaDoorBindA
namespace Go.Proofs.YtamhdlopchhdjaaDoor
open Go.RowKit Go.ChangeShapes Go.WideShapes
set_option linter.unusedVariables false
set_option linter.unusedSimpArgs false

theorem namesC_get {l : List Col} {k : Nat} (h : k < (namesC l).length) (h' : k < l.length) : (namesC l)[k] = l[k].name := by simp [namesC]
theorem posF_at : ∀ {l : Row} {s : ByteArray}, s ∈ l → ∀ j : Nat, l[(posF j l s - j).toNat]? = some s
  | a :: l, s, h, j => by
    rw [posF]
    split
    · rename_i he
      rw [Int.sub_self]
      simp [he]
    · rename_i hne
      have hm : s ∈ l := by
        rcases List.mem_cons.1 h with e | e
        · exact absurd e.symm hne
        · exact e
      have h1 := posF_at hm (j + 1)
      have h2 := posF_some hm (j + 1)
      rw [show (posF (j + 1) l s - (j : Int)).toNat = (posF (j + 1) l s - ((j + 1 : Nat) : Int)).toNat + 1 by omega, List.getElem?_cons_succ]
      exact h1
theorem atC_get {l : Row} {s : ByteArray} (h : s ∈ l) : l[atC l s]? = some s := by
  have h1 := posF_at h 0
  rw [show (posF 0 l s - ((0 : Nat) : Int)).toNat = atC l s by unfold atC; omega] at h1
  exact h1
theorem atC_of {l : Row} (hn : l.Nodup) {k : Nat} (hk : k < l.length) : atC l l[k] = k := by
  have hm : l[k] ∈ l := List.getElem_mem hk
  have h1 := atC_get hm
  have hlt := atC_lt hm
  rw [List.getElem?_eq_getElem hlt] at h1
  injection h1 with h1
  have hp := List.pairwise_iff_getElem.1 hn
  rcases Nat.lt_trichotomy (atC l l[k]) k with h | h | h
  · exact absurd h1 (hp _ _ hlt hk h)
  · exact h
  · exact absurd h1.symm (hp _ _ hk hlt h)
theorem nums_mem {names cn : Row} (hn : names.Nodup) (hc : allIn names cn = true) {k : Nat} (hk : k < names.length) : ((k : Int) ∈ numsF names cn) ↔ names[k] ∈ cn := by
  unfold numsF
  constructor
  · intro h
    obtain ⟨s, hs, he⟩ := List.mem_map.1 h
    have hin := allIn_mem hc hs
    have hg := atC_get hin
    have he2 : atC names s = k := by omega
    rw [he2, List.getElem?_eq_getElem hk] at hg
    injection hg with hg
    rw [hg]
    exact hs
  · intro h
    exact List.mem_map.2 ⟨names[k], h, by rw [atC_of hn hk]⟩
/-- Does the column i bind? -/
def okB (names : Row) (mode : Int) (i : Nat) (s : ByteArray) : Bool := decide (s ∈ names) && !(decide (mode = 1) && !decide (atC names s = i))
def badB (names : Row) (mode : Int) : Nat → Row → Nat
  | j, [] => j
  | j, s :: r => if okB names mode j s then badB names mode (j + 1) r else j
def allB (names : Row) (mode : Int) : Nat → Row → Bool
  | _, [] => true
  | j, s :: r => okB names mode j s && allB names mode (j + 1) r
theorem allB_snoc (names : Row) (mode : Int) : ∀ (l : Row) (j : Nat) (x : ByteArray), allB names mode j (l ++ [x]) = (allB names mode j l && okB names mode (j + l.length) x)
  | [], j, x => by simp [allB]
  | a :: l, j, x => by
    rw [List.cons_append, allB, allB, allB_snoc names mode l (j + 1) x, Bool.and_assoc, List.length_cons]
    rw [show j + 1 + l.length = j + (l.length + 1) by omega]
theorem allB_ok (names : Row) (mode : Int) : ∀ (l : Row) (j : Nat), allB names mode j l = true → ∀ (k : Nat) (hk : k < l.length), okB names mode (j + k) l[k] = true
  | a :: l, j, h, k, hk => by
    rw [allB, Bool.and_eq_true] at h
    cases k with
    | zero => exact h.1
    | succ k =>
      have := allB_ok names mode l (j + 1) h.2 k (by simpa using hk)
      rw [show j + (k + 1) = j + 1 + k by omega]
      exact this
theorem allB_in {names : Row} {mode : Int} {cn : Row} (h : allB names mode 0 cn = true) : allIn names cn = true := by
  unfold allIn
  rw [List.all_eq_true]
  intro s hs
  obtain ⟨k, hk, he⟩ := List.mem_iff_getElem.1 hs
  have := allB_ok names mode cn 0 h k hk
  unfold okB at this
  rw [he, Bool.and_eq_true] at this
  exact this.1
/-- What Bind tells: the places, the number, the error's number. -/
def bindF (names : Row) (l : List Col) (mode : Int) : List Int × Nat × Nat :=
  if mode < 1 ∨ 3 < mode then ([], 0, 22)
  else if (chkC l).2 ≠ 0 then ([], (chkC l).1, (chkC l).2)
  else if (newC names).2 ≠ 0 then ([], (newC names).1, (newC names).2)
  else if allB names mode 0 (namesC l) = false then ([], badB names mode 0 (namesC l), 16)
  else if mode ≠ 3 ∧ allIn (namesC l) names = false then ([], misF (namesC l) 0 names, 10)
  else (numsF names (namesC l), l.length, 0)
set_option maxHeartbeats 4000000 in
set_option maxRecDepth 100000 in
theorem bind_any (v u : Value) (names : Row) (l : List Col) (mode : Int) (w : World) (h : RdS w w.heap.size v names) (hu : RdC w w.heap.size u l) (hn : names.length ≤ 100000) (hl : l.length ≤ 100000)
    (hs : ∀ s ∈ names, s.size ≤ 100000) (hc : ∀ c ∈ l, c.name.size ≤ 100000) (hT : Tab w) :
    Calls Tryd.prog 28 #[v, u, .int .i64 mode] w fun e w' => ∃ o, e = .returned (.tuple #[o, .int .i64 (bindF names l mode).2.1, .int .i64 (bindF names l mode).2.2]) ∧ Own w' w.heap.size 3 1 o (bindF names l mode).1.length (intV (bindF names l mode).1) ∧ Below w.heap.size w w' := by
  refine cps fun R HR => ?_
  obtain ⟨i0, hi0, hz0, hz1, hz2⟩ := info_parts int_info
  obtain ⟨Y, hY⟩ : ∃ Y, Y = bindF names l mode := ⟨_, rfl⟩
  rw [← hY] at HR
  unfold bindF at hY
  have HY := Lib.hid hY; have HS := Lib.hid hs; have HC := Lib.hid hc; have HT := Lib.hid hT
  clear hY hs hc hT
  have h0 := h
  have hu0 := hu
  obtain ⟨A, c, rfl, -⟩ := h.is
  obtain ⟨A2, c2, rfl, -⟩ := hu.is
  have hfn := h0.few
  have hfl := RdF.few hu0
  clear h hu
  go_enter Tryd.func28, Tryd.ntmps28
  by_cases hm : mode < 1 ∨ 3 < mode
  · have hy := HY.out
    rw [if_pos hm] at hy
    subst hy
    rcases hm with hm | hm
    · have d1 : decide (mode < 1) = true := decide_eq_true hm
      clear hm
      go_wp2
      refine bodyPost_ret (v := .tuple #[.slice none 0 0, .int .i64 (0 : Nat), .int .i64 (22 : Nat)]) (by simp [results, Tryd.results28, go_sem]) rfl (HR.out _ _ ⟨_, rfl, Own.nil_ _ _ _ _, Below.refl _ _⟩)
    · have d1 : decide (mode < 1) = false := decide_eq_false (by omega)
      have d2 : decide (3 < mode) = true := decide_eq_true hm
      clear hm
      go_wp2
      refine bodyPost_ret (v := .tuple #[.slice none 0 0, .int .i64 (0 : Nat), .int .i64 (22 : Nat)]) (by simp [results, Tryd.results28, go_sem]) rfl (HR.out _ _ ⟨_, rfl, Own.nil_ _ _ _ _, Below.refl _ _⟩)
  · have d1 : decide (mode < 1) = false := decide_eq_false (by omega)
    have d2 : decide (3 < mode) = false := decide_eq_false (by omega)
    have hy2 := HY.out
    rw [if_neg hm] at hy2
    have HY2 := Lib.hid hy2
    clear HY hy2 hm
    obtain ⟨cn, hcn⟩ : ∃ cn, cn = chkC l := ⟨_, rfl⟩
    have HCN := Lib.hid hcn
    clear hcn
    go_wp2_with fail
    refine (schCheck_any _ l _ hu0 hl HC.out HT.out).mono ?_
    rintro e w1 ⟨rfl, b1⟩
    rw [← HCN.out]
    obtain ⟨cp, ce⟩ := cn
    by_cases hce : ce = 0
    · subst hce
      have hy3 := HY2.out
      rw [← HCN.out, if_neg (by simp)] at hy3
      have HY3 := Lib.hid hy3
      clear HY2 hy3
      obtain ⟨nn, hnn⟩ : ∃ nn, nn = newC names := ⟨_, rfl⟩
      have HNN := Lib.hid hnn
      clear hnn
      go_wp2_with fail
      refine (new_any _ names _ (h0.next b1) hn HS.out (HT.out.below b1)).mono ?_
      rintro e w2 ⟨hd, rfl, hhd, hhn, b2⟩
      rw [← HNN.out] at hhd hhn ⊢
      have bw2 := b1.trans (b2.mono b1.size)
      obtain ⟨np, ne⟩ := nn
      by_cases hne : ne = 0
      · subst hne
        have hy4 := HY3.out
        rw [← HNN.out, if_neg (by simp)] at hy4
        have HY4 := Lib.hid hy4
        clear HY3 hy4
        have hh := hhd rfl
        obtain ⟨gh, bh, vh, rfl, -⟩ := hh.is
        clear hhd hhn
        obtain ⟨L, hL⟩ : ∃ L, L = namesC l := ⟨_, rfl⟩
        have hLl : L.length = l.length := by rw [hL, namesC_len]
        rw [← hL] at HY4
        have HL := Lib.hid hL; have HLL := Lib.hid hLl
        clear hL hLl
        go_wp2
        go_loopw [14, 47] (fun o i wr => ∃ k : Nat, k ≤ l.length ∧ i = .int .i64 k ∧ allB names mode 0 (L.take k) = true ∧ badB names mode k (L.drop k) = badB names mode 0 L ∧ Own wr w2.heap.size 3 1 o k (intV (numsF names (L.take k))) ∧ Below w2.heap.size w2 wr) (fun _ i _ => l.length - (intOf i).toNat)
        case atStart => exact ⟨0, Nat.zero_le _, rfl, rfl, rfl, Own.nil_ _ _ _ _, Below.refl _ _⟩
        case round =>
          obtain ⟨k, hk, rfl, hA, hI, hO, hB⟩ := hrel
          have HA := Lib.hid hA; have HI := Lib.hid hI
          clear hA hI
          by_cases hlt : k < l.length
          · obtain ⟨a, c3, hv, q0, q1, q2⟩ := RdC.at ((RdF.next hu0 bw2).below hB) hlt
            injection hv with hA _ hcc
            subst hA
            subst hcc
            have hltL : k < L.length := by rw [HLL.out]; exact hlt
            have hs0 : l[k].name = L[k] := by
              have := HL.out
              subst this
              exact (namesC_get hltL hlt).symm
            have hs1 : L.take (k + 1) = L.take k ++ [L[k]] := List.take_succ_eq_append_getElem hltL
            have hs2 : L.drop k = L[k] :: L.drop (k + 1) := List.drop_eq_getElem_cons hltL
            have hs3 := numsF_snoc names L hltL
            have hs4 : l[k].name.size ≤ 100000 := HC.out _ (List.getElem_mem hlt)
            have hs5 : allB names mode 0 L = true → okB names mode k L[k] = true := fun hh => by
              have := allB_ok names mode L 0 hh k hltL
              rw [Nat.zero_add] at this
              exact this
            obtain ⟨x, hx⟩ : ∃ x, x = l[k] := ⟨_, rfl⟩
            rw [← hx] at q0 q1 q2 hs0 hs4
            rw [← hs0] at hs1 hs2 hs3 hs5
            obtain ⟨xn, xk, xu⟩ := x
            have S1 := Lib.hid hs1; have S2 := Lib.hid hs2; have S3 := Lib.hid hs3; have S5 := Lib.hid hs5
            clear hx hs0 hs1 hs2 hs3 hs5
            have dk : decide ((k : Int) < l.length) = true := decide_eq_true (by omega)
            have hOw := hO.below ((Below.refl wr.heap.size wr).alloc (Nat.le_refl _) (.cells #[.string xn, .int .i64 xk, .bool xu] 74)) (Nat.le_refl _)
            have hBw := hB.alloc hB.size (.cells #[.string xn, .int .i64 xk, .bool xu] 74)
            have hhw := hh.keep hBw
            obtain ⟨tw, htw⟩ : ∃ tw, tw = decide (xn ∈ names) := ⟨_, rfl⟩
            obtain ⟨ct, hct⟩ : ∃ ct, ct = atC names xn := ⟨_, rfl⟩
            have HTW := Lib.hid htw; have HCT := Lib.hid hct
            clear htw hct
            go_wp2_with fail
            refine (hat_any _ names xn _ hhw hs4).mono ?_
            rintro e w4 ⟨rfl, rfl⟩
            rw [← HTW.out, ← HCT.out]
            obtain ⟨ok, hok⟩ : ∃ ok, ok = okB names mode k xn := ⟨_, rfl⟩
            have HOK := Lib.hid hok
            unfold okB at hok
            rw [← HTW.out, ← HCT.out] at hok
            cases tw
            · have hno : ok = false := by rw [hok]; rfl
              have hall : allB names mode 0 L = false := by
                rw [Bool.eq_false_iff]
                intro hh
                have := S5.out hh
                rw [← HOK.out, hno] at this
                cases this
              have hy := HY4.out
              rw [hall, if_pos rfl, ← HI.out, S2.out, badB, ← HOK.out, hno, if_neg (by simp)] at hy
              subst hy
              clear hno hall hok
              go_wp2
              refine bodyPost_ret (v := .tuple #[.slice none 0 0, .int .i64 k, .int .i64 (16 : Nat)]) (by simp [results, Tryd.results28, go_sem]) rfl (HR.out _ _ ⟨_, rfl, Own.nil_ _ _ _ _, bw2.trans (hBw.mono bw2.size)⟩)
            · by_cases hm1 : mode = 1 ∧ ct ≠ k
              · have hno : ok = false := by rw [hok, decide_eq_true hm1.1, decide_eq_false hm1.2]; rfl
                have hall : allB names mode 0 L = false := by
                  rw [Bool.eq_false_iff]
                  intro hh
                  have := S5.out hh
                  rw [← HOK.out, hno] at this
                  cases this
                have hy := HY4.out
                rw [hall, if_pos rfl, ← HI.out, S2.out, badB, ← HOK.out, hno, if_neg (by simp)] at hy
                subst hy
                obtain ⟨rfl, hm2⟩ := hm1
                have dm : ((ct : Int) != (k : Int)) = true := by rw [bne_iff_ne]; omega
                clear hno hall hok hm2
                go_wp2
                refine bodyPost_ret (v := .tuple #[.slice none 0 0, .int .i64 k, .int .i64 (16 : Nat)]) (by simp [results, Tryd.results28, go_sem]) rfl (HR.out _ _ ⟨_, rfl, Own.nil_ _ _ _ _, bw2.trans (hBw.mono bw2.size)⟩)
              · have hyes : ok = true := by
                  rw [hok]
                  by_cases h1 : mode = 1
                  · rw [decide_eq_true h1, decide_eq_true (show ct = k by omega)]; rfl
                  · rw [decide_eq_false h1]; rfl
                have ha2 : allB names mode 0 (L.take (k + 1)) = true := by
                  have hlk : (L.take k).length = k := by rw [List.length_take]; omega
                  rw [S1.out, allB_snoc, HA.out, hlk, Nat.zero_add, ← HOK.out, hyes]; rfl
                have hi2 : badB names mode (k + 1) (L.drop (k + 1)) = badB names mode 0 L := by rw [← HI.out, S2.out, badB, ← HOK.out, hyes, if_pos rfl]
                have A2 := Lib.hid ha2; have I2 := Lib.hid hi2
                clear ha2 hi2 hyes hok
                by_cases h1 : mode = 1
                · subst h1
                  have hck : ct = k := by omega
                  have dm : ((ct : Int) != (k : Int)) = false := by simp [hck]
                  clear hm1 hck
                  go_wp2_with (at_builtin; refine wpList_push rfl _ _ _ rfl w2.heap.size 3 i0 _ 8 Tryd.underlying37 hi0 hz0 hz1 hz2 rfl (by omega) u14 k _ (.int .i64 ct) rfl hOw (by simp [Act.eval]) rfl (by omega) hBw.size ?_; intro v5 w5 hown5 hg5 hat5)
                  exact ⟨⟨k + 1, by omega, by go_num, A2.out, I2.out, by rw [S3.out, intV_snoc, ← HCT.out]; exact hown5, below_grown hBw hg5 (fun g hg => (hO.lt g hg).1) hBw.size⟩, by simp [intOf]; omega⟩
                · have dm : (mode == 1) = false := by rw [beq_eq_false_iff_ne]; exact h1
                  clear hm1 h1
                  go_wp2_with (at_builtin; refine wpList_push rfl _ _ _ rfl w2.heap.size 3 i0 _ 8 Tryd.underlying37 hi0 hz0 hz1 hz2 rfl (by omega) u14 k _ (.int .i64 ct) rfl hOw (by simp [Act.eval]) rfl (by omega) hBw.size ?_; intro v5 w5 hown5 hg5 hat5)
                  exact ⟨⟨k + 1, by omega, by go_num, A2.out, I2.out, by rw [S3.out, intV_snoc, ← HCT.out]; exact hown5, below_grown hBw hg5 (fun g hg => (hO.lt g hg).1) hBw.size⟩, by simp [intOf]; omega⟩
          · obtain rfl : k = l.length := by omega
            have hall := HA.out
            have hLt : L.take l.length = L := by rw [← HLL.out, List.take_length]
            rw [hLt] at hall hO
            have hy5 := HY4.out
            rw [hall, if_neg (by simp)] at hy5
            have HY5 := Lib.hid hy5; have HALL := Lib.hid hall
            have hnl : (numsF names L).length = l.length := by unfold numsF; rw [List.length_map, HLL.out]
            have HNL := Lib.hid hnl
            obtain ⟨oA, oc, rfl, -⟩ := hO.form
            clear hlt hall hy5 hLt hnl
            by_cases h3 : mode = 3
            · subst h3
              have hy := HY5.out
              rw [if_neg (by simp)] at hy
              subst hy
              go_wp2
              refine bodyPost_ret (v := .tuple #[.slice oA l.length oc, .int .i64 l.length, .int .i64 (0 : Nat)]) (by simp [results, Tryd.results28, go_sem]) rfl (HR.out _ _ ⟨_, rfl, by rw [HNL.out]; exact hO.mono bw2.size, bw2.trans (hB.mono bw2.size)⟩)
            · have dm : (mode != 3) = true := by rw [bne_iff_ne]; exact h3
              have hr := RdI.of_own hO
              have H3 := Lib.hid h3
              clear h3
              obtain ⟨w4, rfl⟩ : ∃ w4 : World, w4 = wr := ⟨_, rfl⟩
              have hn4 := hh.nodup
              have HN4 := Lib.hid hn4
              clear hn4
              go_wp2
              go_loopw [80] (fun i wr => ∃ k : Nat, k ≤ names.length ∧ i = .int .i64 k ∧ allIn L (names.take k) = true ∧ misF L k (names.drop k) = misF L 0 names ∧ wr = w4) (fun i _ => names.length - (intOf i).toNat)
              case atStart => exact ⟨0, Nat.zero_le _, rfl, rfl, rfl, rfl⟩
              case round =>
                obtain ⟨k, hk, rfl, hA, hI, rfl⟩ := hrel
                have HA := Lib.hid hA; have HI := Lib.hid hI
                clear hA hI
                by_cases hlt : k < names.length
                · have hmem := nums_mem HN4.out (allB_in HALL.out) hlt
                  have hs1 := allIn_snoc L names hlt
                  have hs2 : names.drop k = names[k] :: names.drop (k + 1) := List.drop_eq_getElem_cons hlt
                  have hs5 : allIn L names = true → names[k] ∈ L := fun hh => allIn_mem hh (List.getElem_mem hlt)
                  obtain ⟨x, hx⟩ : ∃ x, x = names[k] := ⟨_, rfl⟩
                  rw [← hx] at hmem hs1 hs2 hs5
                  have S1 := Lib.hid hs1; have S2 := Lib.hid hs2; have S5 := Lib.hid hs5
                  obtain ⟨tw, htw⟩ : ∃ tw, tw = decide (x ∈ L) := ⟨_, rfl⟩
                  have hcm : decide ((k : Int) ∈ numsF names L) = tw := by rw [htw, Bool.eq_iff_iff, decide_eq_true_iff, decide_eq_true_iff]; exact hmem
                  have HCM := Lib.hid hcm; have HTW := Lib.hid htw
                  clear hx hmem hs1 hs2 hs5 htw hcm
                  have dk : decide ((k : Int) < names.length) = true := decide_eq_true (by omega)
                  go_wp2_with fail
                  refine (containsInt_any _ (numsF names L) (k : Int) _ hr).mono ?_
                  rintro e w5 ⟨rfl, rfl⟩
                  rw [HCM.out]
                  cases tw
                  · have hno : allIn L names = false := by
                      rw [Bool.eq_false_iff]
                      intro hh
                      exact of_decide_eq_false HTW.out.symm (S5.out hh)
                    have hy := HY5.out
                    rw [if_pos ⟨H3.out, hno⟩, ← HI.out, S2.out, misF, if_neg (of_decide_eq_false HTW.out.symm)] at hy
                    subst hy
                    clear hno
                    go_wp2
                    refine bodyPost_ret (v := .tuple #[.slice none 0 0, .int .i64 k, .int .i64 (10 : Nat)]) (by simp [results, Tryd.results28, go_sem]) rfl (HR.out _ _ ⟨_, rfl, Own.nil_ _ _ _ _, bw2.trans (hB.mono bw2.size)⟩)
                  · have ha2 : allIn L (names.take (k + 1)) = true := by rw [S1.out, HA.out, ← HTW.out]; rfl
                    have hi2 : misF L (k + 1) (names.drop (k + 1)) = misF L 0 names := by rw [← HI.out, S2.out, misF, if_pos (of_decide_eq_true HTW.out.symm)]
                    have A2 := Lib.hid ha2; have I2 := Lib.hid hi2
                    clear ha2 hi2
                    go_wp2
                    exact ⟨⟨k + 1, by omega, by go_num, A2.out, I2.out, trivial⟩, by simp [intOf]; omega⟩
                · obtain rfl : k = names.length := by omega
                  have hall := HA.out
                  rw [List.take_length] at hall
                  have hy := HY5.out
                  rw [if_neg (fun h => by rw [hall] at h; cases h.2)] at hy
                  subst hy
                  clear hlt hall
                  go_wp2
                  refine bodyPost_ret (v := .tuple #[.slice oA l.length oc, .int .i64 l.length, .int .i64 (0 : Nat)]) (by simp [results, Tryd.results28, go_sem]) rfl (HR.out _ _ ⟨_, rfl, by rw [HNL.out]; exact hO.mono bw2.size, bw2.trans (hB.mono bw2.size)⟩)
      · have hy := HY3.out
        rw [← HNN.out, if_pos hne] at hy
        subst hy
        have hz2 := hhn hne
        subst hz2
        have dc : ((ne : Int) != 0) = true := by rw [bne_iff_ne]; omega
        clear hne hhd hhn
        go_wp2
        refine bodyPost_ret (v := .tuple #[.slice none 0 0, .int .i64 np, .int .i64 ne]) (by simp [results, Tryd.results28, go_sem]) rfl (HR.out _ _ ⟨_, rfl, Own.nil_ _ _ _ _, bw2⟩)
    · have hy := HY2.out
      rw [← HCN.out, if_pos hce] at hy
      subst hy
      have dc : ((ce : Int) != 0) = true := by rw [bne_iff_ne]; omega
      clear hce
      go_wp2
      refine bodyPost_ret (v := .tuple #[.slice none 0 0, .int .i64 cp, .int .i64 ce]) (by simp [results, Tryd.results28, go_sem]) rfl (HR.out _ _ ⟨_, rfl, Own.nil_ _ _ _ _, b1⟩)
end Go.Proofs.YtamhdlopchhdjaaDoor

/- Layer 25: places. -/
import Derived.Test.YtgiemhooeoakmaaDoorDifB
namespace Go.Proofs.YtgiemhooeoakmaaDoor
open Go.RowKit Go.ChangeShapes Go.WideShapes
set_option linter.unusedVariables false
set_option linter.unusedSimpArgs false

theorem chkF_nodup : ∀ (l : List Col) (j : Nat) (seen : Row), (chkF j seen l).2 = 0 → (namesC l).Nodup ∧ ∀ s ∈ namesC l, s ∉ seen
  | [], j, seen, h => ⟨List.nodup_nil, fun s hs => by cases hs⟩
  | c :: r, j, seen, h => by
    have hn : namesC (c :: r) = c.name :: namesC r := rfl
    rw [chkF] at h
    split at h
    · cases h
    · split at h
      · cases h
      · split at h
        · cases h
        · rename_i hno
          obtain ⟨h1, h2⟩ := chkF_nodup r _ _ h
          rw [hn]
          refine ⟨List.nodup_cons.2 ⟨fun hm => h2 _ hm (by simp), h1⟩, fun s hs => ?_⟩
          rcases List.mem_cons.1 hs with rfl | hs
          · exact hno
          · exact fun hq => h2 s hs (by simp [hq])
theorem chkC_nodup {l : List Col} (h : (chkC l).2 = 0) : (namesC l).Nodup := by
  unfold chkC at h
  split at h
  · cases h
  · exact (chkF_nodup l 0 [] h).1
theorem atC_mem {names ks : Row} {k : ByteArray} (hk : k ∈ names) (ha : allIn names ks = true) : ((atC names k : Int) ∈ numsF names ks) ↔ k ∈ ks := by
  unfold numsF
  constructor
  · intro h
    obtain ⟨s, hs, he⟩ := List.mem_map.1 h
    have h1 := atC_get (allIn_mem ha hs)
    have h2 := atC_get hk
    have he2 : atC names s = atC names k := by omega
    rw [he2, h2] at h1
    injection h1 with h1
    rw [h1]
    exact hs
  · intro h
    exact List.mem_map.2 ⟨k, h, rfl⟩
/-- The first key that may not be, so many being behind; the error's number. -/
def plF (names : Row) : Nat → Row → Row → Nat × Nat
  | j, _, [] => (j, 0)
  | j, seen, k :: r => if k ∈ names then if k ∈ seen then (j, 15) else plF names (j + 1) (seen ++ [k]) r else (j, 16)
def plC (l : List Col) (keys : Row) : Nat × Nat := if (chkC l).2 ≠ 0 then (0, (chkC l).2) else if keys = [] then (0, 13) else plF (namesC l) 0 [] keys
def plO (l : List Col) (keys : Row) : List Int := if (plC l keys).2 = 0 then numsF (namesC l) keys else []
theorem plF_len (names : Row) : ∀ (r : Row) (j : Nat) (seen : Row), (plF names j seen r).2 = 0 → (plF names j seen r).1 = j + r.length ∧ ∀ k ∈ r, k ∈ names
  | [], j, seen, h => ⟨rfl, fun k hk => by cases hk⟩
  | k :: r, j, seen, h => by
    rw [plF] at h ⊢
    split
    · rename_i h1
      rw [if_pos h1] at h
      split
      · rename_i h2; rw [if_pos h2] at h; cases h
      · rename_i h2
        rw [if_neg h2] at h
        obtain ⟨h3, h4⟩ := plF_len names r _ _ h
        refine ⟨by rw [h3]; simp; omega, fun q hq => ?_⟩
        rcases List.mem_cons.1 hq with rfl | hq
        · exact h1
        · exact h4 q hq
    · rename_i h1; rw [if_neg h1] at h; cases h
set_option maxHeartbeats 2000000 in
theorem places_any (v u : Value) (l : List Col) (keys : Row) (w : World) (h : RdC w w.heap.size v l) (hu : RdS w w.heap.size u keys) (hl : l.length ≤ 100000) (hk : keys.length ≤ 100000) (hc : ∀ c ∈ l, c.name.size ≤ 100000) (hT : Tab w) :
    Calls Tryd.prog 59 #[v, u] w fun e w' => ∃ o, e = .returned (.tuple #[o, .int .i64 (plC l keys).1, .int .i64 (plC l keys).2]) ∧ Own w' w.heap.size 3 1 o (plO l keys).length (intV (plO l keys)) ∧ Below w.heap.size w w' := by
  refine cps fun R HR => ?_
  obtain ⟨i0, hi0, hz0, hz1, hz2⟩ := info_parts int_info
  have h0 := h
  have hu0 := hu
  obtain ⟨A, c, rfl, -⟩ := h.is
  obtain ⟨A2, c2, rfl, -⟩ := hu.is
  have hfk := hu0.few
  clear h hu
  obtain ⟨O, hO⟩ : ∃ O, O = plO l keys := ⟨_, rfl⟩
  obtain ⟨Y, hY⟩ : ∃ Y, Y = plC l keys := ⟨_, rfl⟩
  rw [← hO, ← hY] at HR
  unfold plO at hO
  rw [← hY] at hO
  unfold plC at hY
  have HY := Lib.hid hY; have HOO := Lib.hid hO; have HC := Lib.hid hc; have HT := Lib.hid hT
  clear hY hO hc hT
  obtain ⟨cn, hcn⟩ : ∃ cn, cn = chkC l := ⟨_, rfl⟩
  have HCN := Lib.hid hcn
  clear hcn
  go_enter Tryd.func59, Tryd.ntmps59
  go_wp2_with fail
  refine (schCheck_any _ l _ h0 hl HC.out HT.out).mono ?_
  rintro e w1 ⟨rfl, b1⟩
  rw [← HCN.out]
  obtain ⟨cp, ce⟩ := cn
  by_cases hce : ce = 0
  · subst hce
    have hy2 := HY.out
    rw [← HCN.out, if_neg (by simp)] at hy2
    have HND := Lib.hid (chkC_nodup (l := l) (by rw [← HCN.out]))
    by_cases hn : keys = []
    · subst hn
      rw [if_pos rfl] at hy2
      subst hy2
      have ho := HOO.out
      rw [if_neg (by simp)] at ho
      subst ho
      go_wp2
      refine bodyPost_ret (v := .tuple #[.slice none 0 0, .int .i64 (0 : Nat), .int .i64 (13 : Nat)]) (by simp [results, Tryd.results59, go_sem]) rfl (HR.out _ _ ⟨_, rfl, Own.nil_ _ _ _ _, b1⟩)
    · have hpos : 0 < keys.length := List.length_pos_iff.2 hn
      have d : ((keys.length : Int) == 0) = false := by rw [beq_eq_false_iff_ne]; omega
      rw [if_neg hn] at hy2
      obtain ⟨L, hL⟩ : ∃ L, L = namesC l := ⟨_, rfl⟩
      rw [← hL] at hy2
      have HL := Lib.hid hL; have HY2 := Lib.hid hy2
      clear hn hL hy2
      go_wp2
      go_loopw [9, 28] (fun o i wr => ∃ k : Nat, k ≤ keys.length ∧ i = .int .i64 k ∧ plF L k (keys.take k) (keys.drop k) = Y ∧ allIn L (keys.take k) = true ∧ Own wr w1.heap.size 3 1 o k (intV (numsF L (keys.take k))) ∧ Below w1.heap.size w1 wr) (fun _ i _ => keys.length - (intOf i).toNat)
      case atStart => exact ⟨0, Nat.zero_le _, rfl, HY2.out.symm, rfl, Own.nil_ _ _ _ _, Below.refl _ _⟩
      case round =>
        obtain ⟨k, hk, rfl, hN, hA, hO, hB⟩ := hrel
        have HN := Lib.hid hN; have HA := Lib.hid hA
        have bwr := b1.trans (hB.mono b1.size)
        clear hN hA
        by_cases hlt : k < keys.length
        · obtain ⟨p, c4, hv, hc⟩ := (hu0.below bwr).at hlt
          injection hv with hA _ hcc
          subst hA
          subst hcc
          have hs1 : keys.take (k + 1) = keys.take k ++ [keys[k]] := List.take_succ_eq_append_getElem hlt
          have hs2 : keys.drop k = keys[k] :: keys.drop (k + 1) := List.drop_eq_getElem_cons hlt
          have hs3 := numsF_snoc L keys hlt
          have hs4 := allIn_snoc L keys hlt
          obtain ⟨x, hx⟩ : ∃ x, x = keys[k] := ⟨_, rfl⟩
          rw [← hx] at hc hs1 hs2 hs3 hs4
          have S1 := Lib.hid hs1; have S2 := Lib.hid hs2; have S3 := Lib.hid hs3; have S4 := Lib.hid hs4
          clear hx hs1 hs2 hs3 hs4
          have dk : decide ((k : Int) < keys.length) = true := decide_eq_true (by omega)
          obtain ⟨fc, hfc⟩ : ∃ fc, fc = findC l x := ⟨_, rfl⟩
          obtain ⟨tw, htw⟩ : ∃ tw, tw = decide (x ∈ L) := ⟨_, rfl⟩
          obtain ⟨ct, hct⟩ : ∃ ct, ct = atC L x := ⟨_, rfl⟩
          have HFC := Lib.hid hfc; have HTW := Lib.hid htw; have HCT := Lib.hid hct
          clear hfc htw hct
          go_wp2_with fail
          refine (find_any _ l x _ (RdF.next h0 bwr)).mono ?_
          rintro e w4 ⟨rfl, b4⟩
          rw [← HFC.out, ← HL.out, ← HTW.out, ← HCT.out]
          have hB4 := hB.trans (b4.mono hB.size)
          have hO4 := hO.below b4 (Nat.le_refl _)
          obtain ⟨fcn, fck, fcu⟩ := fc
          have hB5 := hB4.alloc hB4.size (.cells #[.string fcn, .int .i64 fck, .bool fcu] 99)
          have hO5 := hO4.below ((Below.refl _ _).alloc (Nat.le_refl _) (.cells #[.string fcn, .int .i64 fck, .bool fcu] 99)) (Nat.le_refl _)
          have hrO := RdI.of_own hO5
          cases tw
          · have hy := HN.out
            rw [S2.out, plF, if_neg (of_decide_eq_false HTW.out.symm)] at hy
            subst hy
            have ho := HOO.out
            rw [if_neg (by simp)] at ho
            subst ho
            go_wp2
            refine bodyPost_ret (v := .tuple #[.slice none 0 0, .int .i64 k, .int .i64 (16 : Nat)]) (by simp [results, Tryd.results59, go_sem]) rfl (HR.out _ _ ⟨_, rfl, Own.nil_ _ _ _ _, b1.trans (hB5.mono b1.size)⟩)
          · have hin := of_decide_eq_true HTW.out.symm
            have hmem := atC_mem hin HA.out
            rw [← HCT.out] at hmem
            obtain ⟨tm, htm⟩ : ∃ tm, tm = decide (x ∈ keys.take k) := ⟨_, rfl⟩
            have hcm : decide ((ct : Int) ∈ numsF L (keys.take k)) = tm := by rw [htm, Bool.eq_iff_iff, decide_eq_true_iff, decide_eq_true_iff]; exact hmem
            have HCM := Lib.hid hcm; have HTM := Lib.hid htm; have HIN := Lib.hid hin
            clear hmem htm hcm hin
            go_wp2_with fail
            refine (containsInt_any _ (numsF L (keys.take k)) (ct : Int) _ hrO).mono ?_
            rintro e w5 ⟨rfl, rfl⟩
            rw [HCM.out]
            cases tm
            · have hn2 : plF L (k + 1) (keys.take (k + 1)) (keys.drop (k + 1)) = Y := by
                have h := HN.out
                rw [S2.out, plF, if_pos HIN.out, if_neg (of_decide_eq_false HTM.out.symm), ← S1.out] at h
                exact h
              have ha2 : allIn L (keys.take (k + 1)) = true := by rw [S4.out, HA.out, ← HTW.out]; rfl
              have N2 := Lib.hid hn2; have A2 := Lib.hid ha2
              clear hn2 ha2 hrO
              go_wp2_with (at_builtin; refine wpList_push rfl _ _ _ rfl w1.heap.size 3 i0 _ 8 Tryd.underlying102 hi0 hz0 hz1 hz2 rfl (by omega) u9 k _ (.int .i64 ct) rfl hO5 (by simp [Act.eval]) rfl (by omega) hB5.size ?_; intro v5 w6 hown5 hg5 hat5)
              exact ⟨⟨k + 1, by omega, by go_num, N2.out, A2.out, by rw [S3.out, intV_snoc, ← HCT.out]; exact hown5, below_grown hB5 hg5 (fun g hg => (hO.lt g hg).1) hB5.size⟩, by simp [intOf]; omega⟩
            · have hy := HN.out
              rw [S2.out, plF, if_pos HIN.out, if_pos (of_decide_eq_true HTM.out.symm)] at hy
              subst hy
              have ho := HOO.out
              rw [if_neg (by simp)] at ho
              subst ho
              go_wp2
              refine bodyPost_ret (v := .tuple #[.slice none 0 0, .int .i64 k, .int .i64 (15 : Nat)]) (by simp [results, Tryd.results59, go_sem]) rfl (HR.out _ _ ⟨_, rfl, Own.nil_ _ _ _ _, b1.trans (hB5.mono b1.size)⟩)
        · obtain rfl : k = keys.length := by omega
          have hy := HN.out
          rw [List.drop_length, plF] at hy
          subst hy
          have ho := HOO.out
          rw [if_pos rfl, ← HL.out] at ho
          rw [List.take_length, ← ho] at hO
          have hOl : O.length = keys.length := by rw [ho]; unfold numsF; rw [List.length_map]
          have HOL := Lib.hid hOl
          obtain ⟨oA, oc, rfl, -⟩ := hO.form
          clear hlt ho hOl
          go_wp2
          refine bodyPost_ret (v := .tuple #[.slice oA keys.length oc, .int .i64 keys.length, .int .i64 (0 : Nat)]) (by simp [results, Tryd.results59, go_sem]) rfl (HR.out _ _ ⟨_, rfl, by rw [HOL.out]; exact hO.mono b1.size, bwr⟩)
  · have hy := HY.out
    rw [← HCN.out, if_pos hce] at hy
    subst hy
    have ho := HOO.out
    rw [if_neg hce] at ho
    subst ho
    have dc : ((ce : Int) != 0) = true := by rw [bne_iff_ne]; omega
    clear hce
    go_wp2
    refine bodyPost_ret (v := .tuple #[.slice none 0 0, .int .i64 (0 : Nat), .int .i64 ce]) (by simp [results, Tryd.results59, go_sem]) rfl (HR.out _ _ ⟨_, rfl, Own.nil_ _ _ _ _, b1⟩)
end Go.Proofs.YtgiemhooeoakmaaDoor

/- Layer 23, the reference: right; the law's pairs. Layer 23, the reference: Check. Layer 23, the reference: Columns. Layer 23, plain: what the laws say of join. Layer 23, the law: is a case short? How a case is opened. -/
import Derived.Test.YtgiemhooeoakmaaDoorKI
import Derived.Test.YtgiemhooeoakmaaDoorKC
import Derived.Test.YtgiemhooeoakmaaDoorKG
import Derived.Test.YtgiemhooeoakmaaDoorKE
import Derived.Test.YtgiemhooeoakmaaDoorKJ
import Derived.Test.YtgiemhooeoakmaaDoorKH
namespace Go.Proofs.YtgiemhooeoakmaaDoor
open Go.RowKit Go.ChangeShapes Go.WideShapes
set_option linter.unusedVariables false
set_option linter.unusedSimpArgs false

set_option maxHeartbeats 1000000 in
theorem refRight_any (vo : Value) (on : List OnP) (s : ByteArray) (w : World) (ho : RdOn w w.heap.size vo on) :
    Calls Tryd.prog 83 #[vo, .string s] w fun e w' => e = .returned (.bool (rightB on s)) ∧ Below w.heap.size w w' := by
  refine cps fun R HR => ?_
  have ho0 := ho
  have hfo := RdF.few ho0
  obtain ⟨A3, c3, rfl, -⟩ := ho.is
  clear ho
  go_enter Tryd.func83, Tryd.ntmps83
  go_wp2
  go_loopw [9] (fun i wr => ∃ k : Nat, k ≤ on.length ∧ i = .int .i64 k ∧ rightB (on.take k) s = false ∧ Below w.heap.size w wr) (fun i _ => on.length - (intOf i).toNat)
  case atStart => exact ⟨0, Nat.zero_le _, rfl, rfl, Below.refl _ _⟩
  case round =>
    obtain ⟨k, hk, rfl, hN, hB⟩ := hrel
    have HN := Lib.hid hN
    clear hN
    by_cases hlt : k < on.length
    · obtain ⟨p, c6, hv, q0, q1⟩ := RdOn.at (ho0.below hB) hlt
      injection hv with hA hln hcc
      subst hA
      subst hcc
      clear hln
      have hs1 : rightB (on.take (k + 1)) s = (rightB (on.take k) s || decide (on[k].right = s)) := any_take _ on hlt
      have hs2 : decide (on[k].right = s) = true → rightB on s = true := fun h => any_take_le _ on hlt h
      obtain ⟨x, hx⟩ : ∃ x, x = on[k] := ⟨_, rfl⟩
      rw [← hx] at q0 q1 hs1 hs2
      obtain ⟨xl, xr⟩ := x
      dsimp only at q0 q1 hs1 hs2
      have d : (xr.toList == s.toList) = decide (xr = s) := str_eq _ _
      obtain ⟨t, ht⟩ : ∃ t, t = decide (xr = s) := ⟨_, rfl⟩
      rw [← ht] at d hs1 hs2
      have S1 := Lib.hid hs1; have S2 := Lib.hid hs2
      have dk : decide ((k : Int) < on.length) = true := decide_eq_true (by omega)
      have hB1 := hB.alloc hB.size (.cells #[.string xl, .string xr] 140)
      clear hx hs1 hs2 ht
      cases t
      · have hn : rightB (on.take (k + 1)) s = false := by rw [S1.out, HN.out]; rfl
        have HNN := Lib.hid hn
        clear hn
        go_wp2
        exact ⟨⟨k + 1, by omega, by go_num, HNN.out, hB1⟩, by simp [intOf]; omega⟩
      · have hy := S2.out rfl
        have HY := Lib.hid hy
        clear hy
        go_wp2
        exact HR.out _ _ ⟨by rw [HY.out]; try rfl, hB1⟩
    · have hy : rightB on s = false := by rw [← HN.out, List.take_of_length_le (by omega)]
      have HY := Lib.hid hy
      clear hy
      go_wp2
      exact HR.out _ _ ⟨by rw [HY.out]; try rfl, hB⟩
theorem ron_info : (Tryd.prog.info? 140).map (fun i => (i.zero, i.size, i.bytes)) = some (some (.agg #[.string ⟨#[]⟩, .string ⟨#[]⟩]), 2, 32) := by kernel_rfl
set_option maxHeartbeats 1000000 in
theorem lawOn_any (vo : Value) (on : List OnP) (w : World) (ho : RdOn w w.heap.size vo on) (hl : on.length ≤ 100000) :
    Calls Tryd.prog 37 #[vo] w fun e w' => ∃ o, e = .returned o ∧ Own w' w.heap.size 140 2 o on.length (on.flatMap onV) ∧ Below w.heap.size w w' := by
  refine cps fun R HR => ?_
  obtain ⟨i0, hi0, hz0, hz1, hz2⟩ := info_parts ron_info
  have ho0 := ho
  have hfo := RdF.few ho0
  obtain ⟨A3, c3, rfl, -⟩ := ho.is
  clear ho
  go_enter Tryd.func37, Tryd.ntmps37
  go_wp2
  go_loopw [3, 8] (fun o i wr => ∃ k : Nat, k ≤ on.length ∧ i = .int .i64 k ∧ Own wr w.heap.size 140 2 o k ((on.take k).flatMap onV) ∧ Below w.heap.size w wr) (fun _ i _ => on.length - (intOf i).toNat)
  case atStart => exact ⟨0, Nat.zero_le _, rfl, Own.nil_ _ _ _ _, Below.refl _ _⟩
  case round =>
    obtain ⟨k, hk, rfl, hO, hB⟩ := hrel
    by_cases hlt : k < on.length
    · obtain ⟨p, c6, hv, q0, q1⟩ := RdOn.at (ho0.below hB) hlt
      injection hv with hA hln hcc
      subst hA
      subst hcc
      clear hln
      have hs1 : (on.take (k + 1)).flatMap onV = (on.take k).flatMap onV ++ onV on[k] := by rw [List.take_succ_eq_append_getElem hlt, List.flatMap_append, List.flatMap_cons, List.flatMap_nil, List.append_nil]
      obtain ⟨x, hx⟩ : ∃ x, x = on[k] := ⟨_, rfl⟩
      rw [← hx] at q0 q1 hs1
      obtain ⟨xl, xr⟩ := x
      dsimp only at q0 q1
      have ho1 := on_one ⟨xl, xr⟩
      have hv1 : onV ⟨xl, xr⟩ = (#[.string xl, .string xr] : Array Value).toList := rfl
      rw [hv1] at hs1 ho1
      have S1 := Lib.hid hs1; have O1 := Lib.hid ho1
      have dk : decide ((k : Int) < on.length) = true := decide_eq_true (by omega)
      have hOw := hO.below ((Below.refl wr.heap.size wr).alloc (Nat.le_refl _) (.cells #[.string xl, .string xr] 125)) (Nat.le_refl _)
      have hB1 := hB.alloc hB.size (.cells #[.string xl, .string xr] 125)
      clear hx hs1 ho1 hv1
      go_wp2_with (at_builtin; refine wpList_pushF rfl _ _ _ rfl w.heap.size 140 i0 _ 2 32 Tryd.underlying67 hi0 hz0 hz1 hz2 rfl (by omega) (by omega) u3 k _ #[.string xl, .string xr] rfl rfl hOw (by simp [Act.eval]) O1.out (by omega) hB1.size ?_; intro v5 w5 hown5 hg5 hat5)
      exact ⟨⟨k + 1, by omega, by go_num, by rw [S1.out]; exact hown5, below_grown hB1 hg5 (fun g hg => (hO.lt g hg).1) hB1.size⟩, by simp [intOf]; omega⟩
    · obtain rfl : k = on.length := by omega
      rw [List.take_length] at hO
      clear hlt
      go_wp2
      exact HR.out _ _ ⟨_, rfl, hO, hB⟩
end Go.Proofs.YtgiemhooeoakmaaDoor

namespace Go.Proofs.YtgiemhooeoakmaaDoor
open Go.RowKit Go.ChangeShapes Go.WideShapes
set_option linter.unusedVariables false
set_option linter.unusedSimpArgs false

theorem atC_kind {l : List Col} {s : ByteArray} (h : s ∈ namesC l) : ∃ hk : atC (namesC l) s < l.length, (findC l s).kind = l[atC (namesC l) s].kind := by
  have h1 := atC_lt h
  rw [namesC_len] at h1
  refine ⟨h1, ?_⟩
  unfold findC
  rw [if_pos h, List.getD_eq_getElem?_getD, List.getElem?_eq_getElem h1]
  rfl
theorem keepN {W ws w' : World} {p q : Addr} {a b : Value} (hb : Below ws.heap.size ws w') (h1 : ws.cell? p = some a) (h2 : ws.cell? q = some b) (h3 : Below W.heap.size W ws) : w'.cell? p = some a ∧ w'.cell? q = some b ∧ Below W.heap.size W w' :=
  ⟨(hb.cell (World.block_lt_of_cell? ws _ h1)).trans h1, (hb.cell (World.block_lt_of_cell? ws _ h2)).trans h2, keepB hb h3⟩
set_option maxHeartbeats 8000000 in
set_option maxRecDepth 100000 in
theorem rjcheck_any (va vb vo : Value) (a b : List Col) (on : List OnP) (kind : Int) (w : World) (ha : RdRC w w.heap.size va a) (hb : RdRC w w.heap.size vb b) (ho : RdOn w w.heap.size vo on) (hla : a.length ≤ 100000) (hlb : b.length ≤ 100000) (hlo : on.length ≤ 100000)
    (hca : ∀ c ∈ a, c.name.size ≤ 100000) (hcb : ∀ c ∈ b, c.name.size ≤ 100000) :
    Calls Tryd.prog 36 #[va, vb, vo, .int .i64 kind] w fun e w' => e = .returned (.tuple #[.int .i64 (jchk a b on kind).1, .int .i64 (jchk a b on kind).2]) ∧ Below w.heap.size w w' := by
  refine cps fun R HR => ?_
  have ha0 := ha; have hb0 := hb; have ho0 := ho
  obtain ⟨A1, c1, rfl, -⟩ := ha.is
  obtain ⟨A2, c2, rfl, -⟩ := hb.is
  obtain ⟨A3, c3, rfl, -⟩ := ho.is
  clear ha hb ho
  have hcap := ho0.cap
  obtain ⟨Y, hY⟩ : ∃ Y, Y = jchk a b on kind := ⟨_, rfl⟩
  rw [← hY] at HR
  unfold jchk at hY
  have HY := Lib.hid hY; have HCA := Lib.hid hca; have HCB := Lib.hid hcb
  clear hY hca hcb
  obtain ⟨ca, hca⟩ : ∃ n, n = chkC a := ⟨_, rfl⟩
  obtain ⟨cb, hcb⟩ : ∃ n, n = chkC b := ⟨_, rfl⟩
  have HCa := Lib.hid hca; have HCb := Lib.hid hcb
  clear hca hcb
  go_enter Tryd.func36, Tryd.ntmps36
  go_wp2_with fail
  refine (refCheck_any _ a _ ha0 hla HCA.out).mono ?_
  rintro e w1 ⟨rfl, b1⟩
  rw [← HCa.out]
  obtain ⟨ca1, ca2⟩ := ca
  by_cases hz : ca2 = 0
  · subst hz
    have hy := HY.out
    rw [← HCa.out, if_neg (by simp)] at hy
    have HY1 := Lib.hid hy
    clear hy HY
    go_wp2_with fail
    refine (refCheck_any _ b _ (RdF.next hb0 b1) hlb HCB.out).mono ?_
    rintro e w2 ⟨rfl, b2⟩
    rw [← HCb.out]
    have bw2 := b1.trans (b2.mono b1.size)
    obtain ⟨cb1, cb2⟩ := cb
    by_cases hz : cb2 = 0
    · subst hz
      have hy := HY1.out
      rw [← HCb.out, if_neg (by simp)] at hy
      have HY2 := Lib.hid hy
      clear hy HY1
      by_cases hkd : kind < 1
      · have d1 : decide (kind < 1) = true := decide_eq_true hkd
        have hy := HY2.out
        rw [if_pos (.inl hkd)] at hy
        subst hy
        clear hkd
        go_wp2
        exact HR.out _ _ ⟨rfl, bw2⟩
      · have d1 : decide (kind < 1) = false := decide_eq_false hkd
        by_cases hkd4 : 4 < kind
        · have d2 : decide (4 < kind) = true := decide_eq_true hkd4
          have hy := HY2.out
          rw [if_pos (.inr hkd4)] at hy
          subst hy
          clear hkd hkd4
          go_wp2
          exact HR.out _ _ ⟨rfl, bw2⟩
        · have d2 : decide (4 < kind) = false := decide_eq_false hkd4
          have hy := HY2.out
          rw [if_neg (by omega)] at hy
          have HY3 := Lib.hid hy
          have hwd : wideB kind = decide (kind ≤ 2) := by
            unfold wideB
            rw [Bool.eq_iff_iff]
            simp only [Bool.or_eq_true, decide_eq_true_iff]
            omega
          have HWD := Lib.hid hwd
          clear hkd hkd4 hy HY2 hwd
          by_cases hn : on = []
          · have hy := HY3.out
            rw [if_pos hn] at hy
            subst hy
            subst hn
            go_wp2
            exact HR.out _ _ ⟨rfl, bw2⟩
          · have hpos : 0 < on.length := List.length_pos_iff.2 hn
            have dn : ((on.length : Int) == 0) = false := by rw [beq_eq_false_iff_ne]; omega
            have hy := HY3.out
            rw [if_neg hn] at hy
            obtain ⟨P, hP⟩ : ∃ P, P = pairF a b on 0 on := ⟨_, rfl⟩
            rw [← hP] at hy
            have HY4 := Lib.hid hy; have HP := Lib.hid hP
            obtain ⟨w3, rfl⟩ : ∃ w3 : World, w3 = w2 := ⟨_, rfl⟩
            clear hn hy HY3 hP
            go_wp2
            go_loopw [49] (fun i wr => ∃ k : Nat, k ≤ on.length ∧ i = .int .i64 k ∧ pairF a b on k (on.drop k) = P ∧ Below w3.heap.size w3 wr) (fun i _ => on.length - (intOf i).toNat)
            case atStart => exact ⟨0, Nat.zero_le _, rfl, HP.out.symm, Below.refl _ _⟩
            case round =>
              obtain ⟨k, hk, rfl, hN, hB⟩ := hrel
              obtain ⟨wq, rfl⟩ : ∃ wq : World, wq = wr := ⟨_, rfl⟩
              have HN := Lib.hid hN
              have bw4 := bw2.trans (hB.mono bw2.size)
              clear hN
              by_cases hlt : k < on.length
              · obtain ⟨p, c6, hv, q0, q1⟩ := RdOn.at (RdF.next ho0 bw4) hlt
                injection hv with hA hln hcc
                subst hA
                subst hcc
                clear hln
                have hs2 : on.drop k = on[k] :: on.drop (k + 1) := List.drop_eq_getElem_cons hlt
                obtain ⟨x, hx⟩ : ∃ x, x = on[k] := ⟨_, rfl⟩
                rw [← hx] at q0 q1 hs2
                obtain ⟨xl, xr⟩ := x
                dsimp only at q0 q1
                obtain ⟨pc, hpc⟩ : ∃ pc, pc = pairC a b ⟨xl, xr⟩ (on.take k) := ⟨_, rfl⟩
                have hn1 : pc = 0 → pairF a b on (k + 1) (on.drop (k + 1)) = P := fun h => by
                  have h2 := HN.out
                  rw [hs2, pairF, ← hpc, if_neg (by simpa using h)] at h2
                  exact h2
                have hn2 : pc ≠ 0 → Y = (k, pc) := fun h => by
                  have h2 := HN.out
                  rw [hs2, pairF, ← hpc, if_pos h] at h2
                  have hy := HY4.out
                  rw [← h2, if_pos h] at hy
                  exact hy
                have HN1 := Lib.hid hn1; have HN2 := Lib.hid hn2; have HPC := Lib.hid hpc
                clear hx hs2 hn1 hn2 hpc
                obtain ⟨ws, hws⟩ : ∃ ws, ws = wq.alloc (.cells #[.string xl, .string xr] 140) := ⟨_, rfl⟩
                have bws : Below wq.heap.size wq ws := by rw [hws]; exact (Below.refl _ _).alloc (Nat.le_refl _) _
                have Z := Box.new wq 140 #[.string xl, .string xr]
                rw [← hws] at Z
                have z0 := Z.cell 0
                have z1 := Z.cell 1
                simp at z0 z1
                have bww := bw4.trans (bws.mono bw4.size)
                have hBs := hB.trans (bws.mono hB.size)
                have mk : ∀ w', Below ws.heap.size ws w' → w'.cell? ⟨wq.heap.size, 0, none⟩ = some (.string xl) ∧ w'.cell? ⟨wq.heap.size, 1, none⟩ = some (.string xr) ∧ Below ws.heap.size ws w' := fun w' hb =>
                  ⟨(hb.cell (World.block_lt_of_cell? ws _ z0)).trans z0, (hb.cell (World.block_lt_of_cell? ws _ z1)).trans z1, hb⟩
                have MK := Lib.hid mk; have HWS := Lib.hid hws; have HZ := Lib.hid Z
                have dk : decide ((k : Int) < on.length) = true := decide_eq_true (by omega)
                have hkc : k ≤ c3 := by omega
                clear mk hws Z z0 z1
                go_wp2
                rw [← HWS.out]
                go_region_held3 (fun w' => w'.cell? ⟨wq.heap.size, 0, none⟩ = some (.string xl) ∧ w'.cell? ⟨wq.heap.size, 1, none⟩ = some (.string xr) ∧ Below ws.heap.size ws w') (first | (exact MK.out _ (Below.drew (Below.refl _ _))) | (go_split_ands; assumption) | (go_split_ands; exact MK.out _ cd) | (go_split_ands; exact MK.out _ cc) | (go_split_ands; exact MK.out _ ca') | go_keep)
                  (first | (have second := firstMark; go_at_call 65; go_split_ands; refine (refNames_any _ b _ (RdF.next hb0 (bww.trans (Below.mono (by assumption) bww.size))) hlb).mono ?_; rintro e w8 ⟨o8, rfl, ho8, b8⟩; have cc : Below ws.heap.size ws w8 := keepB b8 (by assumption); obtain ⟨o8A, o8c, rfl, -⟩ := ho8.form) | (go_at_call 65; go_split_ands; refine (refNames_any _ a _ (RdF.next ha0 (bww.trans (Below.mono (by assumption) bww.size))) hla).mono ?_; rintro e w7 ⟨o7, rfl, ho7, b7⟩; have firstMark : True := trivial; have ca' : Below ws.heap.size ws w7 := keepB b7 (by assumption); obtain ⟨o7A, o7c, rfl, -⟩ := ho7.form) | (have third := thirdMark; go_at_call 64; go_split_ands; refine (refAt_any _ (namesC b) xr _ (RdS.of_own ho8)).mono ?_; rintro e w10 ⟨rfl, rfl⟩) | (go_at_call 64; go_split_ands; refine (refAt_any _ (namesC a) xl _ (RdS.of_own ho7)).mono ?_; rintro e w9 ⟨rfl, rfl⟩; have thirdMark : True := trivial))
                obtain ⟨pA, hpA⟩ : ∃ n, n = posF 0 (namesC a) xl := ⟨_, rfl⟩
                obtain ⟨pB, hpB⟩ : ∃ n, n = posF 0 (namesC b) xr := ⟨_, rfl⟩
                rw [← hpA, ← hpB]
                have HPA := Lib.hid hpA; have HPB := Lib.hid hpB
                have bw10 := bww.trans (cc.mono bww.size)
                have hB10 := hBs.trans (cc.mono hBs.size)
                have HZ10 := Lib.hid (HZ.out.below cc HZ.out.lt)
                clear hpA hpB ho7 ho8
                by_cases hxa : xl ∈ namesC a
                · have hpa := HPA.out
                  rw [posF_in hxa] at hpa
                  by_cases hxb : xr ∈ namesC b
                  · have hpb := HPB.out
                    rw [posF_in hxb] at hpb
                    obtain ⟨hia, hka⟩ := atC_kind hxa
                    obtain ⟨hib, hkb⟩ := atC_kind hxb
                    obtain ⟨na, hna⟩ : ∃ n, n = atC (namesC a) xl := ⟨_, rfl⟩
                    obtain ⟨nb, hnb⟩ : ∃ n, n = atC (namesC b) xr := ⟨_, rfl⟩
                    have hpe : pc = if (findC a xl).kind ≠ (findC b xr).kind then 21 else if (on.take k).any (touch ⟨xl, xr⟩) then 15 else 0 := by rw [HPC.out]; unfold pairC; rw [if_pos ⟨hxa, hxb⟩]
                    rw [hka, hkb] at hpe
                    simp only [← hna, ← hnb] at hpa hpb hia hib hpe
                    subst hpa
                    subst hpb
                    obtain ⟨a1, d1', hv1, -, e1, -⟩ := RdRC.at (RdF.next ha0 bw10) hia
                    injection hv1 with hA hln hcc
                    subst hA
                    subst hcc
                    clear hln
                    obtain ⟨a2, d2', hv2, -, e2, -⟩ := RdRC.at (RdF.next hb0 bw10) hib
                    injection hv2 with hA hln hcc
                    subst hA
                    subst hcc
                    clear hln
                    have iia : (na : Int) < a.length := by omega
                    have iib : (nb : Int) < b.length := by omega
                    have nga : ¬ ((na : Int) < 0) := by omega
                    have ngb : ¬ ((nb : Int) < 0) := by omega
                    have dga : decide ((na : Int) < 0) = false := decide_eq_false nga
                    have dgb : decide ((nb : Int) < 0) = false := decide_eq_false ngb
                    obtain ⟨ka, hkae⟩ : ∃ n, n = a[na].kind := ⟨_, rfl⟩
                    obtain ⟨kb, hkbe⟩ : ∃ n, n = b[nb].kind := ⟨_, rfl⟩
                    rw [← hkae] at e1 hpe
                    rw [← hkbe] at e2 hpe
                    have HPE := Lib.hid hpe
                    clear hka hkb hna hnb hpe hkae hkbe hia hib hxa hxb HPA HPB
                    by_cases hkk : ka = kb
                    · subst hkk
                      have hpe := HPE.out
                      rw [if_neg (by simp)] at hpe
                      have HPE2 := Lib.hid hpe
                      clear hpe
                      go_wp2
                      go_quiet (fail)
                      obtain ⟨w11, hw11⟩ : ∃ w11, w11 = w10.drewN nq := ⟨_, rfl⟩
                      have b11 : Below w10.heap.size w10 w11 := by rw [hw11]; exact below_drewN (Below.refl _ _) _
                      have bw11 := bw10.trans (b11.mono bw10.size)
                      have hB11 := hB10.trans (b11.mono hB10.size)
                      have HZ11 := Lib.hid (HZ10.out.below b11 HZ10.out.lt)
                      rw [← hw11]
                      clear hw11
                      have hkc2 : (k : Int) ≤ c3 := by omega
                      go_wp2
                      go_loopw [87] (fun i wr => ∃ m : Nat, m ≤ k ∧ i = .int .i64 m ∧ (on.take m).any (touch ⟨xl, xr⟩) = false ∧ Below w11.heap.size w11 wr) (fun i _ => k - (intOf i).toNat)
                      case atStart => exact ⟨0, Nat.zero_le _, rfl, rfl, Below.refl _ _⟩
                      case round =>
                        obtain ⟨m, hm, rfl, hM, hB12⟩ := hrel
                        have HM := Lib.hid hM
                        have bw12 := bw11.trans (hB12.mono bw11.size)
                        have Z12 := HZ11.out.below hB12 HZ11.out.lt
                        have z0 := Z12.cell 0
                        have z1 := Z12.cell 1
                        have zl := Z12.lt
                        simp at z0 z1
                        clear hM Z12
                        by_cases hmk : m < k
                        · have hmo : m < on.length := by omega
                          obtain ⟨p2, c7, hv7, r0, r1⟩ := RdOn.at (RdF.next ho0 bw12) hmo
                          injection hv7 with hA hln hcc
                          injection hA with hA
                          subst hA
                          subst hcc
                          clear hln
                          have hmt : m < (on.take k).length := by rw [List.length_take]; omega
                          have hs5 : (on.take (m + 1)).any (touch ⟨xl, xr⟩) = ((on.take m).any (touch ⟨xl, xr⟩) || touch ⟨xl, xr⟩ on[m]) := any_take _ on hmo
                          have hs6 : touch ⟨xl, xr⟩ on[m] = true → (on.take k).any (touch ⟨xl, xr⟩) = true := fun h => List.any_eq_true.2 ⟨on[m], by rw [List.mem_take_iff_getElem]; exact ⟨m, by omega, rfl⟩, h⟩
                          obtain ⟨y, hy⟩ : ∃ y, y = on[m] := ⟨_, rfl⟩
                          rw [← hy] at r0 r1 hs5 hs6
                          obtain ⟨yl, yr⟩ := y
                          dsimp only at r0 r1
                          have e1' : (yl.toList == xl.toList) = decide (yl = xl) := str_eq _ _
                          have e2' : (yr.toList == xr.toList) = decide (yr = xr) := str_eq _ _
                          unfold touch at hs5 hs6
                          dsimp only at hs5 hs6
                          obtain ⟨t1, ht1⟩ : ∃ t, t = decide (yl = xl) := ⟨_, rfl⟩
                          obtain ⟨t2, ht2⟩ : ∃ t, t = decide (yr = xr) := ⟨_, rfl⟩
                          rw [← ht1] at e1' hs5 hs6
                          rw [← ht2] at e2' hs5 hs6
                          have S5 := Lib.hid hs5; have S6 := Lib.hid hs6
                          have dmk : decide ((m : Int) < k) = true := decide_eq_true (by omega)
                          have hB13 := hB12.alloc hB12.size (.cells #[.string yl, .string yr] 140)
                          have bw13 := bw12.alloc bw12.size (.cells #[.string yl, .string yr] 140)
                          clear hy ht1 ht2 hs5 hs6
                          have bad : t1 = true ∨ t2 = true → Y = (k, 15) := fun h => by
                            have h6 : (on.take k).any (touch ⟨xl, xr⟩) = true := S6.out (by rcases h with h | h <;> rw [h] <;> simp)
                            have hpc2 : pc = 15 := by rw [HPE2.out, if_pos h6]
                            have hyy := HN2.out (by omega)
                            rw [hyy, hpc2]
                          have BAD := Lib.hid bad
                          clear bad
                          cases t1
                          · cases t2
                            · have hn : (on.take (m + 1)).any (touch ⟨xl, xr⟩) = false := by
                                have h5 := S5.out
                                have hm5 := HM.out
                                unfold touch at hm5 ⊢
                                rw [h5, hm5]
                                rfl
                              have HNN := Lib.hid hn
                              clear hn
                              go_wp2
                              exact ⟨⟨m + 1, by omega, by go_num, HNN.out, hB13⟩, by simp [intOf]; omega⟩
                            · have hyy := BAD.out (.inr rfl)
                              subst hyy
                              go_wp2
                              exact HR.out _ _ ⟨rfl, bw13⟩
                          · have hyy := BAD.out (.inl rfl)
                            subst hyy
                            go_wp2
                            exact HR.out _ _ ⟨rfl, bw13⟩
                        · obtain rfl : m = k := by omega
                          have hpc0 : pc = 0 := by rw [HPE2.out, HM.out]; rfl
                          have N2 := Lib.hid (HN1.out hpc0)
                          clear hpc0 hmk
                          go_wp2
                          exact ⟨⟨m + 1, by omega, by go_num, N2.out, hB11.trans (hB12.mono hB11.size)⟩, by simp [intOf]; omega⟩
                    · have hpe := HPE.out
                      rw [if_pos hkk] at hpe
                      have hy := HN2.out (by omega)
                      subst hpe
                      subst hy
                      have dkk : (ka != kb) = true := by rw [bne_iff_ne]; exact hkk
                      clear hkk
                      go_wp2
                      go_quiet (fail)
                      go_wp2
                      exact HR.out _ _ ⟨rfl, below_drewN bw10 _⟩
                  · have hpb := HPB.out
                    rw [posF_none hxb] at hpb
                    have hpe : pc = 16 := by rw [HPC.out]; unfold pairC; rw [if_neg (fun h => hxb h.2)]
                    have hy := HN2.out (by omega)
                    subst hpe
                    subst hy
                    subst hpb
                    have hnn := posF_in hxa
                    have dga : decide (pA < 0) = false := decide_eq_false (by rw [hpa]; omega)
                    clear hpa hxa hxb hnn
                    go_wp2
                    exact HR.out _ _ ⟨rfl, bw10⟩
                · have hpa := HPA.out
                  rw [posF_none hxa] at hpa
                  have hpe : pc = 16 := by rw [HPC.out]; unfold pairC; rw [if_neg (fun h => hxa h.1)]
                  have hy := HN2.out (by omega)
                  subst hpe
                  subst hy
                  subst hpa
                  clear hxa
                  go_wp2
                  exact HR.out _ _ ⟨rfl, bw10⟩
              · have hp : P = (k, 0) := by
                  have h := HN.out
                  rw [List.drop_of_length_le (by omega), pairF] at h
                  exact h.symm
                have hy := HY4.out
                rw [hp, if_neg (by simp)] at hy
                obtain ⟨wd, hwd⟩ : ∃ wd, wd = wideB kind := ⟨_, rfl⟩
                have hwd2 : decide (kind ≤ 2) = wd := by rw [hwd, HWD.out]
                rw [← hwd] at hy
                have HY5 := Lib.hid hy
                have hdup : dupB a b on = b.any (fun c => !rightB on c.name && decide (c.name ∈ namesC a)) := rfl
                have HDUP := Lib.hid hdup
                clear hp hy hwd hdup
                go_wp2
                go_loopw [108] (fun i wr => ∃ m : Nat, m ≤ b.length ∧ i = .int .i64 m ∧ (wd = true → (b.take m).any (fun c => !rightB on c.name && decide (c.name ∈ namesC a)) = false) ∧ Below wq.heap.size wq wr) (fun i _ => b.length - (intOf i).toNat)
                case atStart => exact ⟨0, Nat.zero_le _, rfl, fun _ => rfl, Below.refl _ _⟩
                case round =>
                  obtain ⟨m, hm, rfl, hM, hB12⟩ := hrel
                  have HM := Lib.hid hM
                  have bw12 := bw4.trans (hB12.mono bw4.size)
                  clear hM
                  by_cases hmb : m < b.length
                  · obtain ⟨p2, c7, hv7, r0, r1, r2⟩ := RdRC.at (RdF.next hb0 bw12) hmb
                    injection hv7 with hA hln hcc
                    subst hA
                    subst hcc
                    clear hln
                    have hs5 := any_take (fun c : Col => !rightB on c.name && decide (c.name ∈ namesC a)) b hmb
                    have hs6 := any_take_le (fun c : Col => !rightB on c.name && decide (c.name ∈ namesC a)) b hmb
                    obtain ⟨y, hy⟩ : ∃ y, y = b[m] := ⟨_, rfl⟩
                    rw [← hy] at r0 r1 r2 hs5 hs6
                    obtain ⟨ys, yk, yb⟩ := y
                    dsimp only at r0 r1 r2 hs5 hs6
                    obtain ⟨tr, htr⟩ : ∃ t, t = rightB on ys := ⟨_, rfl⟩
                    obtain ⟨tm, htm⟩ : ∃ t, t = decide (ys ∈ namesC a) := ⟨_, rfl⟩
                    rw [← htr, ← htm] at hs5 hs6
                    obtain ⟨nn, hnn⟩ : ∃ n, n = nullI yb := ⟨_, rfl⟩
                    rw [← hnn] at r2
                    have S5 := Lib.hid hs5; have S6 := Lib.hid hs6; have HTR := Lib.hid htr; have HTM := Lib.hid htm
                    clear hy hs5 hs6 htr htm hnn
                    obtain ⟨ws, hws⟩ : ∃ ws, ws = wr.alloc (.cells #[.string ys, .int .i64 yk, .int .i64 nn] 120) := ⟨_, rfl⟩
                    have bws : Below wr.heap.size wr ws := by rw [hws]; exact (Below.refl _ _).alloc (Nat.le_refl _) _
                    have Z := Box.new wr 120 #[.string ys, .int .i64 yk, .int .i64 nn]
                    rw [← hws] at Z
                    have z0 := Z.cell 0
                    simp at z0
                    have bww := bw12.trans (bws.mono bw12.size)
                    have hBs := hB12.trans (bws.mono hB12.size)
                    have mk : ∀ w', Below ws.heap.size ws w' → w'.cell? ⟨wr.heap.size, 0, none⟩ = some (.string ys) ∧ Below ws.heap.size ws w' := fun w' hb =>
                      ⟨(hb.cell (World.block_lt_of_cell? ws _ z0)).trans z0, hb⟩
                    have MK := Lib.hid mk; have HWS := Lib.hid hws
                    have dm : decide ((m : Int) < b.length) = true := decide_eq_true (by omega)
                    have nxt : wd = false ∨ tr = true ∨ tm = false → (wd = true → (b.take (m + 1)).any (fun c => !rightB on c.name && decide (c.name ∈ namesC a)) = false) := fun h hw => by
                      rw [S5.out, HM.out hw]
                      rcases h with h | h | h
                      · rw [h] at hw; cases hw
                      · rw [h]; rfl
                      · rw [h]; simp
                    have NXT := Lib.hid nxt
                    have dpa := posF_ge (namesC a) ys
                    rw [← HTM.out] at dpa
                    obtain ⟨pA, hpA⟩ : ∃ n, n = posF 0 (namesC a) ys := ⟨_, rfl⟩
                    rw [← hpA] at dpa
                    have HPA := Lib.hid hpA
                    clear mk hws Z z0 nxt hpA
                    cases wd
                    · go_wp2
                      rw [← HWS.out]
                      go_quiet (fail)
                      go_wp2
                      exact ⟨⟨m + 1, by omega, by go_num, NXT.out (.inl (by simp)), below_drewN hBs _⟩, by simp [intOf]; omega⟩
                    · cases tr
                      · go_wp2
                        rw [← HWS.out]
                        go_region_held3 (fun w' => w'.cell? ⟨wr.heap.size, 0, none⟩ = some (.string ys) ∧ Below ws.heap.size ws w') (first | (exact MK.out _ (Below.drew (Below.refl _ _))) | (go_split_ands; exact MK.out _ (by assumption)) | (go_split_ands; exact MK.out _ (keepB (by assumption) (by assumption))) | go_keep)
                          (first | (go_at_call 83; go_split_ands; refine (refRight_any _ on ys _ (RdF.next ho0 (bww.trans (Below.mono (by assumption) bww.size)))).mono ?_; rintro e w7 ⟨rfl, b7⟩; rw [← HTR.out]; have cA : Below ws.heap.size ws w7 := keepB b7 (by assumption)) | (go_at_call 65; go_split_ands; refine (refNames_any _ a _ (RdF.next ha0 (bww.trans (Below.mono (by assumption) bww.size))) hla).mono ?_; rintro e w8 ⟨o8, rfl, ho8, b8⟩; have cB : Below ws.heap.size ws w8 := keepB b8 (by assumption); obtain ⟨o8A, o8c, rfl, -⟩ := ho8.form) | (go_at_call 64; go_split_ands; refine (refAt_any _ (namesC a) ys _ (RdS.of_own ho8)).mono ?_; rintro e w10 ⟨rfl, rfl⟩; rw [← HPA.out]))
                        have hB9 := hBs.trans (cB.mono hBs.size)
                        cases tm
                        · go_wp2
                          exact ⟨⟨m + 1, by omega, by go_num, NXT.out (.inr (.inr (by simp))), hB9⟩, by simp [intOf]; omega⟩
                        · have hd : dupB a b on = true := by rw [HDUP.out]; exact S6.out rfl
                          have hy := HY5.out
                          rw [hd] at hy
                          replace hy : Y = (on.length, 15) := hy
                          subst hy
                          clear hd
                          go_wp2
                          exact HR.out _ _ ⟨rfl, bww.trans (cB.mono bww.size)⟩
                      · have z0' := (MK.out ws (Below.refl _ _)).1
                        have k0 := cell_regrown z0'
                        have gT : ∀ dn os, Calls Tryd.prog 83 #[.slice A3 on.length c3, .string ys] (Go.Sort.grow (redrawn ws dn) os) fun e w'' => e = .returned (.bool true) ∧ ∃ q : Regrown, w'' = Go.Sort.grow (redrawn ws q.d) q.os := fun dn os => Calls.regrown_of (by
                          rw [HTR.out]
                          exact refRight_any _ on ys _ (RdF.next (RdF.next ho0 bww) (below_regrown ws dn os)))
                        clear z0'
                        go_wp2
                        rw [← HWS.out]
                        refine wp_region_quiet_below (by kernel_rfl) (by kernel_rfl) ?_
                        repeat (go_big_quiet_step ((go_at_call 83; with_reducible exact gT _ _)))
                        refine wpQuiet_nil ?_
                        intro w9 hw9
                        have cA : Below ws.heap.size ws w9 := by obtain ⟨q, rfl⟩ := hw9; exact below_regrown _ q.d q.os
                        clear hw9 gT k0
                        have hB9 := hBs.trans (cA.mono hBs.size)
                        go_wp2
                        exact ⟨⟨m + 1, by omega, by go_num, NXT.out (.inr (.inl (by simp))), hB9⟩, by simp [intOf]; omega⟩
                  · have hd : (wd && dupB a b on) = false := by
                      cases wd
                      · rfl
                      · rw [HDUP.out, ← HM.out rfl, List.take_of_length_le (by omega)]; rfl
                    have hy := HY5.out
                    rw [hd, if_neg (by simp)] at hy
                    subst hy
                    clear hd
                    go_wp2
                    exact HR.out _ _ ⟨rfl, bw12⟩
    · have dz : ((cb2 : Int) != 0) = true := by rw [bne_iff_ne]; omega
      have hy := HY1.out
      rw [← HCb.out, if_pos hz] at hy
      subst hy
      clear hz
      go_wp2
      exact HR.out _ _ ⟨rfl, bw2⟩
  · have dz : ((ca2 : Int) != 0) = true := by rw [bne_iff_ne]; omega
    have hy := HY.out
    rw [← HCa.out, if_pos hz] at hy
    subst hy
    clear hz
    go_wp2
    exact HR.out _ _ ⟨rfl, b1⟩
end Go.Proofs.YtgiemhooeoakmaaDoor

namespace Go.Proofs.YtgiemhooeoakmaaDoor
open Go.RowKit Go.ChangeShapes Go.WideShapes
set_option linter.unusedVariables false
set_option linter.unusedSimpArgs false

theorem rcolF_one (l : List Col) : ∀ u ∈ l.flatMap rcolV, u.oneCell' = true := fun u hu => by
  obtain ⟨x, -, hx⟩ := List.mem_flatMap.1 hu
  exact rcol_one x u hx
def colD (a b : List Col) (on : List OnP) (kind : Int) (k : Nat) : List Col := a ++ if wideB kind = true then ((b.take k).filter fun c => !rightB on c.name).map (nullC kind) else []
theorem colD_snoc (a b : List Col) (on : List OnP) (kind : Int) {k : Nat} (hk : k < b.length) : colD a b on kind (k + 1) = colD a b on kind k ++ if wideB kind = true ∧ rightB on b[k].name = false then [nullC kind b[k]] else [] := by
  unfold colD
  by_cases hw : wideB kind = true
  · rw [if_pos hw, if_pos hw, List.take_succ_eq_append_getElem hk, List.filter_append, List.map_append, List.append_assoc]
    congr 2
    by_cases hr : rightB on b[k].name = false
    · rw [if_pos ⟨hw, hr⟩]; simp [hr]
    · rw [if_neg (fun h => hr h.2)]; simp at hr; simp [hr]
  · rw [if_neg hw, if_neg hw, if_neg (fun h => hw h.1), List.append_nil, List.append_nil]
theorem colD_len (a b : List Col) (on : List OnP) (kind : Int) (k : Nat) : (colD a b on kind k).length ≤ a.length + k := by
  unfold colD
  rw [List.length_append]
  split
  · rw [List.length_map]
    have := List.length_filter_le (fun c : Col => !rightB on c.name) (b.take k)
    rw [List.length_take] at this
    omega
  · simp
set_option maxHeartbeats 4000000 in
set_option maxRecDepth 100000 in
theorem rjcolumns_any (va vb vo : Value) (a b : List Col) (on : List OnP) (kind : Int) (w : World) (ha : RdRC w w.heap.size va a) (hb : RdRC w w.heap.size vb b) (ho : RdOn w w.heap.size vo on) (hla : a.length ≤ 100000) (hlb : b.length ≤ 100000) (hk1 : 1 ≤ kind) :
    Calls Tryd.prog 39 #[va, vb, vo, .int .i64 kind] w fun e w' => ∃ o, e = .returned o ∧ Own w' w.heap.size 120 3 o (colsJ a b on kind).length ((colsJ a b on kind).flatMap rcolV) ∧ Below w.heap.size w w' := by
  refine cps fun R HR => ?_
  obtain ⟨i0, hi0, hz0, hz1, hz2⟩ := info_parts rcol_info
  have ha0 := ha; have hb0 := hb; have ho0 := ho
  obtain ⟨A1, c1, rfl, hsa⟩ := ha.is
  obtain ⟨A2, c2, rfl, -⟩ := hb.is
  obtain ⟨A3, c3, rfl, -⟩ := ho.is
  clear ha hb ho
  have hend : colD a b on kind b.length = colsJ a b on kind := by unfold colD colsJ; rw [List.take_length]
  have HEND := Lib.hid hend
  have hwd : decide (2 < kind) = !wideB kind := by
    unfold wideB
    rw [Bool.eq_iff_iff]
    simp only [Bool.not_eq_true', Bool.or_eq_false_iff, decide_eq_true_iff, decide_eq_false_iff_not]
    omega
  obtain ⟨wd, hwde⟩ : ∃ wd, wd = wideB kind := ⟨_, rfl⟩
  rw [← hwde] at hwd
  have HWD := Lib.hid hwde
  clear hend hwde
  go_enter Tryd.func39, Tryd.ntmps39
  go_wp2_with (at_builtin; refine wpList_append_Own _ rfl _ _ _ rfl w.heap.size 120 i0 _ 3 32 Tryd.underlying36 hi0 hz0 hz1 hz2 rfl (by omega) (by omega) (.slice none 0 0) 0 [] rfl (Own.nil_ _ _ _ _) w.heap.size A1 a.length c1 (a.flatMap rcolV) rfl hsa (rcolF_one a) (by simp only [maxLen]; omega) (by omega) (Nat.le_refl _) ?_; intro v1 w1 hown1 hg1 hat1; obtain ⟨v1A, v1c, rfl, -⟩ := hown1.form)
  have b1 : Below w.heap.size w w1 := below_grown (Below.refl _ _) hg1 (fun g hg => by simp [Value.ownBlock] at hg) (Nat.le_refl _)
  go_loopw [9, 17] (fun o i wr => ∃ k : Nat, k ≤ b.length ∧ i = .int .i64 k ∧ Own wr w.heap.size 120 3 o (colD a b on kind k).length ((colD a b on kind k).flatMap rcolV) ∧ Below w.heap.size w wr) (fun _ i _ => b.length - (intOf i).toNat)
  case atStart =>
    have h0 : colD a b on kind 0 = a := by unfold colD; rw [List.take_zero]; simp
    exact ⟨0, Nat.zero_le _, rfl, by rw [h0]; simpa using hown1, b1⟩
  case round =>
    obtain ⟨k, hk, rfl, hO, hB⟩ := hrel
    by_cases hlt : k < b.length
    · obtain ⟨p, c7, hv, q0, q1, q2⟩ := RdRC.at (RdF.next hb0 hB) hlt
      injection hv with hA hln hcc
      subst hA
      subst hcc
      clear hln
      have hs1 := colD_snoc a b on kind hlt
      have hll := colD_len a b on kind k
      obtain ⟨y, hy⟩ : ∃ y, y = b[k] := ⟨_, rfl⟩
      rw [← hy] at q0 q1 q2 hs1
      obtain ⟨M, hM⟩ : ∃ M, M = colD a b on kind k := ⟨_, rfl⟩
      rw [← hM] at hs1 hO hll
      obtain ⟨ys, yk, yb⟩ := y
      dsimp only at q0 q1 q2 hs1
      obtain ⟨tr, htr⟩ : ∃ t, t = rightB on ys := ⟨_, rfl⟩
      rw [← htr, ← HWD.out] at hs1
      have S1 := Lib.hid hs1; have HTR := Lib.hid htr; have HLT := Lib.hid hO.lt
      have dk : decide ((k : Int) < b.length) = true := decide_eq_true (by omega)
      clear hy hM hs1 htr
      cases wd
      · have hn : colD a b on kind (k + 1) = M := by rw [S1.out, if_neg (by simp), List.append_nil]
        have HNN := Lib.hid hn
        have hBa := hB.alloc hB.size (.cells #[.string ys, .int .i64 yk, .int .i64 (nullI yb)] 120)
        have hOa := hO.below ((Below.refl wr.heap.size wr).alloc (Nat.le_refl _) (.cells #[.string ys, .int .i64 yk, .int .i64 (nullI yb)] 120)) (Nat.le_refl _)
        clear hn
        go_wp2
        exact ⟨⟨k + 1, by omega, by go_num, by rw [HNN.out]; exact hOa, hBa⟩, by simp [intOf]; omega⟩
      · obtain ⟨nn, hnn⟩ : ∃ n, n = nullI yb := ⟨_, rfl⟩
        rw [← hnn] at q2
        obtain ⟨ws, hws⟩ : ∃ ws, ws = wr.alloc (.cells #[.string ys, .int .i64 yk, .int .i64 nn] 120) := ⟨_, rfl⟩
        have bws : Below wr.heap.size wr ws := by rw [hws]; exact (Below.refl _ _).alloc (Nat.le_refl _) _
        have Z := Box.new wr 120 #[.string ys, .int .i64 yk, .int .i64 nn]
        rw [← hws] at Z
        have hBs := hB.trans (bws.mono hB.size)
        have hOs := hO.below bws (Nat.le_refl _)
        have HZ := Lib.hid Z; have HWS := Lib.hid hws; have HNNI := Lib.hid hnn
        clear hws Z hnn
        go_wp2_with fail
        rw [← HWS.out]
        refine (refRight_any _ on ys _ (RdF.next ho0 hBs)).mono ?_
        rintro e w7 ⟨rfl, b7⟩
        rw [← HTR.out]
        have hB7 := hBs.trans (b7.mono hBs.size)
        have hO7 := hOs.below b7 (Nat.le_refl _)
        have Z7 := HZ.out.below b7 HZ.out.lt
        have hol := HLT.out
        cases tr
        · by_cases hk2 : kind = 2
          · have d2 : (kind == 2) = true := by rw [beq_iff_eq]; exact hk2
            have hn : (colD a b on kind (k + 1)).flatMap rcolV = M.flatMap rcolV ++ (#[.string ys, .int .i64 yk, .int .i64 1] : Array Value).toList := by
              rw [S1.out, if_pos (by simp), rcol_snoc]
              unfold nullC rcolV
              rw [hk2]
              simp [nullI]
            have hnl : (colD a b on kind (k + 1)).length = M.length + 1 := by rw [S1.out, if_pos (by simp), List.length_append]; rfl
            have z0 := Z7.cell 0
            have z1 := Z7.cell 1
            have z2 := Z7.cell 2
            have k2 := Z7.frozen 2
            have zl := Z7.lt
            simp at z0 z1 z2
            have hOp : Own (w7.setCell ⟨wr.heap.size, 2, none⟩ (.int .i64 1)) w.heap.size 120 3 u9 M.length (M.flatMap rcolV) := hO7.agree_ fun q hq => setCell_block _ _ _ _ _ (by have := (hol q hq).2; omega)
            have hBp := hB7.setCell (p := ⟨wr.heap.size, 2, none⟩) hB.size (.int .i64 1)
            have h1 : ∀ u ∈ (#[.string ys, .int .i64 yk, .int .i64 1] : Array Value).toList, u.oneCell' = true := by
              intro u hu
              simp at hu
              rcases hu with rfl | rfl | rfl <;> rfl
            have HNN := Lib.hid hn; have HNL := Lib.hid hnl; have HOP := Lib.hid hOp; have HBP := Lib.hid hBp; have H1 := Lib.hid h1
            clear hn hnl hOp hBp h1 hk2
            go_wp2_with (at_builtin; refine wpList_pushF rfl _ _ _ rfl w.heap.size 120 i0 _ 3 32 Tryd.underlying36 hi0 hz0 hz1 hz2 rfl (by omega) (by omega) u9 M.length _ #[.string ys, .int .i64 yk, .int .i64 1] rfl rfl HOP.out (by simp [Act.eval]) H1.out (by omega) HBP.out.size ?_; intro v9 w9 hown9 hg9 hat9)
            exact ⟨⟨k + 1, by omega, by go_num, by rw [HNN.out, HNL.out]; exact hown9, below_grown HBP.out hg9 (fun g hg => (HLT.out g hg).1) HBP.out.size⟩, by simp [intOf]; omega⟩
          · have d2 : (kind == 2) = false := by rw [beq_eq_false_iff_ne]; exact hk2
            have hn : (colD a b on kind (k + 1)).flatMap rcolV = M.flatMap rcolV ++ (#[.string ys, .int .i64 yk, .int .i64 nn] : Array Value).toList := by
              rw [S1.out, if_pos (by simp), rcol_snoc, HNNI.out]
              unfold nullC rcolV
              rw [decide_eq_false hk2]
              simp
            have hnl : (colD a b on kind (k + 1)).length = M.length + 1 := by rw [S1.out, if_pos (by simp), List.length_append]; rfl
            have z0 := Z7.cell 0
            have z1 := Z7.cell 1
            have z2 := Z7.cell 2
            simp at z0 z1 z2
            have h1 : ∀ u ∈ (#[.string ys, .int .i64 yk, .int .i64 nn] : Array Value).toList, u.oneCell' = true := by
              intro u hu
              simp at hu
              rcases hu with rfl | rfl | rfl <;> rfl
            have HNN := Lib.hid hn; have HNL := Lib.hid hnl; have H1 := Lib.hid h1
            clear hn hnl h1 hk2
            go_wp2_with (at_builtin; refine wpList_pushF rfl _ _ _ rfl w.heap.size 120 i0 _ 3 32 Tryd.underlying36 hi0 hz0 hz1 hz2 rfl (by omega) (by omega) u9 M.length _ #[.string ys, .int .i64 yk, .int .i64 nn] rfl rfl hO7 (by simp [Act.eval]) H1.out (by omega) hB7.size ?_; intro v9 w9 hown9 hg9 hat9)
            exact ⟨⟨k + 1, by omega, by go_num, by rw [HNN.out, HNL.out]; exact hown9, below_grown hB7 hg9 (fun g hg => (HLT.out g hg).1) hB7.size⟩, by simp [intOf]; omega⟩
        · have hn : colD a b on kind (k + 1) = M := by rw [S1.out, if_neg (by simp), List.append_nil]
          have HNN := Lib.hid hn
          clear hn
          go_wp2
          exact ⟨⟨k + 1, by omega, by go_num, by rw [HNN.out]; exact hO7, hB7⟩, by simp [intOf]; omega⟩
    · obtain rfl : k = b.length := by omega
      rw [HEND.out] at hO
      clear hlt
      go_wp2
      exact HR.out _ _ ⟨_, rfl, hO, hB⟩
end Go.Proofs.YtgiemhooeoakmaaDoor

namespace Go.Proofs.YtgiemhooeoakmaaDoor
set_option linter.unusedVariables false
set_option linter.unusedSimpArgs false

theorem jchk_kind {a b : List Col} {on : List OnP} {k : Int} (h : (jchk a b on 1).2 = 0) (h1 : 1 ≤ k) (h4 : k ≤ 4) : (jchk a b on k).2 = 0 := by
  unfold jchk at h ⊢
  split at h
  · rename_i x; exact absurd h x
  · rename_i x1
    rw [if_neg x1]
    split at h
    · rename_i x; exact absurd h x
    · rename_i x2
      rw [if_neg x2]
      split at h
      · cases h
      · rw [if_neg (by omega)]
        split at h
        · cases h
        · rename_i x4
          rw [if_neg x4]
          split at h
          · rename_i x; exact absurd h x
          · rename_i x5
            rw [if_neg x5]
            split at h
            · cases h
            · rename_i x6
              rw [if_neg (fun x7 => x6 (by rw [Bool.and_eq_true] at x7 ⊢; exact ⟨rfl, x7.2⟩))]
theorem jchk_pos {a b : List Col} {on : List OnP} {k : Int} (h : (jchk a b on k).2 = 0) : 1 ≤ k ∧ k ≤ 4 := by
  unfold jchk at h
  split at h
  · rename_i x; exact absurd h x
  · split at h
    · rename_i x; exact absurd h x
    · split at h
      · cases h
      · rename_i x; omega
theorem sameC_self (l : List Col) : sameC l l = true := by
  unfold sameC
  simp
theorem joinE_kind {a b : List Col} {ta tb : VTab} {on : List OnP} {k : Int} (h : joinE a b ta tb on 1 = 0) (h1 : 1 ≤ k) (h4 : k ≤ 4) : joinE a b ta tb on k = 0 ∧ joinE a b ta [] on k = 0 := by
  unfold joinE at h ⊢
  split at h
  · rename_i x; exact absurd h x
  · rename_i x
    have hk := jchk_kind (by simpa using x) h1 h4
    have hn : ¬ (jchk a b on k).2 ≠ 0 := fun h => h hk
    rw [if_neg hn, if_neg hn]
    split at h
    · rename_i y
      rw [if_pos y]
      rw [Bool.and_eq_true] at y
      refine ⟨rfl, ?_⟩
      rw [if_pos (by rw [Bool.and_eq_true]; exact ⟨y.1, rfl⟩)]
    · cases h
theorem rowJ_parts (ps : List (Int × Int)) (rest : List Int) (tb : VTab) (x : VRow) : (rowJ ps rest tb x 3).length + (rowJ ps rest tb x 4).length = 1 ∧ (rowJ ps rest tb x 2).length = (rowJ ps rest tb x 1).length + (rowJ ps rest tb x 4).length := by
  unfold rowJ
  by_cases h : (outJ ps rest tb x).length = 0
  · have hn : outJ ps rest tb x = [] := List.length_eq_zero_iff.1 h
    rw [hn]
    simp [wideB]
  · have hp : 0 < (outJ ps rest tb x).length := by omega
    have hn : ¬ outJ ps rest tb x = [] := fun e => h (by rw [e]; rfl)
    simp [h, hp, hn, wideB]
theorem rowsJ_le (a b : List Col) (ta tb : VTab) (on : List OnP) (kind : Int) : (rowsJ a b ta tb on kind).length ≤ ta.length * (tb.length + 1) := by
  unfold rowsJ
  induction ta with
  | nil => simp
  | cons x r ih =>
    have h := rowJ_len (psJ a b on) (othF on 0 b) tb x kind
    rw [List.flatMap_cons, List.length_append, List.length_cons, Nat.succ_mul]
    omega
theorem rowsJ_parts (a b : List Col) (ta tb : VTab) (on : List OnP) : (rowsJ a b ta tb on 3).length + (rowsJ a b ta tb on 4).length = ta.length ∧ (rowsJ a b ta tb on 2).length = (rowsJ a b ta tb on 1).length + (rowsJ a b ta tb on 4).length := by
  unfold rowsJ
  induction ta with
  | nil => exact ⟨rfl, rfl⟩
  | cons x r ih =>
    have h := rowJ_parts (psJ a b on) (othF on 0 b) tb x
    simp only [List.flatMap_cons, List.length_append, List.length_cons]
    omega
theorem rowJ_none (ps : List (Int × Int)) (rest : List Int) (x : VRow) : rowJ ps rest [] x 1 = [] ∧ rowJ ps rest [] x 3 = [] ∧ rowJ ps rest [] x 4 = [x] := by
  unfold rowJ
  simp [outJ, wideB]
theorem rowsJ_none (a b : List Col) (ta : VTab) (on : List OnP) : rowsJ a b ta [] on 1 = [] ∧ rowsJ a b ta [] on 3 = [] ∧ rowsJ a b ta [] on 4 = ta := by
  unfold rowsJ
  induction ta with
  | nil => exact ⟨rfl, rfl, rfl⟩
  | cons x r ih =>
    have h := rowJ_none (psJ a b on) (othF on 0 b) x
    simp only [List.flatMap_cons, h, ih]
    exact ⟨rfl, rfl, rfl⟩
theorem joinE_ok {a b : List Col} {ta tb : VTab} {on : List OnP} {k : Int} (h : joinE a b ta tb on k = 0) : (jchk a b on k).2 = 0 := by
  unfold joinE at h
  split at h
  · rename_i x; exact absurd h x
  · rename_i x; simpa using x
theorem joinE_fit {a b : List Col} {ta tb : VTab} {on : List OnP} {k : Int} (h : joinE a b ta tb on k = 0) : (∀ r ∈ ta, r.length = a.length) ∧ ∀ r ∈ tb, r.length = b.length := by
  unfold joinE at h
  split at h
  · rename_i x; exact absurd h x
  · split at h
    · rename_i y
      rw [Bool.and_eq_true, fitsB_iff, fitsB_iff] at y
      exact y
    · cases h
theorem joinE_rows {a b : List Col} {ta tb : VTab} {on : List OnP} {k : Int} (h : joinE a b ta tb on k = 0) : ∀ r ∈ ta, r.length = a.length := (joinE_fit h).1
theorem rowsJ_short {a b : List Col} {ta tb : VTab} {on : List OnP} {k : Int} (h : ∀ r ∈ ta, r.length = a.length) (ha : a.length ≤ 1000) (hb : b.length ≤ 1000) : ∀ r ∈ rowsJ a b ta tb on k, r.length ≤ 100000 := fun r hr => by
  have hs : ∀ x ∈ ta, ∀ y : VRow, (sideP (othF on 0 b) x y).length ≤ 100000 := fun x hx y => by
    have h1 := h x hx
    have h2 := othF_len on b 0
    unfold sideP
    rw [List.length_append, List.length_map]
    omega
  unfold rowsJ at hr
  obtain ⟨x, hx, hr⟩ := List.mem_flatMap.1 hr
  have h1 := h x hx
  unfold rowJ at hr
  split at hr
  · rw [List.mem_singleton] at hr; subst hr; exact hs x hx _
  · split at hr
    · rw [List.mem_singleton] at hr; subst hr; omega
    · split at hr
      · unfold outJ at hr
        obtain ⟨y, -, rfl⟩ := List.mem_map.1 hr
        exact hs x hx y
      · cases hr
end Go.Proofs.YtgiemhooeoakmaaDoor

namespace Go.Proofs.YtgiemhooeoakmaaDoor
open Go.RowKit Go.ChangeShapes Go.WideShapes
set_option linter.unusedVariables false
set_option linter.unusedSimpArgs false

set_option maxHeartbeats 4000000 in
set_option maxRecDepth 100000 in
theorem fits23_any (v1 u1 v2 u2 z : Value) (kind : Int) (la lb : List Col) (ta tb : VTab) (on : List OnP) (w : World) (h1 : RdC w w.heap.size v1 la) (h2 : RdVT w w.heap.size u1 ta) (h3 : RdC w w.heap.size v2 lb) (h4 : RdVT w w.heap.size u2 tb) (hu : RdOn w w.heap.size z on) :
    Calls Tryd.prog 25 #[.agg #[v1, u1, v2, u2, z, .int .i64 kind]] w fun e w' => (∃ g : Bool, e = .returned (.bool g) ∧ (g = true → fewTab la ta ∧ fewTab lb tb ∧ on.length ≤ 12)) ∧ Below w.heap.size w w' := by
  refine cps fun R HR => ?_
  have g1 := h1; have g2 := h2; have g3 := h3; have g4 := h4; have hu0 := hu
  obtain ⟨A1, c1, rfl, -⟩ := h1.is
  obtain ⟨A2, c2, vs, rfl, -, -⟩ := h2.is
  obtain ⟨A3, c3, rfl, -⟩ := h3.is
  obtain ⟨A4, c4, vs', rfl, -, -⟩ := h4.is
  obtain ⟨A5, c5, rfl, -⟩ := hu.is
  have hfk := RdF.few hu0
  clear h1 h2 h3 h4 hu
  obtain ⟨w0, hw0⟩ : ∃ w0, w0 = w.alloc (.cells #[.slice A1 la.length c1, .slice A2 ta.length c2, .slice A3 lb.length c3, .slice A4 tb.length c4, .slice A5 on.length c5, .int .i64 kind] 52) := ⟨_, rfl⟩
  have bw0 : Below w.heap.size w w0 := by rw [hw0]; exact (Below.refl _ _).alloc (Nat.le_refl _) _
  have X := Box.new w 52 #[.slice A1 la.length c1, .slice A2 ta.length c2, .slice A3 lb.length c3, .slice A4 tb.length c4, .slice A5 on.length c5, .int .i64 kind]
  rw [← hw0] at X
  have x4 := X.cell 4
  simp at x4
  have HX := Lib.hid X; have HW0 := Lib.hid hw0; have HB0 := Lib.hid bw0
  clear X hw0 bw0
  go_enter Tryd.func25, Tryd.ntmps25
  go_wp2
  rw [← HW0.out]
  go_loopw [8] (fun i wr => ∃ k : Nat, k ≤ on.length ∧ i = .int .i64 k ∧ Below w0.heap.size w0 wr) (fun i _ => on.length - (intOf i).toNat)
  case atStart => exact ⟨0, Nat.zero_le _, rfl, Below.refl _ _⟩
  case round =>
    obtain ⟨k, hk, rfl, hB⟩ := hrel
    have bw := HB0.out.trans (hB.mono HB0.out.size)
    by_cases hlt : k < on.length
    · obtain ⟨p, c6, hv, q0, q1⟩ := RdOn.at (RdF.next hu0 bw) hlt
      injection hv with hA hln hcc
      subst hA
      subst hcc
      clear hln
      obtain ⟨x, hx⟩ : ∃ x, x = on[k] := ⟨_, rfl⟩
      rw [← hx] at q0 q1
      clear hx
      obtain ⟨xl, xr⟩ := x
      dsimp only at q0 q1
      have dk : decide ((k : Int) < on.length) = true := decide_eq_true (by omega)
      have hB1 := hB.alloc hB.size (.cells #[.string xl, .string xr] 125)
      have bw1 := HB0.out.trans (hB1.mono HB0.out.size)
      by_cases hl : xl.size ≤ 100
      · have d3 : decide ((100 : Int) < xl.size) = false := decide_eq_false (by omega)
        by_cases hr : xr.size ≤ 100
        · have d4 : decide ((100 : Int) < xr.size) = false := decide_eq_false (by omega)
          clear hl hr
          go_wp2
          exact ⟨⟨k + 1, by omega, by go_num, hB1⟩, by simp [intOf]; omega⟩
        · have d4 : decide ((100 : Int) < xr.size) = true := decide_eq_true (by omega)
          clear hl hr
          go_wp2
          exact HR.out _ _ ⟨⟨false, rfl, fun h => by cases h⟩, bw1⟩
      · have d3 : decide ((100 : Int) < xl.size) = true := decide_eq_true (by omega)
        clear hl
        go_wp2
        exact HR.out _ _ ⟨⟨false, rfl, fun h => by cases h⟩, bw1⟩
    · have hx := HX.out.below hB HX.out.lt
      have x0 := hx.cell 0
      have x1 := hx.cell 1
      simp at x0 x1
      go_wp2_with fail
      refine (few23_any _ _ la ta _ (RdF.next g1 bw) (RdE.next (RdF.stays valV 4) g2 bw)).mono ?_
      rintro e w1 ⟨⟨g, rfl, hg⟩, b1⟩
      have bw1 := bw.trans (b1.mono bw.size)
      have X1 := hx.below b1 hx.lt
      have y2 := X1.cell 2
      have y3 := X1.cell 3
      simp at y2 y3
      clear x0 x1 x4
      cases g
      · clear hg
        go_wp2
        exact HR.out _ _ ⟨⟨false, rfl, fun h => by cases h⟩, bw1⟩
      · have HG := Lib.hid (hg rfl)
        clear hg
        go_wp2_with fail
        refine (few23_any _ _ lb tb _ (RdF.next g3 bw1) (RdE.next (RdF.stays valV 4) g4 bw1)).mono ?_
        rintro e w2 ⟨⟨g, rfl, hg⟩, b2⟩
        have bw2 := bw1.trans (b2.mono bw1.size)
        have X2 := X1.below b2 X1.lt
        have z4 := X2.cell 4
        simp at z4
        clear y2 y3
        cases g
        · clear hg
          go_wp2
          exact HR.out _ _ ⟨⟨false, rfl, fun h => by cases h⟩, bw2⟩
        · have HG2 := Lib.hid (hg rfl)
          clear hg
          by_cases hk2 : on.length ≤ 12
          · have d : decide ((on.length : Int) ≤ 12) = true := decide_eq_true (by omega)
            go_wp2
            exact HR.out _ _ ⟨⟨_, rfl, fun _ => ⟨HG.out, HG2.out, hk2⟩⟩, bw2⟩
          · have d : decide ((on.length : Int) ≤ 12) = false := decide_eq_false (by omega)
            go_wp2
            exact HR.out _ _ ⟨⟨false, rfl, fun h => by cases h⟩, bw2⟩
section
variable {H : Type} {enc : TypeId × Value → H} {w : World} {base : Nat} {spare : Nat → Bool} {held : Bool}
set_option maxRecDepth 100000 in
theorem open_on {f : Nat} {cs : List Value} {y : DataW H × List MemPlace} (h : DataW.trod enc Tryd.prog w base spare held f 125 cs = some y) : ∃ c, cs = onV c := by
  obtain ⟨y0, y1, n, rfl, hl, h0, h1⟩ := trod_struct2 Tryd.underlying125 h
  have hl3 : cs.length = 2 := by rw [hl]; kernel_rfl
  match cs, hl3 with
  | [a, b], _ =>
    have c1 : Tryd.prog.cellsOf 9 = 1 := by kernel_rfl
    simp only [c1] at h0 h1
    obtain ⟨s, g0, -, -⟩ := DataW.trod_string Tryd.underlying9 h0
    obtain ⟨s2, g1, -, -⟩ := DataW.trod_string Tryd.underlying9 h1
    simp at g0 g1
    exact ⟨⟨s, s2⟩, by simp [onV, g0, g1]⟩
set_option maxRecDepth 100000 in
theorem open_onF {fuel : Nat} {v : Value} {x : DataW H × List MemPlace} (hf : DataW.trod enc Tryd.prog w base spare held fuel 50 [v] = some x) (hsz : Sized Tryd.prog 50 x.1) : ∃ l, RdOn w w.heap.size v l := by
  obtain ⟨A, n, c, xs, h1, h2, h3⟩ := open_sl (size := 2) Tryd.underlying50 (by kernel_rfl) (by omega) (of_decide_eq_true (by kernel_rfl)) hf hsz
  obtain ⟨l, hl, rfl⟩ : ∃ l : List OnP, l.length = n ∧ xs = l.flatMap onV := by
    have key : ∀ k, k ≤ n → ∃ l : List OnP, l.length = k ∧ xs.take (k * 2) = l.flatMap onV := by
      intro k
      induction k with
      | zero => exact fun _ => ⟨[], rfl, by simp⟩
      | succ k ih =>
        intro hk
        obtain ⟨l, hl, he⟩ := ih (by omega)
        obtain ⟨f, y, hy, -⟩ := h3 k (by omega)
        obtain ⟨c, hc⟩ := open_on hy
        refine ⟨l ++ [c], by simp [hl], ?_⟩
        rw [List.flatMap_append, ← he, Nat.succ_mul, List.take_add, hc]
        simp
    obtain ⟨l, hl, he⟩ := key n (Nat.le_refl _)
    exact ⟨l, hl, by rw [← he, List.take_of_length_le (by rw [h2.len]; exact Nat.le_refl _)]⟩
  subst hl
  exact ⟨l, A, c, h1, h2⟩
theorem array6 {cs : Array Value} (h : cs.size = 6) : ∃ a b c d e f, cs = #[a, b, c, d, e, f] := by
  obtain ⟨l⟩ := cs
  match l, h with
  | [a, b, c, d, e, f], _ => exact ⟨a, b, c, d, e, f, rfl⟩
set_option maxRecDepth 100000 in
theorem open_case23 {v : Value} {d : DataW H} {p : List MemPlace} {r : Reach} {b0 : Nat} (hv : Value.okWide Tryd.prog w r b0 52 v) (h : DataW.Trod enc Tryd.prog w base spare held 52 v d p) (hsz : Sized Tryd.prog 52 d) :
    ∃ v1 u1 v2 u2 z la ta lb tb on, ∃ kind : Int, v = .agg #[v1, u1, v2, u2, z, .int .i64 kind] ∧ RdC w w.heap.size v1 la ∧ RdVT w w.heap.size u1 ta ∧ RdC w w.heap.size v2 lb ∧ RdVT w w.heap.size u2 tb ∧ RdOn w w.heap.size z on := by
  obtain ⟨cs, rfl, hs⟩ := okWide_struct Tryd.underlying52 hv
  obtain ⟨v1, u1, v2, u2, z, u, rfl⟩ := array6 (hs.trans (by kernel_rfl))
  obtain ⟨fuel, hf⟩ := h
  obtain ⟨xs, n, _, hx, _, hlen, hf2⟩ := DataW.trod_struct Tryd.underlying52 hf
  match xs, hlen, hx with
  | [y0, y1, y2, y3], _, hx =>
    have h0 := hf2 0 _ rfl
    have h1 := hf2 1 _ rfl
    have h2 := hf2 2 _ rfl
    have h3 := hf2 3 _ rfl
    have c1 : Tryd.prog.cellsOf 25 = 2 := by kernel_rfl
    have c2 : Tryd.prog.cellsOf 50 = 1 := by kernel_rfl
    have c3 : Tryd.prog.cellsOf 3 = 1 := by kernel_rfl
    simp [c1] at h0
    simp [c1] at h1
    simp [c1, c2] at h2
    simp [c1, c2, c3] at h3
    injection hx with hx1 hx2
    subst hx1
    subst hx2
    obtain ⟨la, ta, q1, q2⟩ := open_tabF (a := v1) (b := u1) (by simpa [Value.cells] using h0) (hsz.field Tryd.underlying52 (i := 0) rfl rfl)
    obtain ⟨lb, tb, q3, q4⟩ := open_tabF (a := v2) (b := u2) (by simpa [Value.cells] using h1) (hsz.field Tryd.underlying52 (i := 1) rfl rfl)
    obtain ⟨on, q5⟩ := open_onF (v := z) (by simpa [Value.cells] using h2) (hsz.field Tryd.underlying52 (i := 2) rfl rfl)
    obtain ⟨kind, g3, -, -⟩ := DataW.trod_int Tryd.underlying3 h3
    obtain rfl : u = .int .i64 kind := by injection g3
    exact ⟨v1, u1, v2, u2, z, la, ta, lb, tb, on, kind, rfl, q1, q2, q3, q4, q5⟩
end
end Go.Proofs.YtgiemhooeoakmaaDoor


/- Layer 25: diff.Diff. -/
import Derived.Test.YtgiemhooeoakmaaDoorDifG
import Derived.Test.YtgiemhooeoakmaaDoorDifH
import Derived.Deep.RegionHeld3
namespace Go.Proofs.YtgiemhooeoakmaaDoor
open Go.RowKit Go.ChangeShapes Go.WideShapes
set_option linter.unusedVariables false
set_option linter.unusedSimpArgs false

theorem rowF_len {n : Nat} {ps : List Int} {t : VTab} : ∀ {rest : VTab} {j : Nat}, (rowF n ps t j rest).2 = 0 → ∀ x ∈ rest, x.length = n
  | [], _, _, x, hx => by cases hx
  | r :: rest, j, h, x, hx => by
    rw [rowF] at h
    split at h
    · cases h
    · rename_i hl
      split at h
      · cases h
      · split at h
        · cases h
        · rcases List.mem_cons.1 hx with rfl | hx
          · simpa using hl
          · exact rowF_len h x hx
theorem dchk_ok {l : List Col} {keys : Row} {t : VTab} (h : (dchk l keys t).2 = 0) : (plC l keys).2 = 0 ∧ (rowF l.length (numsF (namesC l) keys) t 0 t).2 = 0 := by
  unfold dchk at h
  split at h
  · rename_i h1; exact absurd h h1
  · rename_i h1; exact ⟨by simpa using h1, h⟩
/-- The changes of one row of the first table; of the second one. -/
def chA (ps : List Int) (tb : VTab) (r : VRow) : List Chg := if findP ps r tb < 0 then [⟨1, r, []⟩] else if sameW r (tb.getD (findP ps r tb).toNat []) = true then [] else [⟨2, r, tb.getD (findP ps r tb).toNat []⟩]
def chB (ps : List Int) (ta : VTab) (r : VRow) : List Chg := if findP ps r ta < 0 then [⟨3, [], r⟩] else []
def diffF (ps : List Int) (ta tb : VTab) : List Chg := ta.flatMap (chA ps tb) ++ tb.flatMap (chB ps ta)
def diffE (la lb : List Col) (keys : Row) (ta tb : VTab) : Nat := if sameC la lb = false then 21 else if (dchk la keys ta).2 ≠ 0 then (dchk la keys ta).2 else (dchk lb keys tb).2
def diffL (la lb : List Col) (keys : Row) (ta tb : VTab) : List Chg := if diffE la lb keys ta tb = 0 then diffF (numsF (namesC la) keys) ta tb else []
theorem chA_len (ps : List Int) (tb : VTab) (r : VRow) : (chA ps tb r).length ≤ 1 := by
  unfold chA
  split
  · exact Nat.le_refl _
  · split <;> simp
theorem chB_len (ps : List Int) (ta : VTab) (r : VRow) : (chB ps ta r).length ≤ 1 := by
  unfold chB
  split <;> simp
theorem flat_le1 {α β : Type} (f : α → List β) (hf : ∀ x, (f x).length ≤ 1) : ∀ l : List α, (l.flatMap f).length ≤ l.length
  | [] => Nat.le_refl _
  | x :: r => by
    rw [List.flatMap_cons, List.length_append, List.length_cons]
    have := hf x
    have := flat_le1 f hf r
    omega
theorem flat_snoc {α β : Type} (f : α → List β) (l : List α) {k : Nat} (hk : k < l.length) : (l.take (k + 1)).flatMap f = (l.take k).flatMap f ++ f l[k] := by
  rw [List.take_succ_eq_append_getElem hk, List.flatMap_append]
  simp
theorem keepB {W ws w' : World} (hb : Below ws.heap.size ws w') (h : Below W.heap.size W ws) : Below W.heap.size W w' := h.trans (hb.mono h.size)
theorem ch_one (k : Int) (A B : Option Addr) (n m c d : Nat) : ∀ u ∈ (#[.int .i64 k, .slice A n c, .slice B m d] : Array Value).toList, u.oneCell' = true := by
  intro u hu
  simp at hu
  rcases hu with rfl | rfl | rfl <;> rfl
set_option maxHeartbeats 8000000 in
set_option maxRecDepth 100000 in
theorem ddiff_any (v1 u1 v2 u2 z : Value) (la lb : List Col) (ta tb : VTab) (keys : Row) (w : World) (h1 : RdC w w.heap.size v1 la) (h2 : RdVT w w.heap.size u1 ta) (h3 : RdC w w.heap.size v2 lb) (h4 : RdVT w w.heap.size u2 tb) (hu : RdS w w.heap.size z keys)
    (hla : la.length ≤ 100000) (hta : ta.length ≤ 100000) (hlb : lb.length ≤ 100000) (htb : tb.length ≤ 100000) (hk : keys.length ≤ 100000) (hca : ∀ c ∈ la, c.name.size ≤ 100000) (hcb : ∀ c ∈ lb, c.name.size ≤ 100000) (hT : Tab w) :
    Calls Tryd.prog 19 #[.agg #[v1, u1], .agg #[v2, u2], z] w fun e w' => (∃ o, e = .returned (.tuple #[o, .int .i64 (diffE la lb keys ta tb)]) ∧ RdCh valV w' w'.heap.size o (diffL la lb keys ta tb)) ∧ Below w.heap.size w w' := by
  refine cps fun R HR => ?_
  have g1 := h1; have g2 := h2; have g3 := h3; have g4 := h4; have hu0 := hu
  obtain ⟨A1, c1, rfl, -⟩ := h1.is
  obtain ⟨A2, c2, vs, rfl, -, -⟩ := h2.is
  obtain ⟨A3, c3, rfl, -⟩ := h3.is
  obtain ⟨A4, c4, vs', rfl, -, -⟩ := h4.is
  obtain ⟨A5, c5, rfl, -⟩ := hu.is
  have hf2 := g2.few
  have hf4 := g4.few
  clear h1 h2 h3 h4 hu
  obtain ⟨E, hE⟩ : ∃ E, E = diffE la lb keys ta tb := ⟨_, rfl⟩
  obtain ⟨D, hD⟩ : ∃ D, D = diffL la lb keys ta tb := ⟨_, rfl⟩
  rw [← hE, ← hD] at HR
  unfold diffL at hD
  rw [← hE] at hD
  unfold diffE at hE
  obtain ⟨w0, hw0⟩ : ∃ w0, w0 = (w.alloc (.cells #[.slice A1 la.length c1, .slice A2 ta.length c2] 25)).alloc (.cells #[.slice A3 lb.length c3, .slice A4 tb.length c4] 25) := ⟨_, rfl⟩
  have bw0 : Below w.heap.size w w0 := by rw [hw0]; exact ((Below.refl _ _).alloc (Nat.le_refl _) _).alloc (by simp) _
  have X := (Box.new w 25 #[.slice A1 la.length c1, .slice A2 ta.length c2]).alloc (.cells #[.slice A3 lb.length c3, .slice A4 tb.length c4] 25)
  have Z := Box.new (w.alloc (.cells #[.slice A1 la.length c1, .slice A2 ta.length c2] 25)) 25 #[.slice A3 lb.length c3, .slice A4 tb.length c4]
  rw [← hw0] at X Z
  rw [show (w.alloc (.cells #[.slice A1 la.length c1, .slice A2 ta.length c2] 25)).heap.size = w.heap.size + 1 by simp] at Z
  have cells : ∀ w' : World, Below w0.heap.size w0 w' → w'.cell? ⟨w.heap.size, 0, none⟩ = some (.slice A1 la.length c1) ∧ w'.cell? ⟨w.heap.size, 1, none⟩ = some (.slice A2 ta.length c2) ∧ w'.cell? ⟨w.heap.size + 1, 0, none⟩ = some (.slice A3 lb.length c3) ∧ w'.cell? ⟨w.heap.size + 1, 1, none⟩ = some (.slice A4 tb.length c4) := fun w' hb => by
    have X2 := X.below hb X.lt
    have Z2 := Z.below hb Z.lt
    exact ⟨X2.cell 0, X2.cell 1, Z2.cell 0, Z2.cell 1⟩
  obtain ⟨x0, x1, z0, z1⟩ := cells w0 (Below.refl _ _)
  have CELLS := Lib.hid cells; have HW0 := Lib.hid hw0; have HB0 := Lib.hid bw0; have HE := Lib.hid hE; have HD := Lib.hid hD
  have HCA := Lib.hid hca; have HCB := Lib.hid hcb; have HT := Lib.hid hT
  clear X Z hw0 bw0 hE hD cells hca hcb hT
  obtain ⟨ts, hts⟩ : ∃ ts, ts = sameC la lb := ⟨_, rfl⟩
  have HTS := Lib.hid hts
  clear hts
  go_enter Tryd.func19, Tryd.ntmps19
  go_wp2_with fail
  rw [← HW0.out]
  refine (schSame_any _ _ la lb _ (RdF.next g1 HB0.out) (RdF.next g3 HB0.out)).mono ?_
  rintro e w1 ⟨rfl, b1⟩
  rw [← HTS.out]
  have bw1 := HB0.out.trans (b1.mono HB0.out.size)
  clear x0 x1 z0 z1
  obtain ⟨x0, x1, z0, z1⟩ := CELLS.out w1 b1
  cases ts
  · have he := HE.out
    rw [← HTS.out, if_pos rfl] at he
    subst he
    have hd := HD.out
    rw [if_neg (by simp)] at hd
    subst hd
    go_wp2
    exact HR.out _ _ ⟨⟨_, rfl, RdCh.nil _ _⟩, bw1⟩
  · have he := HE.out
    rw [← HTS.out, if_neg (by simp)] at he
    have HE2 := Lib.hid he
    have hlab : la = lb := of_decide_eq_true HTS.out.symm
    have HLAB := Lib.hid hlab
    clear he hlab
    obtain ⟨w2, hw2⟩ : ∃ w2, w2 = w1.alloc (.cells #[.slice A1 la.length c1, .slice A2 ta.length c2, .slice A3 lb.length c3, .slice A4 tb.length c4] 25) := ⟨_, rfl⟩
    have b12 : Below w1.heap.size w1 w2 := by rw [hw2]; exact (Below.refl _ _).alloc (Nat.le_refl _) _
    have Y := Box.new w1 25 #[.slice A1 la.length c1, .slice A2 ta.length c2, .slice A3 lb.length c3, .slice A4 tb.length c4]
    rw [← hw2] at Y
    have HY := Lib.hid Y; have HW2 := Lib.hid hw2; have HB12 := Lib.hid b12
    have bw2 := bw1.trans (b12.mono bw1.size)
    have b02 := b1.trans (b12.mono b1.size)
    clear Y hw2
    go_wp2
    rw [← HW2.out]
    go_loopw [31] (fun i wr => ∃ k : Nat, k ≤ 2 ∧ i = .int .i64 k ∧ (1 ≤ k → (dchk la keys ta).2 = 0) ∧ (2 ≤ k → (dchk lb keys tb).2 = 0) ∧ Below w2.heap.size w2 wr) (fun i _ => 2 - (intOf i).toNat)
    case atStart => exact ⟨0, Nat.zero_le _, rfl, (fun h => by omega), (fun h => by omega), Below.refl _ _⟩
    case round =>
      obtain ⟨k, hk2, rfl, hK1, hK2, hBr⟩ := hrel
      have HK1 := Lib.hid hK1; have HK2 := Lib.hid hK2
      have bwr := bw2.trans (hBr.mono bw2.size)
      clear hK1 hK2 x0 x1 z0 z1
      have Y2 := HY.out.below hBr HY.out.lt
      have y0 := Y2.cell 0
      have y1 := Y2.cell 1
      have y2 := Y2.cell 2
      have y3 := Y2.cell 3
      simp at y0 y1 y2 y3
      clear Y2
      rcases (by omega : k = 0 ∨ k = 1 ∨ k = 2) with rfl | rfl | rfl
      · have bA : Below wr.heap.size wr (wr.alloc (.cells #[.slice A1 la.length c1, .slice A2 ta.length c2] 25)) := (Below.refl _ _).alloc (Nat.le_refl _) _
        have bA2 := bwr.trans (bA.mono bwr.size)
        have hBr2 := hBr.trans (bA.mono hBr.size)
        have p1 := RdF.next g1 bA2
        have p2 := RdE.next (RdF.stays valV 4) g2 bA2
        have p5 := hu0.next bA2
        have p6 := HT.out.below bA2
        go_wp2_with fail
        refine (dcheck_any _ _ _ la ta keys _ p1 p2 p5 hla hta hk HCA.out p6).mono ?_
        rintro e w3 ⟨rfl, b3⟩
        have bw3 := bA2.trans (b3.mono bA2.size)
        have hB3 := hBr2.trans (b3.mono hBr2.size)
        obtain ⟨dc, hdc⟩ : ∃ dc, dc = dchk la keys ta := ⟨_, rfl⟩
        rw [← hdc]
        have HDC := Lib.hid hdc
        clear hdc p1 p2 p5 p6 bA
        obtain ⟨dn, de⟩ := dc
        by_cases h0 : de = 0
        · subst h0
          have hk1 : (dchk la keys ta).2 = 0 := by rw [← HDC.out]
          have K1 := Lib.hid hk1
          clear hk1
          go_wp2
          exact ⟨⟨1, by omega, by go_num, fun _ => K1.out, (fun h => by omega), hB3⟩, by simp [intOf]⟩
        · have dne : ((de : Int) != 0) = true := by rw [bne_iff_ne]; omega
          have he := HE2.out
          rw [← HDC.out, if_pos (by simpa using h0)] at he
          subst he
          have hd := HD.out
          rw [if_neg (by simpa using h0)] at hd
          subst hd
          clear h0
          go_wp2
          exact HR.out _ _ ⟨⟨_, rfl, RdCh.nil _ _⟩, bw3⟩
      · have bA : Below wr.heap.size wr (wr.alloc (.cells #[.slice A3 lb.length c3, .slice A4 tb.length c4] 25)) := (Below.refl _ _).alloc (Nat.le_refl _) _
        have bA2 := bwr.trans (bA.mono bwr.size)
        have hBr2 := hBr.trans (bA.mono hBr.size)
        have p1 := RdF.next g3 bA2
        have p2 := RdE.next (RdF.stays valV 4) g4 bA2
        have p5 := hu0.next bA2
        have p6 := HT.out.below bA2
        have hk1 := HK1.out (by omega)
        have K1 := Lib.hid hk1
        clear hk1
        go_wp2_with fail
        refine (dcheck_any _ _ _ lb tb keys _ p1 p2 p5 hlb htb hk HCB.out p6).mono ?_
        rintro e w3 ⟨rfl, b3⟩
        have bw3 := bA2.trans (b3.mono bA2.size)
        have hB3 := hBr2.trans (b3.mono hBr2.size)
        obtain ⟨dc, hdc⟩ : ∃ dc, dc = dchk lb keys tb := ⟨_, rfl⟩
        rw [← hdc]
        have HDC := Lib.hid hdc
        clear hdc p1 p2 p5 p6 bA
        obtain ⟨dn, de⟩ := dc
        by_cases h0 : de = 0
        · subst h0
          have hk2 : (dchk lb keys tb).2 = 0 := by rw [← HDC.out]
          have K2 := Lib.hid hk2
          clear hk2
          go_wp2
          exact ⟨⟨2, by omega, by go_num, fun _ => K1.out, fun _ => K2.out, hB3⟩, by simp [intOf]⟩
        · have dne : ((de : Int) != 0) = true := by rw [bne_iff_ne]; omega
          have he := HE2.out
          rw [if_neg (by rw [K1.out]; simp), ← HDC.out] at he
          subst he
          have hd := HD.out
          rw [if_neg (by simpa using h0)] at hd
          subst hd
          clear h0
          go_wp2
          exact HR.out _ _ ⟨⟨_, rfl, RdCh.nil _ _⟩, bw3⟩
      · have hA0 := HK1.out (by omega)
        have hB0 := HK2.out (by omega)
        have he := HE2.out
        rw [if_neg (by rw [hA0]; simp), hB0] at he
        subst he
        have hd := HD.out
        rw [if_pos rfl] at hd
        have HD2 := Lib.hid hd
        obtain ⟨hpa, hra⟩ := dchk_ok hA0
        obtain ⟨hpb, hrb⟩ := dchk_ok hB0
        have HPA := Lib.hid hpa; have HRA := Lib.hid (rowF_len hra); have HRB := Lib.hid (rowF_len hrb)
        have b0r := b02.trans (hBr.mono b02.size)
        obtain ⟨x0, x1, z0, z1⟩ := CELLS.out wr b0r
        obtain ⟨w3, rfl⟩ : ∃ w3 : World, w3 = wr := ⟨_, rfl⟩
        clear hA0 hB0 hd hpa hra hpb hrb y0 y1 y2 y3
        go_wp2_with fail
        refine (places_any _ _ la keys _ (RdF.next g1 bwr) (hu0.next bwr) hla hk HCA.out (HT.out.below bwr)).mono ?_
        rintro e w4 ⟨o, rfl, ho, b4⟩
        have hplo : plO la keys = numsF (namesC la) keys := by unfold plO; rw [if_pos HPA.out]
        rw [hplo] at ho
        have hps := plC_keys HPA.out
        obtain ⟨ps, hpd⟩ : ∃ ps, ps = numsF (namesC la) keys := ⟨_, rfl⟩
        have hd2 := HD2.out
        rw [← hpd] at ho hps hd2
        have hri := RdI.of_own ho
        obtain ⟨oA, oc, rfl, -⟩ := hri.is
        have HRI := Lib.hid hri; have HPS := Lib.hid hps; have HD3 := Lib.hid hd2
        have bw4 := bwr.trans (b4.mono bwr.size)
        have b04 := b0r.trans (b4.mono b0r.size)
        clear ho hplo hpd hd2 hri hps x0 x1 z0 z1
        obtain ⟨x0, x1, z0, z1⟩ := CELLS.out w4 b04
        obtain ⟨i0, hi0, hz0, hz1, hz2⟩ := info_parts chg_info
        obtain ⟨pc, hpc⟩ : ∃ pc, pc = (plC la keys).1 := ⟨_, rfl⟩
        obtain ⟨pe, hpe⟩ : ∃ pe, pe = (plC la keys).2 := ⟨_, rfl⟩
        rw [← hpc, ← hpe]
        clear hpc hpe
        go_wp2
        go_loopw [15, 56] (fun d i wr => ∃ k : Nat, k ≤ ta.length ∧ i = .int .i64 k ∧ ChX valV 101 wr w4.heap.size d ((ta.take k).flatMap (chA ps tb)) ∧ Below w4.heap.size w4 wr) (fun _ i _ => ta.length - (intOf i).toNat)
        case atStart => exact ⟨0, Nat.zero_le _, rfl, ChX.nil _ _, Below.refl _ _⟩
        case round =>
          obtain ⟨k, hk3, rfl, hch, hBr4⟩ := hrel
          have bwk := bw4.trans (hBr4.mono bw4.size)
          have b0k := b04.trans (hBr4.mono b04.size)
          clear x0 x1 z0 z1
          obtain ⟨x0, x1, z0, z1⟩ := CELLS.out wr b0k
          by_cases hlt : k < ta.length
          · have dk : decide ((k : Int) < ta.length) = true := decide_eq_true (by omega)
            obtain ⟨p, c6, vr, hv, hcrw, hrdw⟩ := g2.at hlt
            have hcr := ((bwk.cell (World.block_lt_of_cell? w _ hcrw))).trans hcrw
            have hrd := RdF.next hrdw bwk
            clear hcrw
            injection hv with hAA hln hcc
            subst hAA
            subst hcc
            clear hln
            have hs1 := flat_snoc (chA ps tb) ta hlt
            have hlr := HRA.out _ (List.getElem_mem hlt)
            have hcnt := flat_le1 (chA ps tb) (chA_len ps tb) (ta.take k)
            rw [List.length_take] at hcnt
            obtain ⟨r, hr⟩ : ∃ r, r = ta[k] := ⟨_, rfl⟩
            rw [← hr] at hrd hs1 hlr hrdw
            obtain ⟨L, hL⟩ : ∃ L, L = (ta.take k).flatMap (chA ps tb) := ⟨_, rfl⟩
            rw [← hL] at hs1 hcnt hch
            have S1 := Lib.hid hs1; have HLR := Lib.hid hlr
            clear hr hs1 hlr hL
            have hrd0 := hrd
            obtain ⟨rA, rc, rfl, -⟩ := hrd.is
            have hrl5 : r.length ≤ 100000 := by rw [HLR.out]; exact hla
            clear hrd
            go_wp2_with fail
            refine (dfind_any _ _ _ tb r ps _ (RdE.next (RdF.stays valV 4) g4 bwk) hrd0 (HRI.out.next hBr4) (fun x hx q hq => ⟨(HPS.out q hq).1, by rw [HRB.out x hx, ← HLAB.out]; exact (HPS.out q hq).2, by rw [HLR.out]; exact (HPS.out q hq).2⟩)).mono ?_
            rintro e w5 ⟨rfl, b5⟩
            obtain ⟨fp, hfp⟩ : ∃ fp, fp = findP ps r tb := ⟨_, rfl⟩
            rw [← hfp]
            have HFP := Lib.hid hfp
            have hB5 := hBr4.trans (b5.mono hBr4.size)
            have bw5 := bwk.trans (b5.mono bwk.size)
            have b05 := b0k.trans (b5.mono b0k.size)
            have hr5 := RdF.next hrd0 b5
            have hch5 := hch.keep b5
            clear hfp x0 x1 z0 z1 hch
            by_cases hneg : fp < 0
            · have hng : ¬ 0 ≤ fp := by omega
              go_wp2_with fail
              refine (cloneV_any _ r _ hr5 hrl5).mono ?_
              rintro e w6 ⟨u, rfl, hou, b6⟩
              have hru := RdF.of_own valV_len (by omega) hou
              obtain ⟨uA, uc, rfl, -⟩ := hru.is
              have hB6 := hB5.trans (b6.mono hB5.size)
              obtain ⟨us, how, hea⟩ := (hch5.keep b6).is
              have hlt5 := hch5.lt
              have hnew : chA ps tb r = [⟨1, r, []⟩] := by unfold chA; rw [← HFP.out, if_pos hneg]
              have HNEW := Lib.hid hnew; have HEA := Lib.hid hea; have HOU := Lib.hid hou; have HL5 := Lib.hid hlt5; have HOW := Lib.hid how
              clear hnew hea hou hlt5 how hru
              go_wp2_with (at_builtin; refine wpList_pushF rfl _ _ _ rfl w4.heap.size 101 i0 _ 3 56 Tryd.underlying41 hi0 hz0 hz1 hz2 rfl (by omega) (by omega) u15 L.length _ #[.int .i64 1, .slice uA r.length uc, .slice none 0 0] rfl rfl HOW.out (by simp [Act.eval]) (ch_one _ _ _ _ _ _ _) (by omega) hB6.size ?_; intro v7 w7 hown7 hg7 hat7)
              have hx : ChRX valV w6 u15.ownBlock ⟨1, .slice uA r.length uc, .slice none 0 0⟩ ⟨1, r, []⟩ := ⟨rfl, RdX.of_own valV_len (by omega) HOU.out (fun g hg => (HL5.out g hg).2), RdX.nil _ _⟩
              exact ⟨⟨k + 1, by omega, by go_num, by rw [S1.out, HNEW.out]; exact ChX.push hown7 HEA.out hx hg7 hat7, below_grown hB6 hg7 (fun g hg => (HL5.out g hg).1) hB6.size⟩, by simp [intOf]; omega⟩
            · have hge : 0 ≤ findP ps r tb := by rw [← HFP.out]; omega
              have hany : tb.any (alikeP ps r) = true := by rw [← findP_ge, decide_eq_true hge]
              obtain ⟨q, hq, hqe, -⟩ := idxP_some hany 0
              have hfq : fp = (q : Int) := by rw [HFP.out]; unfold findP; rw [hqe]; simp
              have hfq2 : (findP ps r tb).toNat = q := by rw [← HFP.out, hfq]; simp
              have hchA : chA ps tb r = if sameW r tb[q] = true then [] else [⟨2, r, tb[q]⟩] := by
                unfold chA
                rw [if_neg (by omega), hfq2, List.getD_eq_getElem?_getD, List.getElem?_eq_getElem hq, Option.getD_some]
              have HCHA := Lib.hid hchA
              clear hge hany hqe hfq2 hchA hneg HFP
              subst hfq
              obtain ⟨y0, y1, y2, y3⟩ := CELLS.out w5 b05
              obtain ⟨p4, c8, vx, hv4, hcxw, hxdw⟩ := g4.at hq
              have hcx := ((bw5.cell (World.block_lt_of_cell? w _ hcxw))).trans hcxw
              have hxd := RdF.next hxdw bw5
              injection hv4 with hAA hln hcc
              subst hAA
              subst hcc
              clear hln
              have hlx := HRB.out _ (List.getElem_mem hq)
              obtain ⟨x, hx⟩ : ∃ x, x = tb[q] := ⟨_, rfl⟩
              rw [← hx] at hxd hlx hxdw
              rw [← hx] at HCHA
              have HLX := Lib.hid hlx
              clear hx hlx
              have hxd0 := hxd
              obtain ⟨xA, xc, rfl, -⟩ := hxd.is
              have HXW := Lib.hid (And.intro hcxw (And.intro hxdw hrdw))
              clear hcxw hxdw
              have hxl5 : x.length ≤ 100000 := by rw [HLX.out]; exact hlb
              have hq0 : ¬ ((q : Int) < 0) := by omega
              have hqI : (q : Int) < tb.length := by omega
              clear hxd
              go_wp2_with fail
              refine (eqRow_any _ _ r x _ hr5 hxd0).mono ?_
              rintro e w6 ⟨rfl, b6⟩
              obtain ⟨sw, hsw⟩ : ∃ sw, sw = sameW r x := ⟨_, rfl⟩
              rw [← hsw]
              rw [← hsw] at HCHA
              have hB6 := hB5.trans (b6.mono hB5.size)
              have hch6 := hch5.keep b6
              clear hsw y0 y1 y2 y3
              cases sw
              · have b06 := b05.trans (b6.mono b05.size)
                obtain ⟨y0, y1, y2, y3⟩ := CELLS.out w6 b06
                have hcx6 : w6.cell? (p4.add q) = some (.slice xA x.length xc) := (b6.cell (World.block_lt_of_cell? w5 _ hcx)).trans hcx
                have hr6 := RdF.next hr5 b6
                have hx6 := RdF.next hxd0 b6
                clear hcx
                have bw6 := bw5.trans (b6.mono bw5.size)
                have hnew : chA ps tb r = [⟨2, r, x⟩] := by rw [HCHA.out, if_neg (by simp)]
                have hchl := hch6.lt
                have y34 : w4.cell? ⟨w.heap.size + 1, 1, none⟩ = some (.slice (some p4) tb.length c4) := (CELLS.out w4 b04).2.2.2
                have hxw : w.cell? (p4.add q) = some (.slice xA x.length xc) ∧ RdV w w.heap.size (.slice xA x.length xc) x ∧ RdV w w.heap.size (.slice rA r.length rc) r := HXW.out
                have mk : ∀ w', Below w.heap.size w w' → Below w4.heap.size w4 w' → w'.cell? ⟨w.heap.size + 1, 1, none⟩ = some (.slice (some p4) tb.length c4) ∧ w'.cell? (p4.add q) = some (.slice xA x.length xc) ∧ Below w.heap.size w w' ∧ Below w4.heap.size w4 w' := fun w' q1 q2 =>
                  ⟨(q2.cell (World.block_lt_of_cell? w4 _ y34)).trans y34, (q1.cell (World.block_lt_of_cell? w _ hxw.1)).trans hxw.1, q1, q2⟩
                have MK := Lib.hid mk; have HXW2 := Lib.hid hxw.2; have HNEW := Lib.hid hnew; have HCL := Lib.hid hchl; have HCH6 := Lib.hid hch6
                clear y34 hxw mk hnew hchl
                go_wp2
                go_region_held3 (fun w' => w'.cell? ⟨w.heap.size + 1, 1, none⟩ = some (.slice (some p4) tb.length c4) ∧ w'.cell? (p4.add q) = some (.slice xA x.length xc) ∧ Below w.heap.size w w' ∧ Below w4.heap.size w4 w') (first | (exact MK.out _ bw6.drew hB6.drew) | (go_split_ands; exact MK.out _ (by assumption) (by assumption)) | (go_split_ands; exact MK.out _ (keepB (by assumption) (by assumption)) (keepB (by assumption) (by assumption))) | (go_split_ands; exact MK.out _ (Below.alloc (by assumption) (Below.size (by assumption)) _) (Below.alloc (by assumption) (Below.size (by assumption)) _)) | go_keep)
                  (first | (have second := firstMark; go_at_call 68; go_split_ands; refine (cloneV_any _ x _ (RdF.next HXW2.out.1 (by assumption)) hxl5).mono ?_; rintro e w8 ⟨u2, rfl, hou2, b8⟩; obtain ⟨uB, ud, rfl, -⟩ := (RdF.of_own valV_len (by omega) hou2).is; have c8 := keepB b8 c7; have hB8 := hB6.trans (c8.mono hB6.size); have bw8 := bw6.trans (c8.mono bw6.size); obtain ⟨us, how, hea⟩ := (HCH6.out.keep c8).is; have hou3 := hou1.below b8 (Nat.le_refl _); have hx := ChRX.mk (g := valV) (w := w8) (row := u15.ownBlock) (u := ⟨2, .slice uA r.length uc, .slice uB x.length ud⟩) (c := ⟨2, r, x⟩) rfl (RdX.of_own valV_len (by omega) hou3 (fun g hg => (HCL.out g hg).2)) (RdX.of_own valV_len (by omega) hou2 (fun g hg => Nat.lt_of_lt_of_le (HCL.out g hg).2 c7.size)); have HOW8 := Lib.hid how; have HEA8 := Lib.hid hea; have HX8 := Lib.hid hx; clear how hea hx) | (go_at_call 68; go_split_ands; refine (cloneV_any _ r _ (RdF.next HXW2.out.2 (by assumption)) hrl5).mono ?_; rintro e w7 ⟨u1, rfl, hou1, b7⟩; have firstMark : True := trivial; obtain ⟨uA, uc, rfl, -⟩ := (RdF.of_own valV_len (by omega) hou1).is; have c7 : Below w6.heap.size w6 w7 := keepB b7 (Below.drew (Below.refl _ _))) | (refine step_pushF rfl (.tmp 83) (.tmp 93) _ rfl w4.heap.size 101 i0 _ 3 56 Tryd.underlying41 hi0 hz0 hz1 hz2 rfl (by omega) (by omega) u15 L.length _ #[.int .i64 2, .slice uA r.length uc, .slice uB x.length ud] rfl (by simp [Act.eval, Act.put]) HOW8.out (by simp [Act.eval, Act.put]) (ch_one _ _ _ _ _ _ _) (by omega) hB8.size ?_; intro v9 w9 hown9 hg9 hat9; have hB9 := below_grown hB8 hg9 (fun g hg => (HCL.out g hg).1) hB8.size; have bw9 := below_grown bw8 hg9 (fun g hg => Nat.le_trans bw4.size (HCL.out g hg).1) bw8.size))
                go_wp2
                exact ⟨⟨k + 1, by omega, by go_num, by rw [S1.out, HNEW.out]; exact ChX.push hown9 HEA8.out HX8.out hg9 hat9, hB9⟩, by simp [intOf]; omega⟩
              · have hnil : chA ps tb r = [] := by rw [HCHA.out, if_pos rfl]
                have HNIL := Lib.hid hnil
                clear hnil
                go_wp2
                exact ⟨⟨k + 1, by omega, by go_num, by rw [S1.out, HNIL.out, List.append_nil]; exact hch6, hB6⟩, by simp [intOf]; omega⟩
          · obtain rfl : k = ta.length := by omega
            rw [List.take_length] at hch
            obtain ⟨L1, hL1⟩ : ∃ L1, L1 = ta.flatMap (chA ps tb) := ⟨_, rfl⟩
            have hl1 : L1.length ≤ ta.length := by rw [hL1]; exact flat_le1 _ (chA_len ps tb) ta
            have hD4 := HD3.out
            unfold diffF at hD4
            rw [← hL1] at hch hD4
            have HD5 := Lib.hid hD4
            obtain ⟨w5, rfl⟩ : ∃ w5 : World, w5 = wr := ⟨_, rfl⟩
            clear hL1 hD4 hlt
            go_wp2
            go_loopw [15, 99] (fun d i wr => ∃ k : Nat, k ≤ tb.length ∧ i = .int .i64 k ∧ ChX valV 101 wr w4.heap.size d (L1 ++ (tb.take k).flatMap (chB ps ta)) ∧ Below w4.heap.size w4 wr) (fun _ i _ => tb.length - (intOf i).toNat)
            case atStart => exact ⟨0, Nat.zero_le _, rfl, by simpa using hch, hBr4⟩
            case round =>
              obtain ⟨k, hk6, rfl, hch, hBr4⟩ := hrel
              have bwk := bw4.trans (hBr4.mono bw4.size)
              have b0k := b04.trans (hBr4.mono b04.size)
              clear x0 x1 z0 z1
              obtain ⟨x0, x1, z0, z1⟩ := CELLS.out wr b0k
              by_cases hlt : k < tb.length
              · have dk : decide ((k : Int) < tb.length) = true := decide_eq_true (by omega)
                obtain ⟨p, c6, vr, hv, hcrw, hrdw⟩ := g4.at hlt
                have hcr := ((bwk.cell (World.block_lt_of_cell? w _ hcrw))).trans hcrw
                have hrd := RdF.next hrdw bwk
                clear hcrw
                injection hv with hAA hln hcc
                subst hAA
                subst hcc
                clear hln
                have hs1 := flat_snoc (chB ps ta) tb hlt
                have hlr := HRB.out _ (List.getElem_mem hlt)
                have hcnt := flat_le1 (chB ps ta) (chB_len ps ta) (tb.take k)
                rw [List.length_take] at hcnt
                obtain ⟨r, hr⟩ : ∃ r, r = tb[k] := ⟨_, rfl⟩
                rw [← hr] at hrd hs1 hlr
                have hs2 : L1 ++ (tb.take (k + 1)).flatMap (chB ps ta) = (L1 ++ (tb.take k).flatMap (chB ps ta)) ++ chB ps ta r := by rw [hs1, List.append_assoc]
                have hcnt2 : (L1 ++ (tb.take k).flatMap (chB ps ta)).length ≤ 200000 := by rw [List.length_append]; omega
                obtain ⟨L, hL⟩ : ∃ L, L = L1 ++ (tb.take k).flatMap (chB ps ta) := ⟨_, rfl⟩
                rw [← hL] at hs2 hcnt2 hch
                have S1 := Lib.hid hs2; have HLR := Lib.hid hlr
                clear hr hs1 hs2 hlr hL hrdw hcnt
                have hrd0 := hrd
                obtain ⟨rA, rc, rfl, -⟩ := hrd.is
                have hrl5 : r.length ≤ 100000 := by rw [HLR.out]; exact hlb
                clear hrd
                go_wp2_with fail
                refine (dfind_any _ _ _ ta r ps _ (RdE.next (RdF.stays valV 4) g2 bwk) hrd0 (HRI.out.next hBr4) (fun x hx q hq => ⟨(HPS.out q hq).1, by rw [HRA.out x hx]; exact (HPS.out q hq).2, by rw [HLR.out, ← HLAB.out]; exact (HPS.out q hq).2⟩)).mono ?_
                rintro e w6 ⟨rfl, b6⟩
                obtain ⟨fp, hfp⟩ : ∃ fp, fp = findP ps r ta := ⟨_, rfl⟩
                rw [← hfp]
                have HFP := Lib.hid hfp
                have hB6 := hBr4.trans (b6.mono hBr4.size)
                have hr6 := RdF.next hrd0 b6
                have hch6 := hch.keep b6
                clear hfp x0 x1 z0 z1 hch
                by_cases hneg : fp < 0
                · have hng : ¬ 0 ≤ fp := by omega
                  go_wp2_with fail
                  refine (cloneV_any _ r _ hr6 hrl5).mono ?_
                  rintro e w7 ⟨u, rfl, hou, b7⟩
                  have hru := RdF.of_own valV_len (by omega) hou
                  obtain ⟨uA, uc, rfl, -⟩ := hru.is
                  have hB7 := hB6.trans (b7.mono hB6.size)
                  obtain ⟨us, how, hea⟩ := (hch6.keep b7).is
                  have hlt5 := hch6.lt
                  have hnew : chB ps ta r = [⟨3, [], r⟩] := by unfold chB; rw [← HFP.out, if_pos hneg]
                  have HNEW := Lib.hid hnew; have HEA := Lib.hid hea; have HOU := Lib.hid hou; have HL5 := Lib.hid hlt5; have HOW := Lib.hid how
                  clear hnew hea hou hlt5 how hru
                  go_wp2_with (at_builtin; refine wpList_pushF rfl _ _ _ rfl w4.heap.size 101 i0 _ 3 56 Tryd.underlying41 hi0 hz0 hz1 hz2 rfl (by omega) (by omega) u15 L.length _ #[.int .i64 3, .slice none 0 0, .slice uA r.length uc] rfl rfl HOW.out (by simp [Act.eval]) (ch_one _ _ _ _ _ _ _) (by omega) hB7.size ?_; intro v8 w8 hown8 hg8 hat8)
                  have hx : ChRX valV w7 u15.ownBlock ⟨3, .slice none 0 0, .slice uA r.length uc⟩ ⟨3, [], r⟩ := ⟨rfl, RdX.nil _ _, RdX.of_own valV_len (by omega) HOU.out (fun g hg => (HL5.out g hg).2)⟩
                  exact ⟨⟨k + 1, by omega, by go_num, by rw [S1.out, HNEW.out]; exact ChX.push hown8 HEA.out hx hg8 hat8, below_grown hB7 hg8 (fun g hg => (HL5.out g hg).1) hB7.size⟩, by simp [intOf]; omega⟩
                · have hnil : chB ps ta r = [] := by unfold chB; rw [← HFP.out, if_neg hneg]
                  have HNIL := Lib.hid hnil
                  have hng : 0 ≤ fp := by omega
                  clear hnil hneg
                  go_wp2
                  exact ⟨⟨k + 1, by omega, by go_num, by rw [S1.out, HNIL.out, List.append_nil]; exact hch6, hB6⟩, by simp [intOf]; omega⟩
              · obtain rfl : k = tb.length := by omega
                rw [List.take_length, ← HD5.out] at hch
                have hrd := hch.rd
                clear hch hlt
                go_wp2
                exact HR.out _ _ ⟨⟨_, rfl, hrd⟩, bwk⟩
end Go.Proofs.YtgiemhooeoakmaaDoor

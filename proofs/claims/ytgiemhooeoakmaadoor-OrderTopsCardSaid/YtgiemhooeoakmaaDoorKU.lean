/- Layer 22: order.Top. Layer 22: order.Unique. Layer 22, the reference: Unique. -/
import Derived.Test.YtgiemhooeoakmaaDoorKQ
import Derived.Test.YtgiemhooeoakmaaDoorKT
namespace Go.Proofs.YtgiemhooeoakmaaDoor
open Go.RowKit Go.ChangeShapes Go.WideShapes
set_option linter.unusedVariables false
set_option linter.unusedSimpArgs false

/-- How many rows come out. -/
def topN (n : Int) (len : Nat) : Nat := (max (min n (len : Int)) 0).toNat
theorem topN_le (n : Int) (len : Nat) : topN n len ≤ len := by
  unfold topN
  omega
theorem rdE_cap {α : Type} {R : World → Nat → Value → α → Prop} {w : World} {B n c : Nat} {A : Option Addr} {t : List α} (h : RdE R w B (.slice A n c) t) : t.length ≤ c := by
  obtain ⟨A', c', vs', q1, q2, -⟩ := h.is
  injection q1 with _ _ q3
  subst q3
  exact q2.cap
set_option maxHeartbeats 4000000 in
set_option maxRecDepth 100000 in
theorem otop_any (vk vl vr : Value) (n : Int) (ks : List KeyP) (l : List Col) (rows : VTab) (w : World) (hk : RdKey w w.heap.size vk ks) (hl : RdC w w.heap.size vl l) (hr : RdVT w w.heap.size vr rows) (hll : l.length ≤ 100000) (hca : ∀ c ∈ l, c.name.size ≤ 100000) (hrl : rows.length < 20) (hT : Tab w) :
    Calls Tryd.prog 52 #[vk, vl, vr, .int .i64 n] w fun e w' => (∃ u, e = .returned (.tuple #[u, .int .i64 (byE l ks rows)]) ∧ RdVT w' w'.heap.size u (if byE l ks rows = 0 then (sortK l ks rows).take (topN n (sortK l ks rows).length) else [])) ∧ Below w.heap.size w w' := by
  refine cps fun R HR => ?_
  have hk0 := hk; have hl0 := hl; have hr0 := hr
  obtain ⟨A1, c1, rfl, -⟩ := hk.is
  obtain ⟨A2, c2, rfl, -⟩ := hl.is
  obtain ⟨A3, c3, vs, rfl, -, -⟩ := hr.is
  clear hk hl hr
  obtain ⟨E, hE⟩ : ∃ E, E = byE l ks rows := ⟨_, rfl⟩
  obtain ⟨S, hS⟩ : ∃ S, S = (if byE l ks rows = 0 then sortK l ks rows else []) := ⟨_, rfl⟩
  have hS2 : (if byE l ks rows = 0 then (sortK l ks rows).take (topN n (sortK l ks rows).length) else []) = S.take (topN n S.length) := by
    rw [hS]
    split
    · rfl
    · simp
  rw [hS2, ← hE] at HR
  have hSl : S.length < 20 := by
    rw [hS]
    split
    · unfold sortK; rw [sortL_len]; exact hrl
    · simp
  have HE := Lib.hid hE; have HS := Lib.hid hS
  clear hE hS hS2
  go_enter Tryd.func52, Tryd.ntmps52
  go_wp2_with fail
  refine (osort_any _ _ _ ks l rows _ hk0 hl0 hr0 hll hca hrl hT).mono ?_
  rintro e w1 ⟨⟨u, rfl, hu⟩, b1⟩
  rw [← HS.out] at hu
  rw [← HE.out]
  have hu0 := hu
  obtain ⟨A4, c4, vs4, rfl, -, -⟩ := hu.is
  have hcap := rdE_cap hu0
  have hle := topN_le n S.length
  have HU := Lib.hid (RdE.take hu0 hle)
  clear hu hu0
  go_wp2
  exact HR.out _ _ ⟨⟨_, rfl, HU.out⟩, b1⟩
end Go.Proofs.YtgiemhooeoakmaaDoor

namespace Go.Proofs.YtgiemhooeoakmaaDoor
open Go.RowKit Go.ChangeShapes Go.WideShapes
set_option linter.unusedVariables false
set_option linter.unusedSimpArgs false

set_option maxHeartbeats 1000000 in
theorem idxUq_any (v c0_ c1_ : Value) (l : List VRow) (pr : VRow → Bool) (w : World) (h : RdVT w w.heap.size v l)
    (hp : ∀ x ∈ l, ∀ wk u, Below w.heap.size w wk → RdV wk wk.heap.size u x → Calls Tryd.prog 95 #[u, c0_, c1_] wk fun e w' => e = .returned (.bool (pr x)) ∧ Below wk.heap.size wk w') :
    Calls Tryd.prog 100 #[v, .func (.func 95) #[] #[c0_, c1_]] w fun e w' => e = .returned (.int .i64 (idxP pr 0 l)) ∧ Below w.heap.size w w' := by
  refine cps fun R HR => ?_
  have h0 := h
  obtain ⟨A, c, vs, rfl, -, -⟩ := h.is
  have hfew := h0.few
  have HP := Lib.hid hp
  clear h hp
  go_enter Tryd.func100, Tryd.ntmps100
  go_wp2
  go_loopw [8] (fun i wr => ∃ k : Nat, k ≤ l.length ∧ i = .int .i64 k ∧ idxP pr k (l.drop k) = idxP pr 0 l ∧ Below w.heap.size w wr) (fun i _ => l.length - (intOf i).toNat)
  case atStart => exact ⟨0, Nat.zero_le _, rfl, rfl, Below.refl _ _⟩
  case round =>
    obtain ⟨k, hk, rfl, hN, hB⟩ := hrel
    have HN := Lib.hid hN; clear hN
    by_cases hlt : k < l.length
    · obtain ⟨p, c3, u, hv, q0, q1⟩ := (RdE.next (RdF.stays valV 4) h0 hB).at hlt
      injection hv with hA _ hcc
      subst hA
      subst hcc
      have hd : l.drop k = l[k] :: l.drop (k + 1) := List.drop_eq_getElem_cons hlt
      have hm : l[k] ∈ l := List.getElem_mem hlt
      obtain ⟨x, hx⟩ : ∃ x, x = l[k] := ⟨_, rfl⟩
      rw [← hx] at q1 hd hm
      have HD := Lib.hid hd; have HM := Lib.hid hm
      clear hx hd hm
      have dk : decide ((k : Int) < l.length) = true := decide_eq_true (by omega)
      go_wp2_with fail
      refine (HP.out x HM.out _ _ hB q1).mono ?_
      rintro e w1 ⟨rfl, b1⟩
      have hB1 := hB.trans (b1.mono hB.size)
      obtain ⟨kb, hkb2⟩ : ∃ kb, kb = pr x := ⟨_, rfl⟩
      rw [← hkb2]
      have HKB := Lib.hid hkb2
      clear hkb2
      cases kb
      · have HV := Lib.hid (show idxP pr (k + 1) (l.drop (k + 1)) = idxP pr 0 l by rw [← HN.out, HD.out, idxP, ← HKB.out, if_neg (by simp)])
        go_wp2
        exact ⟨⟨k + 1, by omega, by go_num, HV.out, hB1⟩, by simp [intOf]; omega⟩
      · have HV := Lib.hid (show idxP pr 0 l = k by rw [← HN.out, HD.out, idxP, ← HKB.out, if_pos rfl])
        go_wp2
        exact HR.out _ _ ⟨by rw [HV.out]; try rfl, hB1⟩
    · have hd : l.drop k = [] := List.drop_of_length_le (by omega)
      have HV := Lib.hid (show idxP pr 0 l = -1 by rw [← HN.out, hd, idxP])
      clear hd
      go_wp2
      exact HR.out _ _ ⟨by rw [HV.out]; try rfl, hB⟩
theorem anyUq_any (v c0_ c1_ : Value) (l : List VRow) (pr : VRow → Bool) (w : World) (h : RdVT w w.heap.size v l)
    (hp : ∀ x ∈ l, ∀ wk u, Below w.heap.size w wk → RdV wk wk.heap.size u x → Calls Tryd.prog 95 #[u, c0_, c1_] wk fun e w' => e = .returned (.bool (pr x)) ∧ Below wk.heap.size wk w') :
    Calls Tryd.prog 94 #[v, .func (.func 95) #[] #[c0_, c1_]] w fun e w' => e = .returned (.bool (l.any pr)) ∧ Below w.heap.size w w' := by
  refine cps fun R HR => ?_
  rw [← idxP_any pr l 0] at HR
  obtain ⟨n, hn⟩ : ∃ n, n = idxP pr 0 l := ⟨_, rfl⟩
  rw [← hn] at HR
  have HN := Lib.hid hn; have HP := Lib.hid hp
  clear hn hp
  go_enter Tryd.func94, Tryd.ntmps94
  go_wp2_with fail
  refine (idxUq_any v c0_ c1_ l pr _ h HP.out).mono ?_
  rintro e w1 ⟨rfl, b1⟩
  rw [← HN.out]
  go_wp2
  exact HR.out _ _ ⟨rfl, b1⟩
set_option maxHeartbeats 4000000 in
set_option maxRecDepth 100000 in
theorem by_any2 (vk vl vr : Value) (ks : List KeyP) (l : List Col) (rows : VTab) (w : World) (hk : RdKey w w.heap.size vk ks) (hl : RdC w w.heap.size vl l) (hr : RdVT w w.heap.size vr rows) (hll : l.length ≤ 100000) (hca : ∀ c ∈ l, c.name.size ≤ 100000) (hT : Tab w) :
    Calls Tryd.prog 90 #[vk, vl, vr] w fun e w' => (∃ f, e = .returned (.tuple #[f, .int .i64 (byE l ks rows)]) ∧ (byE l ks rows = 0 → ByF w' f vk vl w.heap.size) ∧ (byE l ks rows ≠ 0 → f = .nilFunc)) ∧ Below w.heap.size w w' := by
  refine cps fun R HR => ?_
  have hk0 := hk; have hl0 := hl; have hr0 := hr
  obtain ⟨A1, c1, rfl, -⟩ := hk.is
  obtain ⟨A2, c2, rfl, -⟩ := hl.is
  obtain ⟨A3, c3, vs, rfl, -, -⟩ := hr.is
  clear hk hl hr
  obtain ⟨Y, hY⟩ : ∃ Y, Y = byE l ks rows := ⟨_, rfl⟩
  rw [← hY] at HR
  unfold byE at hY
  obtain ⟨kc, hkc⟩ : ∃ n, n = kchk l ks := ⟨_, rfl⟩
  obtain ⟨ft, hft⟩ : ∃ n, n = fitsB l.length rows := ⟨_, rfl⟩
  rw [← hkc, ← hft] at hY
  obtain ⟨g, hg⟩ : ∃ g, g = w.heap.size := ⟨_, rfl⟩
  obtain ⟨w0, hw0⟩ : ∃ w0, w0 = (w.alloc (.cells #[.slice A1 ks.length c1] 73)).alloc (.cells #[.slice A2 l.length c2] 22) := ⟨_, rfl⟩
  have b0 : Below w.heap.size w w0 := by rw [hw0]; exact ((Below.refl _ _).alloc (Nat.le_refl _) _).alloc (by simp) _
  have X := (Box.new w 73 #[.slice A1 ks.length c1]).alloc (.cells #[.slice A2 l.length c2] 22)
  have Z := Box.new (w.alloc (.cells #[.slice A1 ks.length c1] 73)) 22 #[.slice A2 l.length c2]
  rw [← hw0] at X Z
  simp only [hsz] at Z
  rw [← hg] at X Z
  have x0 := X.cell 0
  have z0 := Z.cell 0
  simp at x0 z0
  have HX := Lib.hid X; have HZ := Lib.hid Z; have HW0 := Lib.hid hw0; have HB0 := Lib.hid b0; have HY := Lib.hid hY; have HKC := Lib.hid hkc; have HFT := Lib.hid hft; have HG := Lib.hid hg
  clear X Z hw0 b0 hY hkc hft
  go_enter Tryd.func90, Tryd.ntmps90
  go_wp2_with fail
  rw [← HW0.out]
  refine (ocheck_any _ _ ks l _ (RdF.next hk0 HB0.out) (RdF.next hl0 HB0.out) hll hca (hT.below HB0.out)).mono ?_
  rintro e w1 ⟨rfl, b1⟩
  rw [← HKC.out]
  have bw1 := HB0.out.trans (b1.mono HB0.out.size)
  obtain ⟨ka, kb⟩ := kc
  by_cases hz : kb = 0
  · subst hz
    have hy := HY.out
    rw [if_neg (by simp)] at hy
    have HY2 := Lib.hid hy
    have X1 := HX.out.below b1 HX.out.lt
    have Z1 := HZ.out.below b1 HZ.out.lt
    have HX1 := Lib.hid X1; have HZ1 := Lib.hid Z1
    have hP : ∀ r ∈ rows, ∀ wk u, Below w1.heap.size w1 wk → RdV wk wk.heap.size u r → Calls Tryd.prog 119 #[u, .pointer (some ⟨g + 1, 0, none⟩)] wk fun e w' => e = .returned (.bool (!decide (r.length = l.length))) ∧ Below wk.heap.size wk w' :=
      fun r hr wk u hk hu => by1_any _ A2 l.length c2 u r wk ((HZ1.out.below hk HZ1.out.lt).cell 0) hu
    have HP := Lib.hid hP
    have hq : (rows.any fun r => !decide (r.length = l.length)) = !ft := by rw [HFT.out]; unfold fitsB; rw [Bool.not_not]
    have HQ := Lib.hid hq
    clear hy HY X1 Z1 x0 z0 hP hq
    go_wp2_with fail
    rw [← hg]
    refine (anyBy_any _ _ rows (fun r => !decide (r.length = l.length)) _ (RdE.next (RdF.stays valV 4) hr0 bw1) HP.out).mono ?_
    rintro e w2 ⟨rfl, b2⟩
    rw [HQ.out]
    have bw2 := bw1.trans (b2.mono bw1.size)
    cases ft
    · have hy : Y = 10 := by rw [HY2.out]; rfl
      subst hy
      go_wp2
      exact HR.out _ _ ⟨⟨_, rfl, (fun h => by cases h), fun _ => rfl⟩, bw2⟩
    · have hy : Y = 0 := by rw [HY2.out]; rfl
      subst hy
      have X2 := (HX1.out.below b2 HX1.out.lt).cell 0
      have Z2 := (HZ1.out.below b2 HZ1.out.lt).cell 0
      have HX2 := Lib.hid X2; have HZ2 := Lib.hid Z2
      clear X2 Z2
      go_wp2
      exact HR.out _ _ ⟨⟨_, rfl, fun _ => ⟨g, g + 1, by rw [HG.out]; rfl, HX2.out, HZ2.out, by rw [HG.out]; exact Nat.le_refl _, by rw [HG.out]; omega⟩, fun h => absurd rfl h⟩, bw2⟩
  · have hy := HY.out
    rw [if_pos (by simpa using hz)] at hy
    have dne : ((kb : Int) != 0) = true := by rw [bne_iff_ne]; omega
    dsimp only at hy
    subst hy
    have HZZ := Lib.hid hz
    clear hz x0 z0
    go_wp2
    exact HR.out _ _ ⟨⟨_, rfl, fun h => absurd h HZZ.out, fun _ => rfl⟩, bw1⟩
theorem uniq1_any (gf gr gk gl : Nat) (vk vl vx vy : Value) (ks : List KeyP) (l : List Col) (x y : VRow) (w : World) (hf : w.cell? ⟨gf, 0, none⟩ = some (.func (.func 120) #[] #[.pointer (some ⟨gk, 0, none⟩), .pointer (some ⟨gl, 0, none⟩)])) (hr : w.cell? ⟨gr, 0, none⟩ = some vy)
    (hgk : w.cell? ⟨gk, 0, none⟩ = some vk) (hgl : w.cell? ⟨gl, 0, none⟩ = some vl) (hk : RdKey w w.heap.size vk ks) (hl : RdC w w.heap.size vl l) (hx : RdV w w.heap.size vx x) (hy : RdV w w.heap.size vy y)
    (hm : ∀ k ∈ ks, k.col ∈ namesC l) (hxl : x.length = l.length) (hyl : y.length = l.length) :
    Calls Tryd.prog 95 #[vx, .pointer (some ⟨gf, 0, none⟩), .pointer (some ⟨gr, 0, none⟩)] w fun e w' => e = .returned (.bool (decide (cmpK l ks x y = 0))) ∧ Below w.heap.size w w' := by
  refine cps fun R HR => ?_
  have hcall := by2_any gk gl vk vl vx vy ks l x y w hgk hgl hk hl hx hy hm hxl hyl
  obtain ⟨N, hN⟩ : ∃ N, N = cmpK l ks x y := ⟨_, rfl⟩
  rw [← hN] at hcall HR
  have d : (N == 0) = decide (N = 0) := by rw [Bool.eq_iff_iff]; simp
  obtain ⟨t, ht⟩ : ∃ t, t = decide (N = 0) := ⟨_, rfl⟩
  rw [← ht] at d HR
  obtain ⟨A3, c3, rfl, -⟩ := hx.is
  obtain ⟨A4, c4, rfl, -⟩ := hy.is
  have HC := Lib.hid hcall
  clear hcall hgk hgl hk hl hx hy hm hxl hyl hN ht
  go_enter Tryd.func95, Tryd.ntmps95
  go_wp2_with fail
  refine HC.out.mono ?_
  rintro e w1 ⟨rfl, b1⟩
  go_wp2
  exact HR.out _ _ ⟨rfl, b1⟩
/-- The first ones of rows that are alike. -/
def uniqF (f : VRow → VRow → Int) (l : VTab) : VTab := l.foldl (fun acc r => if (acc.any fun x => decide (f x r = 0)) = true then acc else acc ++ [r]) []
theorem uniqF_snoc (f : VRow → VRow → Int) (l : VTab) (r : VRow) : uniqF f (l ++ [r]) = if ((uniqF f l).any fun x => decide (f x r = 0)) = true then uniqF f l else uniqF f l ++ [r] := by
  unfold uniqF
  rw [List.foldl_append]
  rfl
theorem uniqF_len (f : VRow → VRow → Int) (l : VTab) : (uniqF f l).length ≤ l.length := by
  have key : ∀ (l acc : VTab), (l.foldl (fun acc r => if (acc.any fun x => decide (f x r = 0)) = true then acc else acc ++ [r]) acc).length ≤ acc.length + l.length := fun l => by
    induction l with
    | nil => intro acc; simp
    | cons x r ih =>
      intro acc
      rw [List.foldl_cons]
      refine Nat.le_trans (ih _) ?_
      split
      · rw [List.length_cons]; omega
      · rw [List.length_append, List.length_cons, List.length_cons, List.length_nil]; omega
  have := key l []
  rw [List.length_nil, Nat.zero_add] at this
  exact this
set_option maxHeartbeats 8000000 in
set_option maxRecDepth 100000 in
theorem ounique_any (vk vl vr : Value) (ks : List KeyP) (l : List Col) (rows : VTab) (w : World) (hk : RdKey w w.heap.size vk ks) (hl : RdC w w.heap.size vl l) (hr : RdVT w w.heap.size vr rows) (hll : l.length ≤ 100000) (hca : ∀ c ∈ l, c.name.size ≤ 100000) (hrl : rows.length ≤ 1000) (hT : Tab w) :
    Calls Tryd.prog 53 #[vk, vl, vr] w fun e w' => (∃ u, e = .returned (.tuple #[u, .int .i64 (byE l ks rows)]) ∧ RdVT w' w'.heap.size u (if byE l ks rows = 0 then uniqF (cmpK l ks) rows else [])) ∧ Below w.heap.size w w' := by
  refine cps fun R HR => ?_
  obtain ⟨i0, hi0, hz0, hz1, hz2⟩ := info_parts vrow_info
  have hk0 := hk; have hl0 := hl; have hr0 := hr
  obtain ⟨A1, c1, rfl, -⟩ := hk.is
  obtain ⟨A2, c2, rfl, -⟩ := hl.is
  obtain ⟨A3, c3, vs, rfl, -, -⟩ := hr.is
  clear hk hl hr
  obtain ⟨E, hE⟩ : ∃ E, E = byE l ks rows := ⟨_, rfl⟩
  rw [← hE] at HR
  have HE := Lib.hid hE
  clear hE
  go_enter Tryd.func53, Tryd.ntmps53
  go_wp2_with fail
  refine (by_any2 _ _ _ ks l rows _ hk0 hl0 hr0 hll hca hT).mono ?_
  rintro e w1 ⟨⟨f, rfl, hf, hnf⟩, b1⟩
  rw [← HE.out] at hf hnf
  rw [← HE.out]
  by_cases hz : E = 0
  · subst hz
    obtain ⟨gk, gl, rfl, hgk, hgl, -, -⟩ := hf rfl
    have hok := byE_ok HE.out.symm
    obtain ⟨w2, hw2⟩ : ∃ w2, w2 = w1.alloc (.cells #[.func (.func 120) #[] #[.pointer (some ⟨gk, 0, none⟩), .pointer (some ⟨gl, 0, none⟩)]] 153) := ⟨_, rfl⟩
    have X := Box.new w1 153 #[.func (.func 120) #[] #[.pointer (some ⟨gk, 0, none⟩), .pointer (some ⟨gl, 0, none⟩)]]
    obtain ⟨gf, hgf⟩ : ∃ g, g = w1.heap.size := ⟨_, rfl⟩
    rw [← hw2, ← hgf] at X
    have b2 : Below w1.heap.size w1 w2 := by rw [hw2]; exact (Below.refl _ _).alloc (Nat.le_refl _) _
    have bw2 := b1.trans (b2.mono b1.size)
    have hgk2 := (b2.cell (p := ⟨gk, 0, none⟩) (World.block_lt_of_cell? w1 _ hgk)).trans hgk
    have hgl2 := (b2.cell (p := ⟨gl, 0, none⟩) (World.block_lt_of_cell? w1 _ hgl)).trans hgl
    have HKM := Lib.hid (kchk_mem hok.1); have HRL := Lib.hid hok.2; have HGK := Lib.hid hgk2; have HGL := Lib.hid hgl2; have HX := Lib.hid X; have HW2 := Lib.hid hw2
    clear hf hnf hok hgk hgl hgk2 hgl2 X hw2
    have hst := fun (w' : World) (ad : Addr) => run_store Tryd.prog w' ad (.func (.func 120) #[] #[.pointer (some ⟨gk, 0, none⟩), .pointer (some ⟨gl, 0, none⟩)]) .plain rfl
    go_wp2
    rw [← HW2.out, ← hgf]
    clear hgf hst
    go_loopw [10, 25] (fun o i wr => ∃ (k : Nat) (zs : List (Value × VRow)), k ≤ rows.length ∧ i = .int .i64 k ∧ zs.map Prod.snd = uniqF (cmpK l ks) (rows.take k) ∧ Own wr w2.heap.size 61 1 o zs.length (zs.map Prod.fst) ∧ (∀ z ∈ zs, RdV w w.heap.size z.1 z.2 ∧ z.2.length = l.length) ∧ Below w2.heap.size w2 wr) (fun _ i _ => rows.length - (intOf i).toNat)
    case atStart => exact ⟨0, [], Nat.zero_le _, rfl, rfl, Own.nil_ _ _ _ _, (fun z h => by cases h), Below.refl _ _⟩
    case round =>
      obtain ⟨k, zs, hk, rfl, hzs, hO, hZ, hB⟩ := hrel
      have bw := bw2.trans (hB.mono bw2.size)
      by_cases hlt : k < rows.length
      · obtain ⟨p, d6, vx, hv, hcw, hrw⟩ := hr0.at hlt
        have hc := (bw.cell (World.block_lt_of_cell? w _ hcw)).trans hcw
        injection hv with hA hln hcc
        clear hln
        subst hA
        subst hcc
        have hs1 := uniqF_snoc (cmpK l ks) (rows.take k) rows[k]
        rw [← List.take_succ_eq_append_getElem hlt, ← hzs] at hs1
        have hfew := uniqF_len (cmpK l ks) (rows.take k)
        rw [← hzs, List.length_map, List.length_take] at hfew
        have hxl := HRL.out _ (List.getElem_mem hlt)
        obtain ⟨x, hx⟩ : ∃ x, x = rows[k] := ⟨_, rfl⟩
        rw [← hx] at hrw hs1 hxl
        have hrw0 := hrw
        obtain ⟨xA, xc, rfl, -⟩ := hrw.is
        obtain ⟨tt, htt⟩ : ∃ t, t = ((zs.map Prod.snd).any fun y => decide (cmpK l ks y x = 0)) := ⟨_, rfl⟩
        rw [← htt] at hs1
        obtain ⟨wx, hwx⟩ : ∃ wx, wx = wr.alloc (.cells #[.slice xA x.length xc] 61) := ⟨_, rfl⟩
        have bx : Below wr.heap.size wr wx := by rw [hwx]; exact (Below.refl _ _).alloc (Nat.le_refl _) _
        have Z := Box.new wr 61 #[.slice xA x.length xc]
        rw [← hwx] at Z
        have hBx := hB.trans (bx.mono hB.size)
        have bwx := bw.trans (bx.mono bw.size)
        have hOx := hO.below bx (Nat.le_refl _)
        have hrd := sorted_rd hOx rfl (fun z hz => (hZ z hz).1) bwx
        have hP : ∀ y ∈ zs.map Prod.snd, ∀ wk u, Below wx.heap.size wx wk → RdV wk wk.heap.size u y → Calls Tryd.prog 95 #[u, .pointer (some ⟨gf, 0, none⟩), .pointer (some ⟨wr.heap.size, 0, none⟩)] wk fun e w' => e = .returned (.bool (decide (cmpK l ks y x = 0))) ∧ Below wk.heap.size wk w' := fun y hy wk u hb hu => by
          have b2k := hBx.trans (hb.mono hBx.size)
          have bwk := bw2.trans (b2k.mono bw2.size)
          obtain ⟨z, hz, rfl⟩ := List.mem_map.1 hy
          exact uniq1_any gf wr.heap.size gk gl _ _ u _ ks l z.2 x wk ((HX.out.below b2k HX.out.lt).cell 0) ((Z.below hb Z.lt).cell 0) ((b2k.cell (World.block_lt_of_cell? w2 _ HGK.out)).trans HGK.out) ((b2k.cell (World.block_lt_of_cell? w2 _ HGL.out)).trans HGL.out) (RdF.next hk0 bwk) (RdF.next hl0 bwk) hu (RdF.next hrw0 bwk) HKM.out (hZ z hz).2 hxl
        have HP := Lib.hid hP; have HRD := Lib.hid hrd; have HTT := Lib.hid htt; have S1 := Lib.hid hs1; have HWX := Lib.hid hwx; have HZZ := Lib.hid hZ; have HZ := Lib.hid Z; have HXL := Lib.hid hxl; have HZS := Lib.hid hzs
        obtain ⟨oA, oc, rfl, -⟩ := hO.form
        have HOX := Lib.hid hOx
        have dk : decide ((k : Int) < rows.length) = true := decide_eq_true (by omega)
        have hzl : zs.length ≤ 1000 := by omega
        clear hP hrd htt hs1 hwx hZ Z hxl hzs hx hcw hrw hO hOx hfew
        go_wp2_with fail
        rw [← HWX.out]
        refine (anyUq_any _ _ _ (zs.map Prod.snd) (fun y => decide (cmpK l ks y x = 0)) _ HRD.out HP.out).mono ?_
        rintro e w5 ⟨rfl, b5⟩
        rw [← HTT.out]
        have hB5 := hBx.trans (b5.mono hBx.size)
        have hO5 := HOX.out.below b5 (Nat.le_refl _)
        have z0 := (HZ.out.below b5 HZ.out.lt).cell 0
        simp at z0
        have bw5 := bw2.trans (hB5.mono bw2.size)
        cases tt
        · have hs2 : uniqF (cmpK l ks) (rows.take (k + 1)) = zs.map Prod.snd ++ [x] := by rw [S1.out, if_neg (by simp)]
          have S2 := Lib.hid hs2
          clear hs2
          go_wp2_with (at_builtin; refine wpList_push rfl _ _ _ rfl w2.heap.size 61 i0 _ 24 Tryd.underlying23 hi0 hz0 hz1 hz2 rfl (by omega) (.slice oA zs.length oc) zs.length _ (.slice xA x.length xc) rfl hO5 rfl rfl (by omega) hB5.size ?_; intro v7 w7 hown7 hg7 hat7)
          have hB7 := below_grown hB5 hg7 (fun g hg => (hO5.lt g hg).1) hB5.size
          exact ⟨⟨k + 1, zs ++ [(.slice xA x.length xc, x)], by omega, by go_num, by rw [S2.out]; simp, by simpa using hown7, fun z hz => by
            rcases List.mem_append.1 hz with hz | hz
            · exact HZZ.out z hz
            · rw [List.mem_singleton.1 hz]; exact ⟨hrw0, HXL.out⟩, hB7⟩, by simp [intOf]; omega⟩
        · have hs2 : uniqF (cmpK l ks) (rows.take (k + 1)) = zs.map Prod.snd := by rw [S1.out, if_pos rfl]
          have S2 := Lib.hid hs2
          clear hs2
          go_wp2
          exact ⟨⟨k + 1, zs, by omega, by go_num, by rw [S2.out], hO5, HZZ.out, hB5⟩, by simp [intOf]; omega⟩
      · obtain rfl : k = rows.length := by omega
        rw [List.take_length] at hzs
        have hrd := sorted_rd hO rfl (fun z hz => (hZ z hz).1) bw
        rw [hzs] at hrd
        have HRD := Lib.hid hrd
        obtain ⟨oA, oc, rfl, -⟩ := hO.form
        clear hO hZ hzs hrd hlt
        go_wp2
        exact HR.out _ _ ⟨⟨_, rfl, by rw [if_pos trivial]; exact HRD.out⟩, bw⟩
  · have dne : ((E : Int) != 0) = true := by rw [bne_iff_ne]; omega
    have HZ := Lib.hid hz
    have hff := hnf hz
    subst hff
    have hst := fun (w' : World) (ad : Addr) => run_store Tryd.prog w' ad .nilFunc .plain rfl
    have ba := b1.alloc b1.size (.cells #[.nilFunc] 153)
    clear hf hnf hz
    go_wp2
    exact HR.out _ _ ⟨⟨_, rfl, by rw [if_neg HZ.out]; exact RdE.nil _ _⟩, ba⟩
end Go.Proofs.YtgiemhooeoakmaaDoor

namespace Go.Proofs.YtgiemhooeoakmaaDoor
open Go.RowKit Go.ChangeShapes Go.WideShapes
set_option linter.unusedVariables false
set_option linter.unusedSimpArgs false

theorem ord_self {α : Type} {f : α → α → Int} (h : Ord3 f) (x : α) : f x x = 0 := by
  have := h.turn x x
  omega
theorem ord_eq {α : Type} {f : α → α → Int} (h : Ord3 f) {x y z : α} (h1 : f x y = 0) (h2 : f y z = 0) : f x z = 0 := by
  have a := h.turn x y
  have b := h.turn y z
  have c := h.turn x z
  have d := h.le x y z (by omega) (by omega)
  have e := h.le z y x (by omega) (by omega)
  omega
theorem uniqF_rep {f : VRow → VRow → Int} (h : Ord3 f) (l : VTab) : ∀ k, k ≤ l.length → (∀ x ∈ l.take k, ∃ y ∈ uniqF f (l.take k), f y x = 0) ∧ ∀ y ∈ uniqF f (l.take k), y ∈ l.take k := by
  intro k
  induction k with
  | zero => exact fun _ => ⟨fun x hx => by simp at hx, fun y hy => by simp [uniqF] at hy⟩
  | succ k ih =>
    intro hk
    obtain ⟨i1, i2⟩ := ih (by omega)
    rw [List.take_succ_eq_append_getElem (by omega), uniqF_snoc]
    split
    · rename_i hany
      obtain ⟨y, hy, hf⟩ := List.any_eq_true.1 hany
      refine ⟨fun x hx => ?_, fun y hy => List.mem_append_left _ (i2 y hy)⟩
      rcases List.mem_append.1 hx with hx | hx
      · exact i1 x hx
      · rw [List.mem_singleton.1 hx]
        exact ⟨y, hy, of_decide_eq_true hf⟩
    · refine ⟨fun x hx => ?_, fun y hy => ?_⟩
      · rcases List.mem_append.1 hx with hx | hx
        · obtain ⟨y, hy, hf⟩ := i1 x hx
          exact ⟨y, List.mem_append_left _ hy, hf⟩
        · rw [List.mem_singleton.1 hx]
          exact ⟨l[k], List.mem_append_right _ (List.mem_singleton.2 rfl), ord_self h _⟩
      · rcases List.mem_append.1 hy with hy | hy
        · exact List.mem_append_left _ (i2 y hy)
        · exact List.mem_append_right _ hy
theorem uniqF_any {f : VRow → VRow → Int} (h : Ord3 f) (l : VTab) {k : Nat} (hk : k ≤ l.length) (r : VRow) : ((uniqF f (l.take k)).any fun x => decide (f x r = 0)) = (l.take k).any fun x => decide (f x r = 0) := by
  obtain ⟨i1, i2⟩ := uniqF_rep h l k hk
  rw [Bool.eq_iff_iff, List.any_eq_true, List.any_eq_true]
  constructor
  · rintro ⟨y, hy, hf⟩
    exact ⟨y, i2 y hy, hf⟩
  · rintro ⟨x, hx, hf⟩
    obtain ⟨y, hy, hg⟩ := i1 x hx
    exact ⟨y, hy, decide_eq_true (ord_eq h hg (of_decide_eq_true hf))⟩
theorem rsorted_rd {w w' : World} {base n : Nat} {u : Value} {zs : List (Value × VRow)} (hO : Own w' base 63 1 u n (zs.map Prod.fst)) (hn : n = zs.length) (hz : ∀ z ∈ zs, RdRV w w.heap.size z.1 z.2) (hb : Below w.heap.size w w') : RdRVT w' w'.heap.size u (zs.map Prod.snd) := by
  obtain ⟨A, c, rfl, hs⟩ := hO.form
  have hl : n = (zs.map Prod.snd).length := by rw [List.length_map]; exact hn
  subst hl
  exact ⟨A, c, _, rfl, hs, each_unzip fun z h => RdF.next (hz z h) hb⟩
set_option maxHeartbeats 8000000 in
set_option maxRecDepth 100000 in
theorem runique_any (vk vl vr : Value) (ks : List KeyP) (l : List Col) (rows : VTab) (w : World) (hk : RdRKey w w.heap.size vk ks) (hl : RdRC w w.heap.size vl l) (hr : RdRVT w w.heap.size vr rows) (hll : l.length ≤ 100000) (hrl : rows.length ≤ 1000) (hm : ∀ k ∈ ks, k.col ∈ namesC l) (hrow : ∀ r ∈ rows, r.length = l.length) :
    Calls Tryd.prog 54 #[vk, vl, vr] w fun e w' => (∃ o, e = .returned o ∧ RdRVT w' w'.heap.size o (uniqF (cmpK l ks) rows)) ∧ Below w.heap.size w w' := by
  refine cps fun R HR => ?_
  obtain ⟨i0, hi0, hz0, hz1, hz2⟩ := info_parts rvrow_info
  have hk0 := hk; have hl0 := hl; have hr0 := hr
  obtain ⟨A1, c1, rfl, -⟩ := hk.is
  obtain ⟨A2, c2, rfl, -⟩ := hl.is
  obtain ⟨A3, c3, vs, rfl, -, -⟩ := hr.is
  clear hk hl hr
  have hcap := rdE_cap hr0
  have HM := Lib.hid hm; have HROW := Lib.hid hrow
  clear hm hrow
  go_enter Tryd.func54, Tryd.ntmps54
  go_wp2
  go_loopw [7, 15] (fun o i wr => ∃ (k : Nat) (zs : List (Value × VRow)), k ≤ rows.length ∧ i = .int .i64 k ∧ zs.map Prod.snd = uniqF (cmpK l ks) (rows.take k) ∧ Own wr w.heap.size 63 1 o zs.length (zs.map Prod.fst) ∧ (∀ z ∈ zs, RdRV w w.heap.size z.1 z.2) ∧ Below w.heap.size w wr) (fun _ i _ => rows.length - (intOf i).toNat)
  case atStart => exact ⟨0, [], Nat.zero_le _, rfl, rfl, Own.nil_ _ _ _ _, (fun z h => by cases h), Below.refl _ _⟩
  case round =>
    obtain ⟨k, zs, hk, rfl, hzs, hO, hZ, hB⟩ := hrel
    by_cases hlt : k < rows.length
    · obtain ⟨p, d6, vx, hv, hcw, hrw⟩ := hr0.at hlt
      have hc := (hB.cell (World.block_lt_of_cell? w _ hcw)).trans hcw
      injection hv with hA hln hcc
      clear hln
      subst hA
      subst hcc
      have hs1 := uniqF_snoc (cmpK l ks) (rows.take k) rows[k]
      rw [uniqF_any (ord_K l ks) rows (by omega), ← List.take_succ_eq_append_getElem hlt, ← hzs] at hs1
      have hfew := uniqF_len (cmpK l ks) (rows.take k)
      rw [← hzs, List.length_map, List.length_take] at hfew
      have hxl := HROW.out _ (List.getElem_mem hlt)
      obtain ⟨x, hx⟩ : ∃ x, x = rows[k] := ⟨_, rfl⟩
      rw [← hx] at hrw hs1 hxl
      have hrw0 := hrw
      obtain ⟨xA, xc, rfl, -⟩ := hrw.is
      have S1 := Lib.hid hs1; have HXL := Lib.hid hxl; have HZZ := Lib.hid hZ
      have dk : decide ((k : Int) < rows.length) = true := decide_eq_true (by omega)
      have hzl : zs.length ≤ 1000 := by omega
      have ik : (k : Int) ≤ c3 := by omega
      have ik2 : k ≤ c3 := by omega
      obtain ⟨w1, rfl⟩ : ∃ w1 : World, w1 = wr := ⟨_, rfl⟩
      have HO := Lib.hid hO; have HB1 := Lib.hid hB
      clear hs1 hxl hZ hzs hx hcw hrw hfew hO hB
      go_wp2
      go_loopw [10, 24] (fun b i wr => ∃ m : Nat, m ≤ k ∧ i = .int .i64 m ∧ b = .bool (!((rows.take m).any fun y => decide (cmpK l ks y x = 0))) ∧ Below w1.heap.size w1 wr) (fun _ i _ => k - (intOf i).toNat)
      case atStart => exact ⟨0, Nat.zero_le _, rfl, rfl, Below.refl _ _⟩
      case round =>
        obtain ⟨m, hmk, rfl, rfl, hBm⟩ := hrel
        have bw := HB1.out.trans (hBm.mono HB1.out.size)
        obtain ⟨tt, htt⟩ : ∃ t, t = ((rows.take m).any fun y => decide (cmpK l ks y x = 0)) := ⟨_, rfl⟩
        rw [← htt]
        have HTT := Lib.hid htt
        clear htt
        by_cases hltm : m < k
        · obtain ⟨p', d7, vy, hv, hcw, hrw⟩ := hr0.at (show m < rows.length by omega)
          have hcy := (bw.cell (World.block_lt_of_cell? w _ hcw)).trans hcw
          injection hv with hA hln hcc
          clear hln
          injection hA with hA
          subst hA
          subst hcc
          have hs3 := any_take (fun y => decide (cmpK l ks y x = 0)) rows (show m < rows.length by omega)
          have hyl := HROW.out _ (List.getElem_mem (show m < rows.length by omega))
          obtain ⟨y, hy⟩ : ∃ y, y = rows[m]'(by omega) := ⟨_, rfl⟩
          rw [← hy] at hrw hs3 hyl
          rw [← HTT.out] at hs3
          have hry := hrw
          obtain ⟨yA, yc, rfl, -⟩ := hrw.is
          have S3 := Lib.hid hs3; have HYL := Lib.hid hyl
          have dm : decide ((m : Int) < k) = true := decide_eq_true (by omega)
          have im : (m : Int) < k := by omega
          clear hs3 hyl hy hcw hrw hc
          cases tt
          · obtain ⟨M, hM⟩ : ∃ M, M = cmpK l ks y x := ⟨_, rfl⟩
            have HMM := Lib.hid hM
            clear hM
            go_wp2_with fail
            refine (rcompare_any _ _ _ _ ks l y x _ (RdF.next hk0 bw) (RdF.next hl0 bw) (RdF.next hry bw) (RdF.next hrw0 bw) hll HM.out HYL.out HXL.out).mono ?_
            rintro e w5 ⟨rfl, b5⟩
            rw [← HMM.out]
            have hB5 := hBm.trans (b5.mono hBm.size)
            have d : (M != 0) = !decide (M = 0) := by rw [Bool.eq_iff_iff]; simp
            have hn : (!((rows.take (m + 1)).any fun y => decide (cmpK l ks y x = 0))) = !decide (M = 0) := by rw [S3.out, ← HMM.out]; rfl
            have HN := Lib.hid hn
            obtain ⟨t2, ht2⟩ : ∃ t, t = decide (M = 0) := ⟨_, rfl⟩
            rw [← ht2] at d
            have HT2 := Lib.hid ht2
            clear hn ht2
            go_wp2
            exact ⟨⟨m + 1, by omega, by go_num, by rw [HN.out, HT2.out], hB5⟩, by simp [intOf]; omega⟩
          · have hn : (!((rows.take (m + 1)).any fun y => decide (cmpK l ks y x = 0))) = false := by rw [S3.out]; rfl
            have HN := Lib.hid hn
            clear hn
            simp only [Bool.not_true]
            go_wp2
            exact ⟨⟨m + 1, by omega, by go_num, by rw [HN.out], hBm⟩, by simp [intOf]; omega⟩
        · obtain rfl : m = k := by omega
          have hOq := HO.out.below hBm (Nat.le_refl _)
          cases tt
          · have hs2 : uniqF (cmpK l ks) (rows.take (m + 1)) = zs.map Prod.snd ++ [x] := by rw [S1.out, ← HTT.out, if_neg (by simp)]
            have S2 := Lib.hid hs2
            obtain ⟨oA, oc, rfl, -⟩ := hOq.form
            clear hs2 hltm
            simp only [Bool.not_false]
            go_wp2_with (at_builtin; refine wpList_push rfl _ _ _ rfl w.heap.size 63 i0 _ 24 Tryd.underlying37 hi0 hz0 hz1 hz2 rfl (by omega) (.slice oA zs.length oc) zs.length _ (.slice xA x.length xc) rfl hOq rfl rfl (by omega) bw.size ?_; intro v7 w7 hown7 hg7 hat7)
            have hB7 := below_grown bw hg7 (fun g hg => (hOq.lt g hg).1) bw.size
            exact ⟨⟨m + 1, zs ++ [(.slice xA x.length xc, x)], by omega, by go_num, by rw [S2.out]; simp, by simpa using hown7, fun z hz => by
              rcases List.mem_append.1 hz with hz | hz
              · exact HZZ.out z hz
              · rw [List.mem_singleton.1 hz]; exact hrw0, hB7⟩, by simp [intOf]; omega⟩
          · have hs2 : uniqF (cmpK l ks) (rows.take (m + 1)) = zs.map Prod.snd := by rw [S1.out, ← HTT.out, if_pos rfl]
            have S2 := Lib.hid hs2
            clear hs2 hltm
            simp only [Bool.not_true]
            go_wp2
            exact ⟨⟨m + 1, zs, by omega, by go_num, by rw [S2.out], hOq, HZZ.out, bw⟩, by simp [intOf]; omega⟩
    · obtain rfl : k = rows.length := by omega
      rw [List.take_length] at hzs
      have hrd := rsorted_rd hO rfl hZ hB
      rw [hzs] at hrd
      have HRD := Lib.hid hrd
      obtain ⟨oA, oc, rfl, -⟩ := hO.form
      clear hO hZ hzs hrd hlt
      go_wp2
      exact HR.out _ _ ⟨⟨_, rfl, HRD.out⟩, hB⟩
end Go.Proofs.YtgiemhooeoakmaaDoor


/- Layer 25: same, find and its closures. Layer 25: find; places. Layer 25: places. Layer 25: diff.Check. Layer 25, the reference: alike. Layer 25, the reference: Check. -/
import Derived.Lib.QuietBelow
import Derived.Test.YtgiemhooeoakmaaDoorKD
import Derived.Test.YtgiemhooeoakmaaDoorKC
import Derived.Test.YtgiemhooeoakmaaDoorKA
import Derived.Test.YtgiemhooeoakmaaDoorKE
namespace Go.Proofs.YtgiemhooeoakmaaDoor
open Go.RowKit Go.ChangeShapes Go.WideShapes
set_option linter.unusedVariables false
set_option linter.unusedSimpArgs false

def val0 : Val := ⟨0, ⟨#[]⟩, 0, false⟩
theorem dsame_at (ak bk an bn : Int) (a1 b1 : ByteArray) (ab bb : Bool) (w : World) :
    Calls Tryd.prog 70 #[.agg #[.int .i64 ak, .string a1, .int .i64 an, .bool ab], .agg #[.int .i64 bk, .string b1, .int .i64 bn, .bool bb]] w fun e w' => e = .returned (.bool (decide ((⟨ak, a1, an, ab⟩ : Val) = ⟨bk, b1, bn, bb⟩))) ∧ Below w.heap.size w w' := by
  refine cps fun R HR => ?_
  have hz := cmpV_zero (a := ⟨ak, a1, an, ab⟩) (b := ⟨bk, b1, bn, bb⟩)
  obtain ⟨n, hn⟩ : ∃ n, n = cmpV ⟨ak, a1, an, ab⟩ ⟨bk, b1, bn, bb⟩ := ⟨_, rfl⟩
  rw [← hn] at hz
  have HN := Lib.hid hn
  have d : (n == 0) = decide ((⟨ak, a1, an, ab⟩ : Val) = ⟨bk, b1, bn, bb⟩) := by rw [Bool.eq_iff_iff, beq_iff_eq, decide_eq_true_iff]; exact hz
  obtain ⟨t, ht⟩ : ∃ t, t = decide ((⟨ak, a1, an, ab⟩ : Val) = ⟨bk, b1, bn, bb⟩) := ⟨_, rfl⟩
  rw [← ht] at HR d
  have bw : Below w.heap.size w ((w.alloc (.cells #[.int .i64 ak, .string a1, .int .i64 an, .bool ab] 96)).alloc (.cells #[.int .i64 bk, .string b1, .int .i64 bn, .bool bb] 96)) := ((Below.refl _ _).alloc (Nat.le_refl _) _).alloc (by simp) _
  clear hn hz ht
  go_enter Tryd.func70, Tryd.ntmps70
  go_wp2_with fail
  refine (compare_any ⟨ak, a1, an, ab⟩ ⟨bk, b1, bn, bb⟩ _).mono ?_
  rintro e w1 ⟨rfl, b1⟩
  rw [← HN.out]
  have bw1 := bw.trans (b1.mono bw.size)
  go_wp2
  exact HR.out _ _ ⟨rfl, bw1⟩
/-- Are the values at a place unlike? -/
def unP (x r : VRow) (p : Int) : Bool := !decide (x.getD p.toNat val0 = r.getD p.toNat val0)
def alikeP (ps : List Int) (r x : VRow) : Bool := !ps.any (unP x r)
theorem getD_at {l : VRow} {q : Nat} (h : q < l.length) : l.getD q val0 = l[q] := by rw [List.getD_eq_getElem?_getD, List.getElem?_eq_getElem h]; rfl
set_option maxHeartbeats 1000000 in
theorem findUn_any (gx gr : Nat) (vx vr : Value) (x r : VRow) (p : Int) (w : World) (hx : w.cell? ⟨gx, 0, none⟩ = some vx) (hr : w.cell? ⟨gr, 0, none⟩ = some vr) (rx : RdV w w.heap.size vx x) (rr : RdV w w.heap.size vr r) (h0 : 0 ≤ p) (h1 : p < x.length) (h2 : p < r.length) :
    Calls Tryd.prog 102 #[.int .i64 p, .pointer (some ⟨gx, 0, none⟩), .pointer (some ⟨gr, 0, none⟩)] w fun e w' => e = .returned (.bool (unP x r p)) ∧ Below w.heap.size w w' := by
  refine cps fun R HR => ?_
  obtain ⟨q, rfl⟩ := Int.eq_ofNat_of_zero_le h0
  have hqx : q < x.length := by omega
  have hqr : q < r.length := by omega
  have hu : unP x r (q : Int) = !decide (x[q] = r[q]) := by unfold unP; rw [Int.toNat_natCast, getD_at hqx, getD_at hqr]
  rw [hu] at HR
  obtain ⟨a, c, rfl, p0, p1, p2, p3⟩ := RdV.at rx hqx
  obtain ⟨a', c', rfl, q0, q1, q2, q3⟩ := RdV.at rr hqr
  obtain ⟨⟨xk, xs, xn, xb⟩, hxq⟩ : ∃ y, y = x[q] := ⟨_, rfl⟩
  obtain ⟨⟨rk, rs, rn, rb⟩, hrq⟩ : ∃ y, y = r[q] := ⟨_, rfl⟩
  rw [← hxq] at p0 p1 p2 p3
  rw [← hrq] at q0 q1 q2 q3
  rw [← hxq, ← hrq] at HR
  obtain ⟨t, ht⟩ : ∃ t, t = decide ((⟨xk, xs, xn, xb⟩ : Val) = ⟨rk, rs, rn, rb⟩) := ⟨_, rfl⟩
  rw [← ht] at HR
  have gS : ∀ dn os, Calls Tryd.prog 70 #[.agg #[.int .i64 xk, .string xs, .int .i64 xn, .bool xb], .agg #[.int .i64 rk, .string rs, .int .i64 rn, .bool rb]] (Go.Sort.grow (redrawn w dn) os) fun e w'' => e = .returned (.bool t) ∧ ∃ p : Regrown, w'' = Go.Sort.grow (redrawn w p.d) p.os := fun dn os => Calls.regrown_of (by
    rw [ht]
    exact dsame_at xk rk xn rn xs rs xb rb _)
  have k0 := cell_regrown hx
  have k1 := cell_regrown hr
  have e0 := cell_regrown p0
  have e1 := cell_regrown p1
  have e2 := cell_regrown p2
  have e3 := cell_regrown p3
  have f0 := cell_regrown q0
  have f1 := cell_regrown q1
  have f2 := cell_regrown q2
  have f3 := cell_regrown q3
  have i1 : (q : Int) < x.length := h1
  have i2 : (q : Int) < r.length := h2
  have hfx := RdF.few rx
  have hfr := RdF.few rr
  clear hxq hrq ht hu hx hr p0 p1 p2 p3 q0 q1 q2 q3 rx rr h1 h2 h0
  go_enter Tryd.func102, Tryd.ntmps102
  go_wp2
  refine wp_region_quiet_below (by kernel_rfl) (by kernel_rfl) ?_
  repeat (go_big_quiet_step ((go_at_call 70; with_reducible exact gS _ _)))
  refine wpQuiet_nil ?_
  intro w9 hw9
  have bel : Below w.heap.size w w9 := by obtain ⟨p, rfl⟩ := hw9; exact below_regrown _ p.d p.os
  clear hw9 gS k0 k1 e0 e1 e2 e3 f0 f1 f2 f3
  go_wp2
  exact HR.out _ _ ⟨rfl, bel⟩
end Go.Proofs.YtgiemhooeoakmaaDoor

namespace Go.Proofs.YtgiemhooeoakmaaDoor
open Go.RowKit Go.ChangeShapes Go.WideShapes
set_option linter.unusedVariables false
set_option linter.unusedSimpArgs false

theorem find1row_any (gp gr : Nat) (va vx vr : Value) (ps : List Int) (x r : VRow) (w : World) (hp : w.cell? ⟨gp, 0, none⟩ = some va) (hr : w.cell? ⟨gr, 0, none⟩ = some vr) (ra : RdI w w.heap.size va ps) (rx : RdV w w.heap.size vx x) (rr : RdV w w.heap.size vr r)
    (hb : ∀ p ∈ ps, 0 ≤ p ∧ p < x.length ∧ p < r.length) :
    Calls Tryd.prog 101 #[vx, .pointer (some ⟨gp, 0, none⟩), .pointer (some ⟨gr, 0, none⟩)] w fun e w' => e = .returned (.bool (alikeP ps r x)) ∧ Below w.heap.size w w' := by
  refine cps fun R HR => ?_
  obtain ⟨t, ht⟩ : ∃ t, t = ps.any (unP x r) := ⟨_, rfl⟩
  have ha : alikeP ps r x = !t := by rw [ht]; rfl
  rw [ha] at HR
  have b0 : Below w.heap.size w (w.alloc (.cells #[vx] 61)) := (Below.refl _ _).alloc (Nat.le_refl _) _
  have X := Box.new w 61 #[vx]
  have hP := fun p (hm : p ∈ ps) wk (hbk : Below (w.alloc (.cells #[vx] 61)).heap.size (w.alloc (.cells #[vx] 61)) wk) => findUn_any w.heap.size gr vx vr x r p wk ((X.below hbk X.lt).cell 0) ((((b0.trans (hbk.mono b0.size)).cell (p := ⟨gr, 0, none⟩) (World.block_lt_of_cell? w _ hr))).trans hr) (RdF.next (RdF.next rx b0) hbk) (RdF.next (RdF.next rr b0) hbk) (hb p hm).1 (hb p hm).2.1 (hb p hm).2.2
  have HP := Lib.hid hP; have HT := Lib.hid ht
  have ra1 := ra.next b0
  obtain ⟨xA, xc, rfl, -⟩ := rx.is
  obtain ⟨aA, ac, rfl, -⟩ := ra.is
  have hlt1 := World.block_lt_of_cell? w _ hp
  have hlt2 := World.block_lt_of_cell? w _ hr
  clear ha X hP ht hb
  go_enter Tryd.func101, Tryd.ntmps101
  go_wp2_with fail
  refine (anyUn_any _ _ _ ps (unP x r) _ ra1 HP.out).mono ?_
  rintro e w1 ⟨rfl, b1⟩
  rw [← HT.out]
  go_wp2
  exact HR.out _ _ ⟨rfl, b0.trans (b1.mono b0.size)⟩
/-- The place of the first row that is alike; -1: there is none. -/
def findP (ps : List Int) (r : VRow) (t : VTab) : Int := idxP (alikeP ps r) 0 t
set_option maxHeartbeats 1000000 in
theorem dfind_any (vt vr va : Value) (t : VTab) (r : VRow) (ps : List Int) (w : World) (ht : RdVT w w.heap.size vt t) (hr : RdV w w.heap.size vr r) (ha : RdI w w.heap.size va ps) (hb : ∀ x ∈ t, ∀ p ∈ ps, 0 ≤ p ∧ p < x.length ∧ p < r.length) :
    Calls Tryd.prog 62 #[vt, vr, va] w fun e w' => e = .returned (.int .i64 (findP ps r t)) ∧ Below w.heap.size w w' := by
  refine cps fun R HR => ?_
  unfold findP at HR
  obtain ⟨w0, hw0⟩ : ∃ w0, w0 = (w.alloc (.cells #[vr] 61)).alloc (.cells #[va] 102) := ⟨_, rfl⟩
  have b0 : Below w.heap.size w w0 := by rw [hw0]; exact ((Below.refl _ _).alloc (Nat.le_refl _) _).alloc (by simp) _
  have X := (Box.new w 61 #[vr]).alloc (.cells #[va] 102)
  have Z := Box.new (w.alloc (.cells #[vr] 61)) 102 #[va]
  rw [← hw0] at X Z
  rw [show (w.alloc (.cells #[vr] 61)).heap.size = w.heap.size + 1 by simp] at Z
  have hP : ∀ x ∈ t, ∀ wk u, Below w0.heap.size w0 wk → RdV wk wk.heap.size u x → Calls Tryd.prog 101 #[u, .pointer (some ⟨w.heap.size + 1, 0, none⟩), .pointer (some ⟨w.heap.size, 0, none⟩)] wk fun e w' => e = .returned (.bool (alikeP ps r x)) ∧ Below wk.heap.size wk w' :=
    fun x hx wk u hbk hux => find1row_any (w.heap.size + 1) w.heap.size va u vr ps x r wk ((Z.below hbk Z.lt).cell 0) ((X.below hbk X.lt).cell 0) ((ha.next b0).next hbk) hux (RdF.next (RdF.next hr b0) hbk) (hb x hx)
  have HP := Lib.hid hP; have HW0 := Lib.hid hw0
  have ht0 := RdE.next (RdF.stays valV 4) ht b0
  obtain ⟨rA, rc, rfl, -⟩ := hr.is
  obtain ⟨aA, ac, rfl, -⟩ := ha.is
  clear X Z hP hb hw0 ht
  go_enter Tryd.func62, Tryd.ntmps62
  go_wp2_with fail
  rw [← HW0.out]
  refine (idxRow_any _ _ _ t (alikeP ps r) _ ht0 HP.out).mono ?_
  rintro e w1 ⟨rfl, b1⟩
  go_wp2
  exact HR.out _ _ ⟨rfl, b0.trans (b1.mono b0.size)⟩
def nullP (r : VRow) (p : Int) : Bool := decide ((r.getD p.toNat val0).kind = 0)
theorem null1_any (gr : Nat) (vr : Value) (r : VRow) (p : Int) (w : World) (hr : w.cell? ⟨gr, 0, none⟩ = some vr) (rr : RdV w w.heap.size vr r) (h0 : 0 ≤ p) (h2 : p < r.length) :
    Calls Tryd.prog 61 #[.int .i64 p, .pointer (some ⟨gr, 0, none⟩)] w fun e w' => e = .returned (.bool (nullP r p)) ∧ Below w.heap.size w w' := by
  refine cps fun R HR => ?_
  obtain ⟨q, rfl⟩ := Int.eq_ofNat_of_zero_le h0
  have hqr : q < r.length := by omega
  have hu : nullP r (q : Int) = (r[q].kind == 0) := by unfold nullP; rw [Int.toNat_natCast, getD_at hqr]; rw [Bool.eq_iff_iff]; simp
  rw [hu] at HR
  obtain ⟨a', c', rfl, q0, q1, q2, q3⟩ := RdV.at rr hqr
  obtain ⟨⟨rk, rs, rn, rb⟩, hrq⟩ : ∃ y, y = r[q] := ⟨_, rfl⟩
  rw [← hrq] at q0 q1 q2 q3 HR
  obtain ⟨t, ht⟩ : ∃ t, t = (rk == 0) := ⟨_, rfl⟩
  have ht2 := ht.symm
  have HR2 : Hid (∀ e w', (e = .returned (.bool t) ∧ Below w.heap.size w w') → R e w') := by rw [ht]; exact HR
  have hfr := RdF.few rr
  clear hrq hu h0 rr HR ht
  go_enter Tryd.func61, Tryd.ntmps61
  go_wp2
  exact HR2.out _ _ ⟨rfl, Below.refl _ _⟩
end Go.Proofs.YtgiemhooeoakmaaDoor

namespace Go.Proofs.YtgiemhooeoakmaaDoor
open Go.RowKit Go.ChangeShapes Go.WideShapes
set_option linter.unusedVariables false
set_option linter.unusedSimpArgs false

theorem chkF_nodup : ∀ (l : List Col) (j : Nat) (seen : Row), (chkF j seen l).2 = 0 → (namesC l).Nodup ∧ ∀ s ∈ namesC l, s ∉ seen
  | [], j, seen, h => ⟨List.nodup_nil, fun s hs => by cases hs⟩
  | c :: r, j, seen, h => by
    have hn : namesC (c :: r) = c.name :: namesC r := rfl
    rw [chkF] at h
    split at h
    · cases h
    · split at h
      · cases h
      · split at h
        · cases h
        · rename_i hno
          obtain ⟨h1, h2⟩ := chkF_nodup r _ _ h
          rw [hn]
          refine ⟨List.nodup_cons.2 ⟨fun hm => h2 _ hm (by simp), h1⟩, fun s hs => ?_⟩
          rcases List.mem_cons.1 hs with rfl | hs
          · exact hno
          · exact fun hq => h2 s hs (by simp [hq])
theorem chkC_nodup {l : List Col} (h : (chkC l).2 = 0) : (namesC l).Nodup := by
  unfold chkC at h
  split at h
  · cases h
  · exact (chkF_nodup l 0 [] h).1
theorem atC_mem {names ks : Row} {k : ByteArray} (hk : k ∈ names) (ha : allIn names ks = true) : ((atC names k : Int) ∈ numsF names ks) ↔ k ∈ ks := by
  unfold numsF
  constructor
  · intro h
    obtain ⟨s, hs, he⟩ := List.mem_map.1 h
    have h1 := atC_get (allIn_mem ha hs)
    have h2 := atC_get hk
    have he2 : atC names s = atC names k := by omega
    rw [he2, h2] at h1
    injection h1 with h1
    rw [h1]
    exact hs
  · intro h
    exact List.mem_map.2 ⟨k, h, rfl⟩
/-- The first key that may not be, so many being behind; the error's number. -/
def plF (names : Row) : Nat → Row → Row → Nat × Nat
  | j, _, [] => (j, 0)
  | j, seen, k :: r => if k ∈ names then if k ∈ seen then (j, 15) else plF names (j + 1) (seen ++ [k]) r else (j, 16)
def plC (l : List Col) (keys : Row) : Nat × Nat := if (chkC l).2 ≠ 0 then (0, (chkC l).2) else if keys = [] then (0, 13) else plF (namesC l) 0 [] keys
def plO (l : List Col) (keys : Row) : List Int := if (plC l keys).2 = 0 then numsF (namesC l) keys else []
theorem plF_len (names : Row) : ∀ (r : Row) (j : Nat) (seen : Row), (plF names j seen r).2 = 0 → (plF names j seen r).1 = j + r.length ∧ ∀ k ∈ r, k ∈ names
  | [], j, seen, h => ⟨rfl, fun k hk => by cases hk⟩
  | k :: r, j, seen, h => by
    rw [plF] at h ⊢
    split
    · rename_i h1
      rw [if_pos h1] at h
      split
      · rename_i h2; rw [if_pos h2] at h; cases h
      · rename_i h2
        rw [if_neg h2] at h
        obtain ⟨h3, h4⟩ := plF_len names r _ _ h
        refine ⟨by rw [h3]; simp; omega, fun q hq => ?_⟩
        rcases List.mem_cons.1 hq with rfl | hq
        · exact h1
        · exact h4 q hq
    · rename_i h1; rw [if_neg h1] at h; cases h
set_option maxHeartbeats 2000000 in
theorem places_any (v u : Value) (l : List Col) (keys : Row) (w : World) (h : RdC w w.heap.size v l) (hu : RdS w w.heap.size u keys) (hl : l.length ≤ 100000) (hk : keys.length ≤ 100000) (hc : ∀ c ∈ l, c.name.size ≤ 100000) (hT : Tab w) :
    Calls Tryd.prog 59 #[v, u] w fun e w' => ∃ o, e = .returned (.tuple #[o, .int .i64 (plC l keys).1, .int .i64 (plC l keys).2]) ∧ Own w' w.heap.size 3 1 o (plO l keys).length (intV (plO l keys)) ∧ Below w.heap.size w w' := by
  refine cps fun R HR => ?_
  obtain ⟨i0, hi0, hz0, hz1, hz2⟩ := info_parts int_info
  have h0 := h
  have hu0 := hu
  obtain ⟨A, c, rfl, -⟩ := h.is
  obtain ⟨A2, c2, rfl, -⟩ := hu.is
  have hfk := hu0.few
  clear h hu
  obtain ⟨O, hO⟩ : ∃ O, O = plO l keys := ⟨_, rfl⟩
  obtain ⟨Y, hY⟩ : ∃ Y, Y = plC l keys := ⟨_, rfl⟩
  rw [← hO, ← hY] at HR
  unfold plO at hO
  rw [← hY] at hO
  unfold plC at hY
  have HY := Lib.hid hY; have HOO := Lib.hid hO; have HC := Lib.hid hc; have HT := Lib.hid hT
  clear hY hO hc hT
  obtain ⟨cn, hcn⟩ : ∃ cn, cn = chkC l := ⟨_, rfl⟩
  have HCN := Lib.hid hcn
  clear hcn
  go_enter Tryd.func59, Tryd.ntmps59
  go_wp2_with fail
  refine (schCheck_any _ l _ h0 hl HC.out HT.out).mono ?_
  rintro e w1 ⟨rfl, b1⟩
  rw [← HCN.out]
  obtain ⟨cp, ce⟩ := cn
  by_cases hce : ce = 0
  · subst hce
    have hy2 := HY.out
    rw [← HCN.out, if_neg (by simp)] at hy2
    have HND := Lib.hid (chkC_nodup (l := l) (by rw [← HCN.out]))
    by_cases hn : keys = []
    · subst hn
      rw [if_pos rfl] at hy2
      subst hy2
      have ho := HOO.out
      rw [if_neg (by simp)] at ho
      subst ho
      go_wp2
      refine bodyPost_ret (v := .tuple #[.slice none 0 0, .int .i64 (0 : Nat), .int .i64 (13 : Nat)]) (by simp [results, Tryd.results59, go_sem]) rfl (HR.out _ _ ⟨_, rfl, Own.nil_ _ _ _ _, b1⟩)
    · have hpos : 0 < keys.length := List.length_pos_iff.2 hn
      have d : ((keys.length : Int) == 0) = false := by rw [beq_eq_false_iff_ne]; omega
      rw [if_neg hn] at hy2
      obtain ⟨L, hL⟩ : ∃ L, L = namesC l := ⟨_, rfl⟩
      rw [← hL] at hy2
      have HL := Lib.hid hL; have HY2 := Lib.hid hy2
      clear hn hL hy2
      go_wp2
      go_loopw [9, 28] (fun o i wr => ∃ k : Nat, k ≤ keys.length ∧ i = .int .i64 k ∧ plF L k (keys.take k) (keys.drop k) = Y ∧ allIn L (keys.take k) = true ∧ Own wr w1.heap.size 3 1 o k (intV (numsF L (keys.take k))) ∧ Below w1.heap.size w1 wr) (fun _ i _ => keys.length - (intOf i).toNat)
      case atStart => exact ⟨0, Nat.zero_le _, rfl, HY2.out.symm, rfl, Own.nil_ _ _ _ _, Below.refl _ _⟩
      case round =>
        obtain ⟨k, hk, rfl, hN, hA, hO, hB⟩ := hrel
        have HN := Lib.hid hN; have HA := Lib.hid hA
        have bwr := b1.trans (hB.mono b1.size)
        clear hN hA
        by_cases hlt : k < keys.length
        · obtain ⟨p, c4, hv, hc⟩ := (hu0.below bwr).at hlt
          injection hv with hA _ hcc
          subst hA
          subst hcc
          have hs1 : keys.take (k + 1) = keys.take k ++ [keys[k]] := List.take_succ_eq_append_getElem hlt
          have hs2 : keys.drop k = keys[k] :: keys.drop (k + 1) := List.drop_eq_getElem_cons hlt
          have hs3 := numsF_snoc L keys hlt
          have hs4 := allIn_snoc L keys hlt
          obtain ⟨x, hx⟩ : ∃ x, x = keys[k] := ⟨_, rfl⟩
          rw [← hx] at hc hs1 hs2 hs3 hs4
          have S1 := Lib.hid hs1; have S2 := Lib.hid hs2; have S3 := Lib.hid hs3; have S4 := Lib.hid hs4
          clear hx hs1 hs2 hs3 hs4
          have dk : decide ((k : Int) < keys.length) = true := decide_eq_true (by omega)
          obtain ⟨fc, hfc⟩ : ∃ fc, fc = findC l x := ⟨_, rfl⟩
          obtain ⟨tw, htw⟩ : ∃ tw, tw = decide (x ∈ L) := ⟨_, rfl⟩
          obtain ⟨ct, hct⟩ : ∃ ct, ct = atC L x := ⟨_, rfl⟩
          have HFC := Lib.hid hfc; have HTW := Lib.hid htw; have HCT := Lib.hid hct
          clear hfc htw hct
          go_wp2_with fail
          refine (find_any _ l x _ (RdF.next h0 bwr)).mono ?_
          rintro e w4 ⟨rfl, b4⟩
          rw [← HFC.out, ← HL.out, ← HTW.out, ← HCT.out]
          have hB4 := hB.trans (b4.mono hB.size)
          have hO4 := hO.below b4 (Nat.le_refl _)
          obtain ⟨fcn, fck, fcu⟩ := fc
          have hB5 := hB4.alloc hB4.size (.cells #[.string fcn, .int .i64 fck, .bool fcu] 99)
          have hO5 := hO4.below ((Below.refl _ _).alloc (Nat.le_refl _) (.cells #[.string fcn, .int .i64 fck, .bool fcu] 99)) (Nat.le_refl _)
          have hrO := RdI.of_own hO5
          cases tw
          · have hy := HN.out
            rw [S2.out, plF, if_neg (of_decide_eq_false HTW.out.symm)] at hy
            subst hy
            have ho := HOO.out
            rw [if_neg (by simp)] at ho
            subst ho
            go_wp2
            refine bodyPost_ret (v := .tuple #[.slice none 0 0, .int .i64 k, .int .i64 (16 : Nat)]) (by simp [results, Tryd.results59, go_sem]) rfl (HR.out _ _ ⟨_, rfl, Own.nil_ _ _ _ _, b1.trans (hB5.mono b1.size)⟩)
          · have hin := of_decide_eq_true HTW.out.symm
            have hmem := atC_mem hin HA.out
            rw [← HCT.out] at hmem
            obtain ⟨tm, htm⟩ : ∃ tm, tm = decide (x ∈ keys.take k) := ⟨_, rfl⟩
            have hcm : decide ((ct : Int) ∈ numsF L (keys.take k)) = tm := by rw [htm, Bool.eq_iff_iff, decide_eq_true_iff, decide_eq_true_iff]; exact hmem
            have HCM := Lib.hid hcm; have HTM := Lib.hid htm; have HIN := Lib.hid hin
            clear hmem htm hcm hin
            go_wp2_with fail
            refine (containsInt_any _ (numsF L (keys.take k)) (ct : Int) _ hrO).mono ?_
            rintro e w5 ⟨rfl, rfl⟩
            rw [HCM.out]
            cases tm
            · have hn2 : plF L (k + 1) (keys.take (k + 1)) (keys.drop (k + 1)) = Y := by
                have h := HN.out
                rw [S2.out, plF, if_pos HIN.out, if_neg (of_decide_eq_false HTM.out.symm), ← S1.out] at h
                exact h
              have ha2 : allIn L (keys.take (k + 1)) = true := by rw [S4.out, HA.out, ← HTW.out]; rfl
              have N2 := Lib.hid hn2; have A2 := Lib.hid ha2
              clear hn2 ha2 hrO
              go_wp2_with (at_builtin; refine wpList_push rfl _ _ _ rfl w1.heap.size 3 i0 _ 8 Tryd.underlying102 hi0 hz0 hz1 hz2 rfl (by omega) u9 k _ (.int .i64 ct) rfl hO5 (by simp [Act.eval]) rfl (by omega) hB5.size ?_; intro v5 w6 hown5 hg5 hat5)
              exact ⟨⟨k + 1, by omega, by go_num, N2.out, A2.out, by rw [S3.out, intV_snoc, ← HCT.out]; exact hown5, below_grown hB5 hg5 (fun g hg => (hO.lt g hg).1) hB5.size⟩, by simp [intOf]; omega⟩
            · have hy := HN.out
              rw [S2.out, plF, if_pos HIN.out, if_pos (of_decide_eq_true HTM.out.symm)] at hy
              subst hy
              have ho := HOO.out
              rw [if_neg (by simp)] at ho
              subst ho
              go_wp2
              refine bodyPost_ret (v := .tuple #[.slice none 0 0, .int .i64 k, .int .i64 (15 : Nat)]) (by simp [results, Tryd.results59, go_sem]) rfl (HR.out _ _ ⟨_, rfl, Own.nil_ _ _ _ _, b1.trans (hB5.mono b1.size)⟩)
        · obtain rfl : k = keys.length := by omega
          have hy := HN.out
          rw [List.drop_length, plF] at hy
          subst hy
          have ho := HOO.out
          rw [if_pos rfl, ← HL.out] at ho
          rw [List.take_length, ← ho] at hO
          have hOl : O.length = keys.length := by rw [ho]; unfold numsF; rw [List.length_map]
          have HOL := Lib.hid hOl
          obtain ⟨oA, oc, rfl, -⟩ := hO.form
          clear hlt ho hOl
          go_wp2
          refine bodyPost_ret (v := .tuple #[.slice oA keys.length oc, .int .i64 keys.length, .int .i64 (0 : Nat)]) (by simp [results, Tryd.results59, go_sem]) rfl (HR.out _ _ ⟨_, rfl, by rw [HOL.out]; exact hO.mono b1.size, bwr⟩)
  · have hy := HY.out
    rw [← HCN.out, if_pos hce] at hy
    subst hy
    have ho := HOO.out
    rw [if_neg hce] at ho
    subst ho
    have dc : ((ce : Int) != 0) = true := by rw [bne_iff_ne]; omega
    clear hce
    go_wp2
    refine bodyPost_ret (v := .tuple #[.slice none 0 0, .int .i64 (0 : Nat), .int .i64 ce]) (by simp [results, Tryd.results59, go_sem]) rfl (HR.out _ _ ⟨_, rfl, Own.nil_ _ _ _ _, b1⟩)
end Go.Proofs.YtgiemhooeoakmaaDoor

namespace Go.Proofs.YtgiemhooeoakmaaDoor
open Go.RowKit Go.ChangeShapes Go.WideShapes
set_option linter.unusedVariables false
set_option linter.unusedSimpArgs false

/-- The first row that may not be, so many being behind; the error's number. -/
def rowF (n : Nat) (ps : List Int) (t : VTab) : Nat → VTab → Nat × Nat
  | j, [] => (j, 0)
  | j, r :: rest => if r.length ≠ n then (j, 10) else if ps.any (nullP r) then (j, 20) else if (t.take j).any (alikeP ps r) then (j, 15) else rowF n ps t (j + 1) rest
def dchk (l : List Col) (keys : Row) (t : VTab) : Nat × Nat := if (plC l keys).2 ≠ 0 then plC l keys else rowF l.length (numsF (namesC l) keys) t 0 t
theorem plC_keys {l : List Col} {keys : Row} (h : (plC l keys).2 = 0) : ∀ p ∈ numsF (namesC l) keys, 0 ≤ p ∧ p < l.length := by
  unfold plC at h
  split at h
  · rename_i h1; exact absurd h h1
  · split at h
    · cases h
    · have hk := (plF_len _ _ _ _ h).2
      intro p hp
      obtain ⟨s, hs, rfl⟩ := List.mem_map.1 hp
      have := atC_lt (hk s hs)
      rw [namesC_len] at this
      omega
theorem findP_ge (ps : List Int) (r : VRow) (t : VTab) : decide (0 ≤ findP ps r t) = t.any (alikeP ps r) := idxP_any _ _ _
theorem numsF_len (names keys : Row) : (numsF names keys).length = keys.length := by unfold numsF; rw [List.length_map]
set_option maxHeartbeats 4000000 in
theorem dcheck_any (v u z : Value) (l : List Col) (t : VTab) (keys : Row) (w : World) (h : RdC w w.heap.size v l) (h2 : RdVT w w.heap.size u t) (hu : RdS w w.heap.size z keys) (hl : l.length ≤ 100000) (ht : t.length ≤ 100000) (hk : keys.length ≤ 100000) (hc : ∀ c ∈ l, c.name.size ≤ 100000) (hT : Tab w) :
    Calls Tryd.prog 16 #[.agg #[v, u], z] w fun e w' => e = .returned (.tuple #[.int .i64 (dchk l keys t).1, .int .i64 (dchk l keys t).2]) ∧ Below w.heap.size w w' := by
  refine cps fun R HR => ?_
  have h0 := h
  have g0 := h2
  have hu0 := hu
  obtain ⟨A1, c1, rfl, -⟩ := h.is
  obtain ⟨A, c, vs, rfl, -, -⟩ := h2.is
  obtain ⟨A3, c3, rfl, -⟩ := hu.is
  have hfl := RdF.few h0
  have hft := g0.few
  have hfk := hu0.few
  clear h h2 hu
  obtain ⟨Y, hY⟩ : ∃ Y, Y = dchk l keys t := ⟨_, rfl⟩
  rw [← hY] at HR
  unfold dchk at hY
  obtain ⟨P, hP⟩ : ∃ P, P = plC l keys := ⟨_, rfl⟩
  have hO : plO l keys = if P.2 = 0 then numsF (namesC l) keys else [] := by rw [hP]; rfl
  have hps := fun (h : P.2 = 0) => plC_keys (l := l) (keys := keys) (by rw [← hP]; exact h)
  rw [← hP] at hY
  obtain ⟨w0, hw0⟩ : ∃ w0, w0 = w.alloc (.cells #[.slice A1 l.length c1, .slice A t.length c] 25) := ⟨_, rfl⟩
  have bw0 : Below w.heap.size w w0 := by rw [hw0]; exact (Below.refl _ _).alloc (Nat.le_refl _) _
  have X := Box.new w 25 #[.slice A1 l.length c1, .slice A t.length c]
  rw [← hw0] at X
  have HX := Lib.hid X; have HW0 := Lib.hid hw0; have HB0 := Lib.hid bw0; have HY := Lib.hid hY; have HP := Lib.hid hP; have HO := Lib.hid hO; have HPS := Lib.hid hps
  have HC := Lib.hid hc; have HT := Lib.hid hT
  clear X hw0 bw0 hY hP hO hps hc hT
  go_enter Tryd.func16, Tryd.ntmps16
  go_wp2_with fail
  rw [← HW0.out]
  refine (places_any _ _ l keys _ (RdF.next h0 HB0.out) (hu0.next HB0.out) hl hk HC.out (HT.out.below HB0.out)).mono ?_
  rintro e w1 ⟨o, rfl, ho, b1⟩
  rw [← HP.out]
  rw [HO.out] at ho
  have bw1 := HB0.out.trans (b1.mono HB0.out.size)
  obtain ⟨P1, P2⟩ := P
  by_cases hp2 : P2 = 0
  · subst hp2
    rw [if_pos rfl] at ho
    have hPS := HPS.out rfl
    have hy := HY.out
    rw [if_neg (by simp)] at hy
    obtain ⟨ps, hpsd⟩ : ∃ ps, ps = numsF (namesC l) keys := ⟨_, rfl⟩
    have hpl : ps.length = keys.length := by rw [hpsd, numsF_len]
    rw [← hpsd] at ho hPS hy
    have hri := RdI.of_own ho
    obtain ⟨oA, oc, rfl, -⟩ := hri.is
    have HRI := Lib.hid hri; have HPP := Lib.hid hPS; have HY2 := Lib.hid hy; have HPL := Lib.hid hpl
    have X1 := HX.out.below b1 HX.out.lt
    have x0 := X1.cell 0
    have x1 := X1.cell 1
    simp at x0 x1
    have HX1 := Lib.hid X1
    have hx1lt := X1.lt
    clear hri hPS hy ho hpsd hpl X1
    go_wp2
    go_loopw [26] (fun i wr => ∃ k : Nat, k ≤ t.length ∧ i = .int .i64 k ∧ rowF l.length ps t k (t.drop k) = Y ∧ (∀ x ∈ t.take k, x.length = l.length) ∧ Below w1.heap.size w1 wr) (fun i _ => t.length - (intOf i).toNat)
    case atStart => exact ⟨0, Nat.zero_le _, rfl, HY2.out.symm, (fun x hx => by simp at hx), Below.refl _ _⟩
    case round =>
      obtain ⟨k, hk2, rfl, hN, hA, hBr⟩ := hrel
      have HN := Lib.hid hN; have HA := Lib.hid hA
      have bwr := bw1.trans (hBr.mono bw1.size)
      clear hN hA
      have X2 := HX1.out.below hBr HX1.out.lt
      have x2 := X2.cell 0
      have x3 := X2.cell 1
      simp at x2 x3
      have hgr : w.heap.size < wr.heap.size := X2.lt
      have HX2 := Lib.hid X2
      clear X2 x0 x1
      by_cases hlt : k < t.length
      · have dk : decide ((k : Int) < t.length) = true := decide_eq_true (by omega)
        obtain ⟨p, c4, vr, hv, hcr, hrd⟩ := (RdE.next (RdF.stays valV 4) g0 bwr).at hlt
        injection hv with hAA hln hcc
        subst hAA
        subst hcc
        clear hln
        have hs2 : t.drop k = t[k] :: t.drop (k + 1) := List.drop_eq_getElem_cons hlt
        have hs1 : t.take (k + 1) = t.take k ++ [t[k]] := List.take_succ_eq_append_getElem hlt
        obtain ⟨r, hr⟩ : ∃ r, r = t[k] := ⟨_, rfl⟩
        rw [← hr] at hrd hs2 hs1
        have S1 := Lib.hid hs1; have S2 := Lib.hid hs2
        clear hr hs1 hs2
        have hrd0 := hrd
        obtain ⟨rA, rc, rfl, -⟩ := hrd.is
        have hfr := RdF.few hrd0
        clear hrd
        have hgs : wr.heap.size < (wr.alloc (.cells #[.slice rA r.length rc] 61)).heap.size := by simp
        have Q := Box.new wr 61 #[.slice rA r.length rc]
        have bq : Below wr.heap.size wr (wr.alloc (.cells #[.slice rA r.length rc] 61)) := (Below.refl _ _).alloc (Nat.le_refl _) _
        obtain ⟨wq, hwq⟩ : ∃ wq, wq = wr.alloc (.cells #[.slice rA r.length rc] 61) := ⟨_, rfl⟩
        rw [← hwq] at Q bq
        have HWQ := Lib.hid hwq; have HQ := Lib.hid Q; have HBQ := Lib.hid bq
        clear hwq Q bq hgs
        by_cases hrl : r.length = l.length
        · have dne : ((r.length : Int) != l.length) = false := by rw [hrl]; simp
          have HRL := Lib.hid hrl
          clear hrl
          go_wp2_with fail
          rw [← HWQ.out]
          have bq0 := hBr.trans (HBQ.out.mono hBr.size)
          refine (anyNull_any _ _ ps (nullP r) _ ((HRI.out.next hBr).next HBQ.out) (fun x hx wk hbk => null1_any _ _ r x wk ((HQ.out.below hbk HQ.out.lt).cell 0) (RdF.next (RdF.next hrd0 HBQ.out) hbk) (HPP.out x hx).1 (by rw [HRL.out]; exact (HPP.out x hx).2))).mono ?_
          rintro e w3 ⟨rfl, b3⟩
          obtain ⟨tn, htn⟩ : ∃ tn, tn = ps.any (nullP r) := ⟨_, rfl⟩
          rw [← htn]
          have HTN := Lib.hid htn
          clear htn
          have bq3 := HBQ.out.trans (b3.mono HBQ.out.size)
          have bw3 := hBr.trans (bq3.mono hBr.size)
          have bww3 := bwr.trans (bq3.mono bwr.size)
          cases tn
          · have X3 := HX2.out.below bq3 HX2.out.lt
            have y0 := X3.cell 0
            have y1 := X3.cell 1
            have y2 := (HQ.out.below b3 HQ.out.lt).cell 0
            simp at y0 y1 y2
            have k0 := cell_regrown y1
            have k1 := cell_regrown y2
            obtain ⟨fp, hfp⟩ : ∃ fp, fp = findP ps r (t.take k) := ⟨_, rfl⟩
            have hany := findP_ge ps r (t.take k)
            rw [← hfp] at hany
            have gF : ∀ dn os, Calls Tryd.prog 62 #[.slice (some p) k c, .slice rA r.length rc, .slice oA ps.length oc] (Go.Sort.grow (redrawn w3 dn) os) fun e w'' => e = .returned (.int .i64 fp) ∧ ∃ q : Regrown, w'' = Go.Sort.grow (redrawn w3 q.d) q.os := fun dn os => Calls.regrown_of (by
              have br := below_regrown w3 dn os
              rw [hfp]
              exact dfind_any _ _ _ (t.take k) r ps _ (RdE.next (RdF.stays valV 4) (RdE.take (RdE.next (RdF.stays valV 4) g0 bww3) hk2) br) (RdF.next (RdF.next (RdF.next hrd0 HBQ.out) b3) br) ((HRI.out.next bw3).next br) (fun x hx q hq => ⟨(HPP.out q hq).1, by rw [HA.out x hx]; exact (HPP.out q hq).2, by rw [HRL.out]; exact (HPP.out q hq).2⟩))
            have HFP := Lib.hid hfp; have HANY := Lib.hid hany
            have hcap : t.length ≤ c := g0.cap
            have hkc : k ≤ c := by omega
            clear hfp hany X3 y0 y1 y2 x2 x3
            go_wp2
            refine wp_region_quiet_below (by kernel_rfl) (by kernel_rfl) ?_
            repeat (go_big_quiet_step ((go_at_call 62; with_reducible exact gF _ _)))
            refine wpQuiet_nil ?_
            intro w9 hw9
            have bel : Below w3.heap.size w3 w9 := by obtain ⟨q, rfl⟩ := hw9; exact below_regrown _ q.d q.os
            clear hw9 gF k0 k1
            have bw9 := bw3.trans (bel.mono bw3.size)
            have bww9 := bww3.trans (bel.mono bww3.size)
            by_cases hf0 : 0 ≤ fp
            · have hy := HN.out
              have hh := HANY.out
              rw [decide_eq_true hf0] at hh
              rw [S2.out, rowF, if_neg (by simpa using HRL.out), ← HTN.out, if_neg (by simp), if_pos hh.symm] at hy
              subst hy
              have hf1 : ¬ fp < 0 := by omega
              clear hh
              go_wp2
              exact HR.out _ _ ⟨rfl, bww9⟩
            · have hn2 : rowF l.length ps t (k + 1) (t.drop (k + 1)) = Y := by
                have hy := HN.out
                have hh := HANY.out
                rw [decide_eq_false hf0] at hh
                rw [S2.out, rowF, if_neg (by simpa using HRL.out), ← HTN.out, if_neg (by simp), if_neg (by rw [← hh]; simp)] at hy
                exact hy
              have ha2 : ∀ x ∈ t.take (k + 1), x.length = l.length := by
                rw [S1.out]
                intro x hx
                rcases List.mem_append.1 hx with hx | hx
                · exact HA.out x hx
                · rw [List.mem_singleton.1 hx]; exact HRL.out
              have N2 := Lib.hid hn2; have A2 := Lib.hid ha2
              have hf1 : fp < 0 := by omega
              clear hn2 ha2
              go_wp2
              exact ⟨⟨k + 1, by omega, by go_num, N2.out, A2.out, bw9⟩, by simp [intOf]; omega⟩
          · have hy := HN.out
            rw [S2.out, rowF, if_neg (by simpa using HRL.out), ← HTN.out, if_pos rfl] at hy
            subst hy
            go_wp2
            exact HR.out _ _ ⟨rfl, bww3⟩
        · have dne : ((r.length : Int) != l.length) = true := by rw [bne_iff_ne]; omega
          have hy := HN.out
          rw [S2.out, rowF, if_pos hrl] at hy
          subst hy
          go_wp2
          exact HR.out _ _ ⟨rfl, bwr.alloc bwr.size _⟩
      · obtain rfl : k = t.length := by omega
        have hy := HN.out
        rw [List.drop_length, rowF] at hy
        subst hy
        go_wp2
        exact HR.out _ _ ⟨rfl, bwr⟩
  · have hy := HY.out
    rw [if_pos hp2] at hy
    subst hy
    have dc : ((P2 : Int) != 0) = true := by rw [bne_iff_ne]; omega
    go_wp2
    exact HR.out _ _ ⟨rfl, bw1⟩
end Go.Proofs.YtgiemhooeoakmaaDoor

namespace Go.Proofs.YtgiemhooeoakmaaDoor
open Go.RowKit Go.ChangeShapes Go.WideShapes
set_option linter.unusedVariables false
set_option linter.unusedSimpArgs false

set_option maxHeartbeats 4000000 in
theorem refAlike_any (v z va vb : Value) (l : List Col) (keys : Row) (x r : VRow) (w : World) (h : RdRC w w.heap.size v l) (hz : RdS w w.heap.size z keys) (ha : RdRV w w.heap.size va x) (hb : RdRV w w.heap.size vb r) (hl : l.length ≤ 100000) (hin : ∀ k ∈ keys, k ∈ namesC l) (hx : x.length = l.length) (hr : r.length = l.length) :
    Calls Tryd.prog 66 #[v, z, va, vb] w fun e w' => e = .returned (.bool (alikeP (numsF (namesC l) keys) r x)) ∧ Below w.heap.size w w' := by
  refine cps fun R HR => ?_
  have h0 := h
  have hz0 := hz
  have ha0 := ha
  have hb0 := hb
  obtain ⟨A1, c1, rfl, -⟩ := h.is
  obtain ⟨A, c, rfl, -⟩ := hz.is
  obtain ⟨A3, c3, rfl, -⟩ := ha.is
  obtain ⟨A4, c4, rfl, -⟩ := hb.is
  have hfx := RdF.few ha0
  have hfr := RdF.few hb0
  have hfk := hz0.few
  obtain ⟨Y, hY⟩ : ∃ Y, Y = (numsF (namesC l) keys).any (unP x r) := ⟨_, rfl⟩
  have hal : alikeP (numsF (namesC l) keys) r x = !Y := by rw [hY]; rfl
  rw [hal] at HR
  have HY := Lib.hid hY; have HIN := Lib.hid hin; have HXL := Lib.hid hx; have HRL := Lib.hid hr
  clear h hz ha hb hY hal hin hx hr
  go_enter Tryd.func66, Tryd.ntmps66
  go_wp2
  go_loopw [14] (fun i wr => ∃ k : Nat, k ≤ keys.length ∧ i = .int .i64 k ∧ (numsF (namesC l) (keys.take k)).any (unP x r) = false ∧ Below w.heap.size w wr) (fun i _ => keys.length - (intOf i).toNat)
  case atStart => exact ⟨0, Nat.zero_le _, rfl, rfl, Below.refl _ _⟩
  case round =>
    obtain ⟨k, hk, rfl, hN, hB⟩ := hrel
    have HN := Lib.hid hN
    clear hN
    by_cases hlt : k < keys.length
    · obtain ⟨p, c5, hv, hc⟩ := (hz0.below hB).at hlt
      injection hv with hA hln hcc
      subst hA
      subst hcc
      clear hln
      have hmem := HIN.out _ (List.getElem_mem hlt)
      have hs3 := numsF_snoc (namesC l) keys hlt
      have hct := atC_lt hmem
      have hpi := posF_in hmem
      rw [namesC_len] at hct
      obtain ⟨s, hs⟩ : ∃ s, s = keys[k] := ⟨_, rfl⟩
      rw [← hs] at hc hmem hs3 hct hpi
      obtain ⟨ct, hctd⟩ : ∃ ct, ct = atC (namesC l) s := ⟨_, rfl⟩
      rw [← hctd] at hs3 hct hpi
      have S3 := Lib.hid hs3; have HPI := Lib.hid hpi
      clear hs hs3 hpi hctd hmem
      have dk : decide ((k : Int) < keys.length) = true := decide_eq_true (by omega)
      go_wp2_with fail
      refine (refNames_any _ l _ (RdF.next h0 hB) hl).mono ?_
      rintro e w2 ⟨o, rfl, ho, b2⟩
      have hro := RdS.of_own ho
      obtain ⟨oA, oc, rfl, -⟩ := hro.is
      have hB2 := hB.trans (b2.mono hB.size)
      have hcx : ct < x.length := by rw [HXL.out]; exact hct
      have hcr : ct < r.length := by rw [HRL.out]; exact hct
      obtain ⟨a', c6, hv1, q0, q1, q2, q3⟩ := RdRV.at (ha0.below hB2) hcx
      injection hv1 with hA hln hcc
      subst hA
      subst hcc
      clear hln
      obtain ⟨b', c7, hv2, r0, r1, r2, r3⟩ := RdRV.at (hb0.below hB2) hcr
      injection hv2 with hA hln hcc
      subst hA
      subst hcc
      clear hln
      have hu : unP x r (ct : Int) = !decide (x[ct] = r[ct]) := by unfold unP; rw [Int.toNat_natCast, getD_at hcx, getD_at hcr]
      obtain ⟨xx, hxx⟩ : ∃ y, y = x[ct] := ⟨_, rfl⟩
      obtain ⟨rr, hrr⟩ : ∃ y, y = r[ct] := ⟨_, rfl⟩
      rw [← hxx, ← hrr] at hu
      rw [← hxx] at q0 q1 q2 q3
      rw [← hrr] at r0 r1 r2 r3
      have icx : (ct : Int) < x.length := by omega
      have icr : (ct : Int) < r.length := by omega
      have HU := Lib.hid hu
      clear hxx hrr hu
      obtain ⟨xk, xs, xn, xb⟩ := xx
      obtain ⟨rk, rs, rn, rb⟩ := rr
      go_wp2_with fail
      refine (refAt_any _ (namesC l) s _ hro).mono ?_
      rintro e w3 ⟨rfl, rfl⟩
      rw [HPI.out]
      clear hro ho
      have hbad : (⟨xk, xs, xn, xb⟩ : Val) ≠ ⟨rk, rs, rn, rb⟩ → Y = true := fun hne => by
        rw [HY.out, List.any_eq_true]
        refine ⟨(ct : Int), ?_, by rw [HU.out, decide_eq_false hne]; rfl⟩
        have hm : (ct : Int) ∈ numsF (namesC l) (keys.take (k + 1)) := by rw [S3.out]; simp
        unfold numsF at hm ⊢
        obtain ⟨s2, hs2, he⟩ := List.mem_map.1 hm
        exact List.mem_map.2 ⟨s2, List.mem_of_mem_take hs2, he⟩
      have HBAD := Lib.hid hbad
      clear hbad
      by_cases e0 : xk = rk
      · by_cases e1 : xs = rs
        · by_cases e2 : xn = rn
          · by_cases e3 : xb = rb
            · subst e0 e1 e2 e3
              have hn2 : (numsF (namesC l) (keys.take (k + 1))).any (unP x r) = false := by
                rw [S3.out, List.any_append, HN.out, List.any_cons, HU.out, decide_eq_true rfl]
                rfl
              have HNN := Lib.hid hn2
              clear hn2
              go_wp2
              go_quiet (fail)
              go_wp2
              exact ⟨⟨k + 1, by omega, by go_num, HNN.out, below_drewN hB2 _⟩, by simp [intOf]; omega⟩
            · have hy := HBAD.out (fun h => by injection h with _ _ _ h; exact e3 h)
              subst e0 e1 e2 hy
              have d4 : (nullI xb == nullI rb) = false := by rw [beq_eq_false_iff_ne]; exact fun h => e3 (nullI_inj h)
              clear e3
              go_wp2
              go_quiet (fail)
              go_wp2
              exact HR.out _ _ ⟨rfl, below_drewN hB2 _⟩
          · have hy := HBAD.out (fun h => by injection h with _ _ h _; exact e2 h)
            subst e0 e1 hy
            have d3 : (xn == rn) = false := by rw [beq_eq_false_iff_ne]; exact e2
            clear e2
            go_wp2
            go_quiet (fail)
            go_wp2
            exact HR.out _ _ ⟨rfl, below_drewN hB2 _⟩
        · have hy := HBAD.out (fun h => by injection h with _ h _ _; exact e1 h)
          subst e0 hy
          have d2 : (xs.toList == rs.toList) = false := by rw [str_eq]; exact decide_eq_false e1
          clear e1
          go_wp2
          go_quiet (fail)
          go_wp2
          exact HR.out _ _ ⟨rfl, below_drewN hB2 _⟩
      · have hy := HBAD.out (fun h => by injection h with h _ _ _; exact e0 h)
        subst hy
        have d1 : (xk == rk) = false := by rw [beq_eq_false_iff_ne]; exact e0
        clear e0
        go_wp2
        go_quiet (fail)
        go_wp2
        exact HR.out _ _ ⟨rfl, below_drewN hB2 _⟩
    · obtain rfl : k = keys.length := by omega
      have hy : Y = false := by rw [HY.out, ← HN.out, List.take_length]
      subst hy
      go_wp2
      exact HR.out _ _ ⟨rfl, hB⟩
end Go.Proofs.YtgiemhooeoakmaaDoor

namespace Go.Proofs.YtgiemhooeoakmaaDoor
open Go.RowKit Go.ChangeShapes Go.WideShapes
set_option linter.unusedVariables false
set_option linter.unusedSimpArgs false

theorem any_take {α : Type} (p : α → Bool) (l : List α) {k : Nat} (hk : k < l.length) : (l.take (k + 1)).any p = ((l.take k).any p || p l[k]) := by
  rw [List.take_succ_eq_append_getElem hk, List.any_append, List.any_cons, List.any_nil, Bool.or_false]
theorem any_take_le {α : Type} (p : α → Bool) (l : List α) {k : Nat} (hk : k < l.length) (h : p l[k] = true) : l.any p = true := by
  rw [List.any_eq_true]
  exact ⟨l[k], List.getElem_mem hk, h⟩
theorem numsF_get (L keys : Row) {k : Nat} (hk : k < keys.length) : ∃ h, (numsF L keys)[k]'h = (atC L keys[k] : Int) := by
  unfold numsF
  exact ⟨by rw [List.length_map]; exact hk, by rw [List.getElem_map]⟩
theorem dchk_no {l : List Col} {keys : Row} {t : VTab} (h : (chkC l).2 ≠ 0) : dchk l keys t = (0, (chkC l).2) := by
  unfold dchk plC
  rw [if_pos h, if_pos (by simpa using h)]
theorem dchk_nil {l : List Col} {t : VTab} (h : (chkC l).2 = 0) : dchk l [] t = (0, 13) := by
  have hp : plC l [] = (0, 13) := by unfold plC; rw [if_neg (by simp [h]), if_pos rfl]
  unfold dchk
  rw [hp, if_pos (by simp)]
theorem dchk_go {l : List Col} {keys : Row} {t : VTab} (h : (chkC l).2 = 0) (hn : keys ≠ []) : dchk l keys t = if (plF (namesC l) 0 [] keys).2 ≠ 0 then plF (namesC l) 0 [] keys else rowF l.length (numsF (namesC l) keys) t 0 t := by
  have hp : plC l keys = plF (namesC l) 0 [] keys := by unfold plC; rw [if_neg (by simp [h]), if_neg hn]
  unfold dchk
  rw [hp]
set_option maxHeartbeats 8000000 in
set_option maxRecDepth 100000 in
theorem rcheck_any (v u z : Value) (l : List Col) (t : VTab) (keys : Row) (w : World) (h : RdRC w w.heap.size v l) (h2 : RdRVT w w.heap.size u t) (hu : RdS w w.heap.size z keys) (hl : l.length ≤ 100000) (ht : t.length ≤ 100000) (hk : keys.length ≤ 100000) (hc : ∀ c ∈ l, c.name.size ≤ 100000) :
    Calls Tryd.prog 17 #[.agg #[v, u], z] w fun e w' => e = .returned (.tuple #[.int .i64 (dchk l keys t).1, .int .i64 (dchk l keys t).2]) ∧ Below w.heap.size w w' := by
  refine cps fun R HR => ?_
  have h0 := h
  have g0 := h2
  have hu0 := hu
  obtain ⟨A1, c1, rfl, -⟩ := h.is
  obtain ⟨A, c, vs, rfl, -, -⟩ := h2.is
  obtain ⟨A3, c3, rfl, -⟩ := hu.is
  have hfl := RdF.few h0
  have hft := g0.few
  have hfk := hu0.few
  have hkc3 : keys.length ≤ c3 := hu0.cap
  have htc : t.length ≤ c := g0.cap
  clear h h2 hu
  obtain ⟨Y, hY⟩ : ∃ Y, Y = dchk l keys t := ⟨_, rfl⟩
  rw [← hY] at HR
  obtain ⟨w0, hw0⟩ : ∃ w0, w0 = w.alloc (.cells #[.slice A1 l.length c1, .slice A t.length c] 39) := ⟨_, rfl⟩
  have bw0 : Below w.heap.size w w0 := by rw [hw0]; exact (Below.refl _ _).alloc (Nat.le_refl _) _
  have X := Box.new w 39 #[.slice A1 l.length c1, .slice A t.length c]
  rw [← hw0] at X
  have cells : ∀ w' : World, Below w0.heap.size w0 w' → w'.cell? ⟨w.heap.size, 0, none⟩ = some (.slice A1 l.length c1) ∧ w'.cell? ⟨w.heap.size, 1, none⟩ = some (.slice A t.length c) := fun w' hb => by
    have X2 := X.below hb X.lt
    exact ⟨X2.cell 0, X2.cell 1⟩
  obtain ⟨cn, hcn⟩ : ∃ cn, cn = chkC l := ⟨_, rfl⟩
  have CELLS := Lib.hid cells; have HW0 := Lib.hid hw0; have HB0 := Lib.hid bw0; have HY := Lib.hid hY; have HCN := Lib.hid hcn; have HC := Lib.hid hc
  clear X hw0 bw0 hY hcn hc cells
  go_enter Tryd.func17, Tryd.ntmps17
  go_wp2_with fail
  rw [← HW0.out]
  refine (refCheck_any _ l _ (RdF.next h0 HB0.out) hl HC.out).mono ?_
  rintro e w1 ⟨rfl, b1⟩
  rw [← HCN.out]
  obtain ⟨cp, ce⟩ := cn
  have bw1 := HB0.out.trans (b1.mono HB0.out.size)
  obtain ⟨x0, x1⟩ := CELLS.out w1 b1
  by_cases hce : ce = 0
  · subst hce
    have hy := HY.out
    have hc0 : (chkC l).2 = 0 := by rw [← HCN.out]
    by_cases hn : keys = []
    · subst hn
      rw [dchk_nil hc0] at hy
      subst hy
      clear hc0
      go_wp2
      exact HR.out _ _ ⟨rfl, bw1⟩
    · have hpos : 0 < keys.length := List.length_pos_iff.2 hn
      have d : ((keys.length : Int) == 0) = false := by rw [beq_eq_false_iff_ne]; omega
      rw [dchk_go hc0 hn] at hy
      clear hc0
      obtain ⟨L, hL⟩ : ∃ L, L = namesC l := ⟨_, rfl⟩
      have hLl : L.length = l.length := by rw [hL, namesC_len]
      rw [← hL] at hy
      have HL := Lib.hid hL; have HY2 := Lib.hid hy; have HLL := Lib.hid hLl
      clear hn hL hy hLl
      go_wp2
      go_loopw [30] (fun i wr => ∃ k : Nat, k ≤ keys.length ∧ i = .int .i64 k ∧ plF L k (keys.take k) (keys.drop k) = plF L 0 [] keys ∧ allIn L (keys.take k) = true ∧ Below w1.heap.size w1 wr) (fun i _ => keys.length - (intOf i).toNat)
      case atStart => exact ⟨0, Nat.zero_le _, rfl, rfl, rfl, Below.refl _ _⟩
      case round =>
        obtain ⟨k, hk2, rfl, hN, hA, hB⟩ := hrel
        have HN := Lib.hid hN; have HA := Lib.hid hA
        have bwr := bw1.trans (hB.mono bw1.size)
        have b0r := b1.trans (hB.mono b1.size)
        clear hN hA x0 x1
        obtain ⟨x0, x1⟩ := CELLS.out wr b0r
        by_cases hlt : k < keys.length
        · obtain ⟨p, c4, hv, hc⟩ := (hu0.below bwr).at hlt
          injection hv with hA hln hcc
          subst hA
          subst hcc
          clear hln
          have hs1 : keys.take (k + 1) = keys.take k ++ [keys[k]] := List.take_succ_eq_append_getElem hlt
          have hs2 : keys.drop k = keys[k] :: keys.drop (k + 1) := List.drop_eq_getElem_cons hlt
          have hs4 := allIn_snoc L keys hlt
          obtain ⟨x, hx⟩ : ∃ x, x = keys[k] := ⟨_, rfl⟩
          rw [← hx] at hc hs1 hs2 hs4
          have S1 := Lib.hid hs1; have S2 := Lib.hid hs2; have S4 := Lib.hid hs4
          clear hx hs1 hs2 hs4
          have dk : decide ((k : Int) < keys.length) = true := decide_eq_true (by omega)
          have hkc : k ≤ c3 := by omega
          go_wp2_with fail
          refine (refNames_any _ l _ (RdF.next h0 bwr) hl).mono ?_
          rintro e w2 ⟨o, rfl, ho, b2⟩
          rw [← HL.out] at ho
          have hro := RdS.of_own ho
          obtain ⟨oA, oc, rfl, -⟩ := hro.is
          have hB2 := hB.trans (b2.mono hB.size)
          have bw2 := bwr.trans (b2.mono bwr.size)
          clear ho
          go_wp2_with fail
          refine (refAt_any _ L x _ hro).mono ?_
          rintro e w3 ⟨rfl, rfl⟩
          clear hro
          by_cases hin : x ∈ L
          · have h0p := posF_some hin 0
            have hpm : ¬ posF 0 L x < 0 := by omega
            have hpn : 0 ≤ posF 0 L x := by omega
            have HIN := Lib.hid hin
            clear h0p hin
            go_wp2_with fail
            refine (refAt_any _ (keys.take k) x _ ((hu0.below bw2).take hk2)).mono ?_
            rintro e w3 ⟨rfl, rfl⟩
            by_cases hsn : x ∈ keys.take k
            · have h1p := posF_some hsn 0
              have hqm : ¬ posF 0 (keys.take k) x < 0 := by omega
              have hqn : 0 ≤ posF 0 (keys.take k) x := by omega
              have hp := HN.out
              rw [S2.out, plF, if_pos HIN.out, if_pos hsn] at hp
              have hy := HY2.out
              rw [← hp, if_pos (by simp)] at hy
              subst hy
              clear h1p hsn hp
              go_wp2
              exact HR.out _ _ ⟨rfl, bw2⟩
            · have hqe := posF_none hsn 0
              have hqm : posF 0 (keys.take k) x < 0 := by omega
              have hqn : ¬ 0 ≤ posF 0 (keys.take k) x := by omega
              have hn2 : plF L (k + 1) (keys.take (k + 1)) (keys.drop (k + 1)) = plF L 0 [] keys := by
                have h := HN.out
                rw [S2.out, plF, if_pos HIN.out, if_neg hsn, ← S1.out] at h
                exact h
              have ha2 : allIn L (keys.take (k + 1)) = true := by rw [S4.out, HA.out, decide_eq_true HIN.out]; rfl
              have N2 := Lib.hid hn2; have A2 := Lib.hid ha2
              clear hqe hsn hn2 ha2
              go_wp2
              exact ⟨⟨k + 1, by omega, by go_num, N2.out, A2.out, hB2⟩, by simp [intOf]; omega⟩
          · have hpe := posF_none hin 0
            have hpm : posF 0 L x < 0 := by omega
            have hpn : ¬ 0 ≤ posF 0 L x := by omega
            have hp := HN.out
            rw [S2.out, plF, if_neg hin] at hp
            have hy := HY2.out
            rw [← hp, if_pos (by simp)] at hy
            subst hy
            clear hpe hin hp
            go_wp2
            exact HR.out _ _ ⟨rfl, bw2⟩
        · obtain rfl : k = keys.length := by omega
          have hp := HN.out
          rw [List.drop_length, plF] at hp
          have hy := HY2.out
          rw [← hp, if_neg (by simp)] at hy
          have hall := HA.out
          rw [List.take_length] at hall
          have hin : ∀ s ∈ keys, s ∈ L := fun s hs => allIn_mem hall hs
          have HY3 := Lib.hid hy; have HIN := Lib.hid hin
          obtain ⟨w4, rfl⟩ : ∃ w4 : World, w4 = wr := ⟨_, rfl⟩
          clear hp hy hall hin hlt
          obtain ⟨ps, hps⟩ : ∃ ps, ps = numsF L keys := ⟨_, rfl⟩
          have HPS := Lib.hid hps
          have hy3 := HY3.out
          rw [← hps] at hy3
          have HY4 := Lib.hid hy3
          clear hps hy3
          go_wp2
          go_loopw [53] (fun i wr => ∃ k : Nat, k ≤ t.length ∧ i = .int .i64 k ∧ rowF l.length ps t k (t.drop k) = Y ∧ (∀ x ∈ t.take k, x.length = l.length) ∧ Below w4.heap.size w4 wr) (fun i _ => t.length - (intOf i).toNat)
          case atStart => exact ⟨0, Nat.zero_le _, rfl, HY4.out.symm, (fun x hx => by simp at hx), Below.refl _ _⟩
          case round =>
            obtain ⟨k, hk3, rfl, hN, hA, hBr⟩ := hrel
            have HN2 := Lib.hid hN; have HA2 := Lib.hid hA
            have bwr2 := bwr.trans (hBr.mono bwr.size)
            have b0r2 := b0r.trans (hBr.mono b0r.size)
            clear hN hA x0 x1
            obtain ⟨x0, x1⟩ := CELLS.out wr b0r2
            by_cases hlt : k < t.length
            · have dk : decide ((k : Int) < t.length) = true := decide_eq_true (by omega)
              obtain ⟨p, c4, vr, hv, hcr, hrd⟩ := (RdE.next (RdF.stays rvalV 4) g0 bwr2).at hlt
              injection hv with hAA hln hcc
              subst hAA
              subst hcc
              clear hln
              have hs2 : t.drop k = t[k] :: t.drop (k + 1) := List.drop_eq_getElem_cons hlt
              have hs1 : t.take (k + 1) = t.take k ++ [t[k]] := List.take_succ_eq_append_getElem hlt
              obtain ⟨r, hr⟩ : ∃ r, r = t[k] := ⟨_, rfl⟩
              rw [← hr] at hrd hs2 hs1
              have S1 := Lib.hid hs1; have S2 := Lib.hid hs2
              clear hr hs1 hs2
              have hrd0 := hrd
              obtain ⟨rA, rc, rfl, -⟩ := hrd.is
              have hfr := RdF.few hrd0
              clear hrd
              by_cases hrl : r.length = l.length
              · have dne : ((r.length : Int) != l.length) = false := by rw [hrl]; simp
                have HRL := Lib.hid hrl
                clear hrl
                obtain ⟨w5, rfl⟩ : ∃ w5 : World, w5 = wr := ⟨_, rfl⟩
                go_wp2
                go_loopw [67] (fun j ws => ∃ m : Nat, m ≤ keys.length ∧ j = .int .i64 m ∧ (numsF L (keys.take m)).any (nullP r) = false ∧ Below w5.heap.size w5 ws) (fun j _ => keys.length - (intOf j).toNat)
                case atStart => exact ⟨0, Nat.zero_le _, rfl, rfl, Below.refl _ _⟩
                case round =>
                  obtain ⟨m, hm, rfl, hM, hBm⟩ := hrel
                  have HM := Lib.hid hM
                  clear hM
                  have bwm := bwr2.trans (hBm.mono bwr2.size)
                  have b0m := b0r2.trans (hBm.mono b0r2.size)
                  clear x0 x1
                  obtain ⟨x0, x1⟩ := CELLS.out wr b0m
                  by_cases hlm : m < keys.length
                  · obtain ⟨p2, c5, hv2, hc2⟩ := (hu0.below bwm).at hlm
                    injection hv2 with hA2 hln2 hcc2
                    subst hA2
                    subst hcc2
                    clear hln2
                    have hmem := HIN.out _ (List.getElem_mem hlm)
                    have hs3 := numsF_snoc L keys hlm
                    have hct := atC_lt hmem
                    have hpi := posF_in hmem
                    rw [HLL.out] at hct
                    obtain ⟨s, hs⟩ : ∃ s, s = keys[m] := ⟨_, rfl⟩
                    rw [← hs] at hc2 hmem hs3 hct hpi
                    obtain ⟨ct, hctd⟩ : ∃ ct, ct = atC L s := ⟨_, rfl⟩
                    rw [← hctd] at hs3 hct hpi
                    have S3 := Lib.hid hs3; have HPI := Lib.hid hpi
                    clear hs hs3 hpi hctd hmem
                    have dm : decide ((m : Int) < keys.length) = true := decide_eq_true (by omega)
                    go_wp2_with fail
                    refine (refNames_any _ l _ (RdF.next h0 bwm) hl).mono ?_
                    rintro e w6 ⟨o, rfl, ho, b6⟩
                    rw [← HL.out] at ho
                    have hro := RdS.of_own ho
                    obtain ⟨oA, oc, rfl, -⟩ := hro.is
                    have hBm2 := hBm.trans (b6.mono hBm.size)
                    have bwm2 := bwm.trans (b6.mono bwm.size)
                    clear ho
                    have hcr2 : ct < r.length := by rw [HRL.out]; exact hct
                    obtain ⟨b', c7, hv3, r0, -, -, -⟩ := RdRV.at (RdF.next hrd0 hBm2) hcr2
                    injection hv3 with hA3 hln3 hcc3
                    subst hA3
                    subst hcc3
                    clear hln3
                    have hu : nullP r (ct : Int) = decide (r[ct].kind = 0) := by unfold nullP; rw [Int.toNat_natCast, getD_at hcr2]
                    obtain ⟨rk, hrk⟩ : ∃ y, y = r[ct].kind := ⟨_, rfl⟩
                    rw [← hrk] at hu r0
                    have icr : (ct : Int) < r.length := by omega
                    have HU := Lib.hid hu
                    clear hrk hu
                    go_wp2_with fail
                    refine (refAt_any _ L s _ hro).mono ?_
                    rintro e w7 ⟨rfl, rfl⟩
                    rw [HPI.out]
                    clear hro
                    by_cases e0 : rk = 0
                    · have d1 : (rk == 0) = true := by rw [beq_iff_eq]; exact e0
                      have hbad : ps.any (nullP r) = true := by
                        rw [HPS.out, List.any_eq_true]
                        refine ⟨(ct : Int), ?_, by rw [HU.out, decide_eq_true e0]⟩
                        have hm2 : (ct : Int) ∈ numsF L (keys.take (m + 1)) := by rw [S3.out]; simp
                        unfold numsF at hm2 ⊢
                        obtain ⟨s2, hs2, he⟩ := List.mem_map.1 hm2
                        exact List.mem_map.2 ⟨s2, List.mem_of_mem_take hs2, he⟩
                      have hy := HN2.out
                      rw [S2.out, rowF, if_neg (by simpa using HRL.out), if_pos hbad] at hy
                      subst hy
                      clear e0 hbad
                      go_wp2
                      exact HR.out _ _ ⟨rfl, bwm2⟩
                    · have d1 : (rk == 0) = false := by rw [beq_eq_false_iff_ne]; exact e0
                      have hm2 : (numsF L (keys.take (m + 1))).any (nullP r) = false := by
                        rw [S3.out, List.any_append, HM.out, List.any_cons, HU.out, decide_eq_false e0]
                        rfl
                      have M2 := Lib.hid hm2
                      clear e0 hm2
                      go_wp2
                      exact ⟨⟨m + 1, by omega, by go_num, M2.out, hBm2⟩, by simp [intOf]; omega⟩
                  · obtain rfl : m = keys.length := by omega
                    have hnn : ps.any (nullP r) = false := by rw [HPS.out, ← HM.out, List.take_length]
                    have HNN := Lib.hid hnn
                    have hkc : k ≤ c := by omega
                    obtain ⟨w6, rfl⟩ : ∃ w6 : World, w6 = wr := ⟨_, rfl⟩
                    clear hnn hlm
                    go_wp2
                    go_loopw [88] (fun j ws => ∃ m : Nat, m ≤ k ∧ j = .int .i64 m ∧ (t.take m).any (alikeP ps r) = false ∧ Below w6.heap.size w6 ws) (fun j _ => k - (intOf j).toNat)
                    case atStart => exact ⟨0, Nat.zero_le _, rfl, rfl, Below.refl _ _⟩
                    case round =>
                      obtain ⟨m, hm3, rfl, hM, hBn⟩ := hrel
                      have HM2 := Lib.hid hM
                      clear hM
                      have bwn := bwm.trans (hBn.mono bwm.size)
                      have b0n := b0m.trans (hBn.mono b0m.size)
                      have hBn5 := hBm.trans (hBn.mono hBm.size)
                      clear x0 x1
                      obtain ⟨x0, x1⟩ := CELLS.out wr b0n
                      by_cases hlm : m < k
                      · have dm : decide ((m : Int) < k) = true := decide_eq_true (by omega)
                        have hmt : m < t.length := by omega
                        obtain ⟨p2, c5, vx, hv2, hcx, hxd⟩ := (RdE.next (RdF.stays rvalV 4) g0 bwn).at hmt
                        injection hv2 with hA2 hln2 hcc2
                        injection hA2 with hA2
                        subst hA2
                        subst hcc2
                        clear hln2
                        have hxl : (t[m]).length = l.length := HA2.out _ (by rw [List.mem_take_iff_getElem]; exact ⟨m, by omega, rfl⟩)
                        have hs3 := any_take (alikeP ps r) t hmt
                        have hs4 : alikeP ps r t[m] = true → (t.take k).any (alikeP ps r) = true := fun hh => by
                          rw [List.any_eq_true]
                          exact ⟨t[m], by rw [List.mem_take_iff_getElem]; exact ⟨m, by omega, rfl⟩, hh⟩
                        obtain ⟨x, hx⟩ : ∃ x, x = t[m] := ⟨_, rfl⟩
                        rw [← hx] at hxd hxl hs3 hs4
                        have S3 := Lib.hid hs3; have S4 := Lib.hid hs4; have HXL := Lib.hid hxl
                        clear hx hs3 hs4 hxl
                        have hxd0 := hxd
                        obtain ⟨xA, xc, rfl, -⟩ := hxd.is
                        clear hxd
                        go_wp2_with fail
                        refine (refAlike_any _ _ _ _ l keys x r _ (RdF.next h0 bwn) (hu0.next bwn) hxd0 (RdF.next hrd0 hBn5) hl (by rw [← HL.out]; exact HIN.out) HXL.out HRL.out).mono ?_
                        rintro e w7 ⟨rfl, b7⟩
                        rw [← HL.out, ← HPS.out]
                        have hBn7 := hBn.trans (b7.mono hBn.size)
                        have bwn7 := bwn.trans (b7.mono bwn.size)
                        obtain ⟨tl, htl⟩ : ∃ tl, tl = alikeP ps r x := ⟨_, rfl⟩
                        rw [← htl]
                        have HTL := Lib.hid htl
                        clear htl
                        cases tl
                        · have hm2 : (t.take (m + 1)).any (alikeP ps r) = false := by rw [S3.out, HM2.out, ← HTL.out]; rfl
                          have M2 := Lib.hid hm2
                          clear hm2
                          go_wp2
                          exact ⟨⟨m + 1, by omega, by go_num, M2.out, hBn7⟩, by simp [intOf]; omega⟩
                        · have hy := HN2.out
                          rw [S2.out, rowF, if_neg (by simpa using HRL.out), if_neg (by rw [HNN.out]; simp), if_pos (S4.out HTL.out.symm)] at hy
                          subst hy
                          go_wp2
                          exact HR.out _ _ ⟨rfl, bwn7⟩
                      · obtain rfl : m = k := by omega
                        have hn3 : rowF l.length ps t (m + 1) (t.drop (m + 1)) = Y := by
                          have hy := HN2.out
                          rw [S2.out, rowF, if_neg (by simpa using HRL.out), if_neg (by rw [HNN.out]; simp), if_neg (by rw [HM2.out]; simp)] at hy
                          exact hy
                        have ha3 : ∀ x ∈ t.take (m + 1), x.length = l.length := by
                          rw [S1.out]
                          intro x hx
                          rcases List.mem_append.1 hx with hx | hx
                          · exact HA2.out x hx
                          · rw [List.mem_singleton.1 hx]; exact HRL.out
                        have N3 := Lib.hid hn3; have A3' := Lib.hid ha3
                        have hBf := hBr.trans (hBn5.mono hBr.size)
                        clear hn3 ha3 hlm
                        go_wp2
                        exact ⟨⟨m + 1, by omega, by go_num, N3.out, A3'.out, hBf⟩, by simp [intOf]; omega⟩
              · have dne : ((r.length : Int) != l.length) = true := by rw [bne_iff_ne]; omega
                have hy := HN2.out
                rw [S2.out, rowF, if_pos hrl] at hy
                subst hy
                go_wp2
                exact HR.out _ _ ⟨rfl, bwr2⟩
            · obtain rfl : k = t.length := by omega
              have hy := HN2.out
              rw [List.drop_length, rowF] at hy
              subst hy
              go_wp2
              exact HR.out _ _ ⟨rfl, bwr2⟩
  · have hy := HY.out
    rw [dchk_no (by rw [← HCN.out]; exact hce), ← HCN.out] at hy
    subst hy
    have dc : ((ce : Int) != 0) = true := by rw [bne_iff_ne]; omega
    go_wp2
    exact HR.out _ _ ⟨rfl, bw1⟩
end Go.Proofs.YtgiemhooeoakmaaDoor


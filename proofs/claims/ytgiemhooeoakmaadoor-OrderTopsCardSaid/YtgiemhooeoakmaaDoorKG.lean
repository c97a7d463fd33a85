/- Layer 25: Clone of a row, schema.Same, EqualFunc at same. Lists of changes, as they lie in memory. Layer 25: diff.Diff. Layer 25, the reference: Diff. Layer 25, plain: the reference's changes are the program's, where both tables are keyed. Layer 25, the reference: one. Layer 25, the reference: Same. -/
import Derived.Lib.SlBytesConst
import Derived.Laws.StructEq
import Derived.Deep.RegionHeld3
import Derived.Test.YtgiemhooeoakmaaDoorKF
import Derived.Test.YtgiemhooeoakmaaDoorKA
import Derived.Test.YtgiemhooeoakmaaDoorKE
namespace Go.Proofs.YtgiemhooeoakmaaDoor
open Go.RowKit Go.ChangeShapes Go.WideShapes
set_option linter.unusedVariables false
set_option linter.unusedSimpArgs false

theorem valF_one (l : VRow) : ∀ u ∈ l.flatMap valV, u.oneCell' = true := fun u hu => by
  obtain ⟨x, -, hx⟩ := List.mem_flatMap.1 hu
  exact val_one x u hx
theorem cloneV_any (v : Value) (l : VRow) (w : World) (h : RdV w w.heap.size v l) (hl : l.length ≤ 100000) :
    Calls Tryd.prog 68 #[v] w fun e w' => ∃ u, e = .returned u ∧ Own w' w.heap.size 96 4 u l.length (l.flatMap valV) ∧ Below w.heap.size w w' := by
  refine cps fun R HR => ?_
  obtain ⟨A, c, rfl, hr⟩ := h.is
  obtain ⟨i0, hi0, hz0, hz1, hz2⟩ := info_parts val_info
  cases A with
  | none =>
    have hn := hr.nil rfl
    have hx : l = [] := List.eq_nil_of_length_eq_zero hn
    subst hx
    have heq := fun w' => Lib.run_eql_slice_nil (P := Tryd.prog) w' 61 96 none 0 c 0 0 Tryd.underlying61
    go_enter Tryd.func68, Tryd.ntmps68
    go_wp2
    exact HR.out _ _ ⟨_, rfl, Own.nil_ _ _ _ _, Below.refl _ _⟩
  | some ad =>
    have heq := fun w' => Lib.run_eql_slice_nil (P := Tryd.prog) w' 61 96 (some ad) l.length c 0 0 Tryd.underlying61
    go_enter Tryd.func68, Tryd.ntmps68
    go_wp2_with (at_builtin; refine wpList_append_Own _ rfl _ _ _ rfl w.heap.size 96 i0 _ 4 40 Tryd.underlying61 hi0 hz0 hz1 hz2 rfl (by omega) (by omega) (.slice (some ⟨w.heap.size, 0, none⟩) 0 0) 0 [] rfl (Own.made w _ _ _ (Nat.le_refl _)) w.heap.size (some ad) l.length c (l.flatMap valV) rfl (hr.alloc (Nat.le_refl _) _) (valF_one l) (by simp only [maxLen]; omega) (by omega) (by simp) ?_; intro v1 w1 hown1 hg1 hat1)
    refine HR.out _ _ ⟨v1, rfl, by simpa using hown1, ?_⟩
    exact below_grown ((Below.refl w.heap.size w).alloc (Nat.le_refl _) _) hg1 (fun g hg => by simp [Value.ownBlock] at hg; omega) (by simp)
theorem Col.ext_iff' {a b : Col} : a = b ↔ a.name = b.name ∧ a.kind = b.kind ∧ a.null = b.null := by
  cases a; cases b; simp
instance decCol : DecidableEq Col := fun a b => decidable_of_iff _ Col.ext_iff'.symm
def sameC (a b : List Col) : Bool := decide (a = b)
set_option maxHeartbeats 2000000 in
theorem eqCols_any (v1 v2 : Value) (a b : List Col) (w : World) (h1 : RdC w w.heap.size v1 a) (h2 : RdC w w.heap.size v2 b) :
    Calls Tryd.prog 104 #[v1, v2] w fun e w' => e = .returned (.bool (sameC a b)) ∧ Below w.heap.size w w' := by
  refine cps fun R HR => ?_
  have g1 := h1; have g2 := h2
  obtain ⟨A, c, rfl, -⟩ := h1.is
  obtain ⟨A', c', rfl, -⟩ := h2.is
  have hf1 := RdF.few g1
  have hf2 := RdF.few g2
  clear h1 h2
  go_enter Tryd.func104, Tryd.ntmps104
  by_cases hl : a.length = b.length
  · have d : ((a.length : Int) != (b.length : Int)) = false := by simp [hl]
    have HL := Lib.hid hl
    go_wp2
    go_loopw [13] (fun i wr => ∃ k : Nat, k ≤ a.length ∧ i = .int .i64 k ∧ a.take k = b.take k ∧ Below w.heap.size w wr) (fun i _ => a.length - (intOf i).toNat)
    case atStart => exact ⟨0, Nat.zero_le _, rfl, rfl, Below.refl _ _⟩
    case round =>
      obtain ⟨k, hk, rfl, hN, hB⟩ := hrel
      have HN := Lib.hid hN; clear hN
      by_cases hlt : k < a.length
      · have hltb : k < b.length := by omega
        obtain ⟨p, c3, hv, q0, q1, q2⟩ := RdC.at (g1.below hB) hlt
        injection hv with hA _ hcc
        subst hA
        subst hcc
        obtain ⟨p', c4, hv', r0, r1, r2⟩ := RdC.at (g2.below hB) hltb
        injection hv' with hA _ hcc
        subst hA
        subst hcc
        have hs1 : a.take (k + 1) = a.take k ++ [a[k]] := List.take_succ_eq_append_getElem hlt
        have hs2 : b.take (k + 1) = b.take k ++ [b[k]] := List.take_succ_eq_append_getElem hltb
        obtain ⟨x, hx⟩ : ∃ x, x = a[k] := ⟨_, rfl⟩
        obtain ⟨y, hy⟩ : ∃ y, y = b[k] := ⟨_, rfl⟩
        rw [← hx] at q0 q1 q2 hs1
        rw [← hy] at r0 r1 r2 hs2
        obtain ⟨xs, xk, xb⟩ := x
        obtain ⟨ys, yk, yb⟩ := y
        have S1 := Lib.hid hs1; have S2 := Lib.hid hs2
        clear hx hy hs1 hs2 hl
        have dk : decide ((k : Int) < a.length) = true := decide_eq_true (by omega)
        have hltI : (k : Int) < b.length := by omega
        have hne : (⟨xs, xk, xb⟩ : Col) ≠ ⟨ys, yk, yb⟩ → sameC a b = false := fun hne => by
          unfold sameC
          rw [decide_eq_false_iff_not]
          intro hab
          have h1 := S1.out
          have h2 := S2.out
          rw [hab, h2] at h1
          have h3 := HN.out
          rw [hab] at h3
          exact hne (by simpa using h1.symm)
        have HNE := Lib.hid hne
        clear hne
        by_cases e1 : xs = ys
        · by_cases e0 : xk = yk
          · by_cases e3 : xb = yb
            · subst e0 e1 e3
              have HNN := Lib.hid (show a.take (k + 1) = b.take (k + 1) by rw [S1.out, S2.out, HN.out])
              go_wp2
              go_quiet (fail)
              go_wp2
              exact ⟨⟨k + 1, by omega, by go_num, HNN.out, below_drewN hB _⟩, by simp [intOf]; omega⟩
            · subst e0 e1
              have HNO := Lib.hid (HNE.out (fun h => by injection h with _ _ h; exact e3 h))
              have d4 : (xb == yb) = false := by rw [beq_eq_false_iff_ne]; exact e3
              clear e3
              go_wp2
              go_quiet (fail)
              go_wp2
              exact HR.out _ _ ⟨by rw [HNO.out]; try rfl, below_drewN hB _⟩
          · subst e1
            have HNO := Lib.hid (HNE.out (fun h => by injection h with _ h _; exact e0 h))
            have d1 : (xk == yk) = false := by rw [beq_eq_false_iff_ne]; exact e0
            clear e0
            go_wp2
            go_quiet (fail)
            go_wp2
            exact HR.out _ _ ⟨by rw [HNO.out]; try rfl, below_drewN hB _⟩
        · have HNO := Lib.hid (HNE.out (fun h => by injection h with h _ _; exact e1 h))
          have d2 : (xs.toList == ys.toList) = false := by rw [str_eq]; exact decide_eq_false e1
          clear e1
          go_wp2
          go_quiet (fail)
          go_wp2
          exact HR.out _ _ ⟨by rw [HNO.out]; try rfl, below_drewN hB _⟩
      · have HY := Lib.hid (show sameC a b = true by
          unfold sameC
          rw [decide_eq_true_iff]
          have := HN.out
          rw [List.take_of_length_le (by omega), List.take_of_length_le (by omega)] at this
          exact this)
        go_wp2
        exact HR.out _ _ ⟨by rw [HY.out]; try rfl, hB⟩
  · have HNO := Lib.hid (show sameC a b = false by
      unfold sameC
      rw [decide_eq_false_iff_not]
      rintro rfl
      exact hl rfl)
    have d : ((a.length : Int) != (b.length : Int)) = true := by rw [bne_iff_ne]; omega
    clear hl
    go_wp2
    exact HR.out _ _ ⟨by rw [HNO.out]; try rfl, Below.refl _ _⟩
theorem schSame_any (v1 v2 : Value) (a b : List Col) (w : World) (h1 : RdC w w.heap.size v1 a) (h2 : RdC w w.heap.size v2 b) :
    Calls Tryd.prog 67 #[v1, v2] w fun e w' => e = .returned (.bool (sameC a b)) ∧ Below w.heap.size w w' := by
  refine cps fun R HR => ?_
  go_enter Tryd.func67, Tryd.ntmps67
  go_wp2_with fail
  refine (eqCols_any _ _ a b _ h1 h2).mono ?_
  rintro e w1 ⟨rfl, b1⟩
  go_wp2
  exact HR.out _ _ ⟨rfl, b1⟩
def sameW (a b : VRow) : Bool := decide (a = b)
set_option maxHeartbeats 2000000 in
theorem eqRow_any (v1 v2 : Value) (a b : VRow) (w : World) (h1 : RdV w w.heap.size v1 a) (h2 : RdV w w.heap.size v2 b) :
    Calls Tryd.prog 69 #[v1, v2, .func (.func 70) #[] #[]] w fun e w' => e = .returned (.bool (sameW a b)) ∧ Below w.heap.size w w' := by
  refine cps fun R HR => ?_
  have g1 := h1; have g2 := h2
  obtain ⟨A, c, rfl, -⟩ := h1.is
  obtain ⟨A', c', rfl, -⟩ := h2.is
  have hf1 := RdF.few g1
  have hf2 := RdF.few g2
  clear h1 h2
  go_enter Tryd.func69, Tryd.ntmps69
  by_cases hl : a.length = b.length
  · have d : ((a.length : Int) != (b.length : Int)) = false := by simp [hl]
    have HL := Lib.hid hl
    go_wp2
    go_loopw [17] (fun i wr => ∃ k : Nat, k ≤ a.length ∧ i = .int .i64 k ∧ a.take k = b.take k ∧ Below w.heap.size w wr) (fun i _ => a.length - (intOf i).toNat)
    case atStart => exact ⟨0, Nat.zero_le _, rfl, rfl, Below.refl _ _⟩
    case round =>
      obtain ⟨k, hk, rfl, hN, hB⟩ := hrel
      have HN := Lib.hid hN; clear hN
      by_cases hlt : k < a.length
      · have hltb : k < b.length := by omega
        obtain ⟨p, c3, hv, q0, q1, q2, q3⟩ := RdV.at (g1.below hB) hlt
        injection hv with hA _ hcc
        subst hA
        subst hcc
        obtain ⟨p', c4, hv', r0, r1, r2, r3⟩ := RdV.at (g2.below hB) hltb
        injection hv' with hA _ hcc
        subst hA
        subst hcc
        have hs1 : a.take (k + 1) = a.take k ++ [a[k]] := List.take_succ_eq_append_getElem hlt
        have hs2 : b.take (k + 1) = b.take k ++ [b[k]] := List.take_succ_eq_append_getElem hltb
        obtain ⟨x, hx⟩ : ∃ x, x = a[k] := ⟨_, rfl⟩
        obtain ⟨y, hy⟩ : ∃ y, y = b[k] := ⟨_, rfl⟩
        rw [← hx] at q0 q1 q2 q3 hs1
        rw [← hy] at r0 r1 r2 r3 hs2
        obtain ⟨xk, xs, xn, xb⟩ := x
        obtain ⟨yk, ys, yn, yb⟩ := y
        have S1 := Lib.hid hs1; have S2 := Lib.hid hs2
        clear hx hy hs1 hs2 hl
        have dk : decide ((k : Int) < a.length) = true := decide_eq_true (by omega)
        have hltI : (k : Int) < b.length := by omega
        have hne : (⟨xk, xs, xn, xb⟩ : Val) ≠ ⟨yk, ys, yn, yb⟩ → sameW a b = false := fun hne => by
          unfold sameW
          rw [decide_eq_false_iff_not]
          intro hab
          have h1 := S1.out
          have h2 := S2.out
          rw [hab, h2] at h1
          have h3 := HN.out
          rw [hab] at h3
          exact hne (by simpa using h1.symm)
        have heq : (⟨xk, xs, xn, xb⟩ : Val) = ⟨yk, ys, yn, yb⟩ → a.take (k + 1) = b.take (k + 1) := fun he => by rw [S1.out, S2.out, HN.out, he]
        have HNE := Lib.hid hne; have HEQ := Lib.hid heq
        have z1 := World.block_lt_of_cell? wr _ q0
        have z2 := World.block_lt_of_cell? wr _ r0
        clear hne heq
        obtain ⟨ts, hts⟩ : ∃ ts, ts = decide ((⟨xk, xs, xn, xb⟩ : Val) = ⟨yk, ys, yn, yb⟩) := ⟨_, rfl⟩
        have HTS := Lib.hid hts
        clear hts
        go_wp2_with fail
        refine (dsame_at xk yk xn yn xs ys xb yb _).mono ?_
        rintro e w3 ⟨rfl, b3⟩
        rw [← HTS.out]
        have hB3 : Below w.heap.size w w3 := by
          have q := (hB.alloc hB.size (.cells #[.int .i64 xk, .string xs, .int .i64 xn, .bool xb] 96)).alloc (by have := hB.size; simp; omega) (.cells #[.int .i64 yk, .string ys, .int .i64 yn, .bool yb] 96)
          exact q.trans (b3.mono q.size)
        cases ts
        · have HNO := Lib.hid (HNE.out (of_decide_eq_false HTS.out.symm))
          go_wp2
          exact HR.out _ _ ⟨by rw [HNO.out]; try rfl, hB3⟩
        · have HNN := Lib.hid (HEQ.out (of_decide_eq_true HTS.out.symm))
          go_wp2
          exact ⟨⟨k + 1, by omega, by go_num, HNN.out, hB3⟩, by simp [intOf]; omega⟩
      · have HY := Lib.hid (show sameW a b = true by
          unfold sameW
          rw [decide_eq_true_iff]
          have := HN.out
          rw [List.take_of_length_le (by omega), List.take_of_length_le (by omega)] at this
          exact this)
        go_wp2
        exact HR.out _ _ ⟨by rw [HY.out]; try rfl, hB⟩
  · have HNO := Lib.hid (show sameW a b = false by
      unfold sameW
      rw [decide_eq_false_iff_not]
      rintro rfl
      exact hl rfl)
    have d : ((a.length : Int) != (b.length : Int)) = true := by rw [bne_iff_ne]; omega
    clear hl
    go_wp2
    exact HR.out _ _ ⟨by rw [HNO.out]; try rfl, Below.refl _ _⟩
end Go.Proofs.YtgiemhooeoakmaaDoor

namespace Go.Proofs.YtgiemhooeoakmaaDoor
open Go.RowKit Go.ChangeShapes Go.WideShapes
set_option linter.unusedVariables false
set_option linter.unusedSimpArgs false

structure Chg where
  kind : Int
  old : VRow
  new : VRow
theorem Chg.ext_iff' {a b : Chg} : a = b ↔ a.kind = b.kind ∧ a.old = b.old ∧ a.new = b.new := by
  cases a; cases b; simp
instance decChg : DecidableEq Chg := fun a b => decidable_of_iff _ Chg.ext_iff'.symm
/-- A change, as its cells are. -/
structure ChV where
  kind : Int
  o : Value
  n : Value
def chV (u : ChV) : List Value := [.int .i64 u.kind, u.o, u.n]
theorem chV_len (u : ChV) : (chV u).length = 3 := rfl
section
variable {g : Val → List Value} {w w' : World} {B B' : Nat} {v v' : Value} {t : List Chg}
/-- How a change is read. -/
structure ChR (g : Val → List Value) (w : World) (B : Nat) (u : ChV) (c : Chg) : Prop where
  kind : u.kind = c.kind
  old : RdF g 4 w B u.o c.old
  new : RdF g 4 w B u.n c.new
structure RdCh (g : Val → List Value) (w : World) (B : Nat) (v : Value) (t : List Chg) : Prop where
  is : ∃ us, RdF chV 3 w B v us ∧ Each (ChR g w B) us t
theorem ChR.below {u : ChV} {c : Chg} (h : ChR g w B u c) (hb : Below B w w') : ChR g w' B u c := ⟨h.kind, h.old.below hb, h.new.below hb⟩
theorem ChR.more {u : ChV} {c : Chg} (h : ChR g w B u c) (hb : B ≤ B') : ChR g w B' u c := ⟨h.kind, h.old.more hb, h.new.more hb⟩
theorem RdCh.below (h : RdCh g w B v t) (hb : Below B w w') : RdCh g w' B v t := by
  obtain ⟨us, h1, h2⟩ := h.is
  exact ⟨us, h1.below hb, h2.imp fun _ _ h => h.below hb⟩
theorem RdCh.more (h : RdCh g w B v t) (hb : B ≤ B') : RdCh g w B' v t := by
  obtain ⟨us, h1, h2⟩ := h.is
  exact ⟨us, h1.more hb, h2.imp fun _ _ h => h.more hb⟩
theorem RdCh.next (h : RdCh g w w.heap.size v t) (hb : Below w.heap.size w w') : RdCh g w' w'.heap.size v t := (h.below hb).more hb.size
theorem RdCh.form (h : RdCh g w B v t) : ∃ A c, v = .slice A t.length c := by
  obtain ⟨us, h1, h2⟩ := h.is
  obtain ⟨A, c, h3, h4⟩ := h1.is
  exact ⟨A, c, by rw [h3, h2.len]⟩
theorem RdCh.few (h : RdCh g w B v t) : t.length ≤ 140737488355328 := by
  obtain ⟨us, h1, h2⟩ := h.is
  have := h1.few
  rw [h2.len] at this
  exact this
/-- What a walk reads of change k. -/
theorem RdCh.at (h : RdCh g w B v t) {k : Nat} (hk : k < t.length) : ∃ a c uo un, v = .slice (some a) t.length c ∧ w.cell? (a.add (k * 3)) = some (.int .i64 t[k].kind) ∧
    w.cell? ⟨(a.add (k * 3)).block, (a.add (k * 3)).off + 1, none⟩ = some uo ∧ w.cell? ⟨(a.add (k * 3)).block, (a.add (k * 3)).off + 2, none⟩ = some un ∧ RdF g 4 w B uo t[k].old ∧ RdF g 4 w B un t[k].new := by
  obtain ⟨us, h1, h2⟩ := h.is
  have hku : k < us.length := by rw [h2.len]; exact hk
  obtain ⟨a, c, rfl, q0⟩ := RdF.at0 h1 chV_len (by omega) hku
  have q1 := RdF.atj h1 chV_len hku 0 rfl
  have q2 := RdF.atj h1 chV_len hku 1 rfl
  have hr := h2.at_ k _ _ (List.getElem?_eq_getElem hku) (List.getElem?_eq_getElem hk)
  exact ⟨a, c, us[k].o, us[k].n, by rw [h2.len], by rw [q0 _ rfl, hr.kind], q1, q2, hr.old, hr.new⟩
theorem RdCh.nil (w : World) (B : Nat) : RdCh g w B (.slice none 0 0) [] := ⟨[], RdF.nil _ _, Each.nil⟩
/-- A list of changes of the call's own: its rows lie elsewhere than itself. -/
structure ChRX (g : Val → List Value) (w : World) (row : Option Nat) (u : ChV) (c : Chg) : Prop where
  kind : u.kind = c.kind
  old : RdX g 4 w row u.o c.old
  new : RdX g 4 w row u.n c.new
structure ChX (g : Val → List Value) (e : TypeId) (w : World) (base : Nat) (v : Value) (t : List Chg) : Prop where
  is : ∃ us : List ChV, Own w base e 3 v t.length (us.flatMap chV) ∧ Each (ChRX g w v.ownBlock) us t
variable {e : TypeId} {base : Nat}
theorem ChX.nil (w : World) (base : Nat) : ChX g e w base (.slice none 0 0) [] := ⟨[], Own.nil_ _ _ _ _, Each.nil⟩
theorem ChX.keep (h : ChX g e w base v t) (hb : Below w.heap.size w w') : ChX g e w' base v t := by
  obtain ⟨us, h1, h2⟩ := h.is
  exact ⟨us, h1.below hb (Nat.le_refl _), h2.imp fun _ _ h => ⟨h.kind, h.old.keep hb, h.new.keep hb⟩⟩
theorem ChX.mono {base' : Nat} (h : ChX g e w base v t) (hb : base' ≤ base) : ChX g e w base' v t := by
  obtain ⟨us, h1, h2⟩ := h.is
  exact ⟨us, h1.mono hb, h2⟩
theorem ChX.lt (h : ChX g e w base v t) : ∀ k, v.ownBlock = some k → base ≤ k ∧ k < w.heap.size := by
  obtain ⟨us, h1, h2⟩ := h.is
  exact h1.lt
theorem ChX.push {us : List ChV} {u : ChV} {c : Chg} (h1 : Own w' base e 3 v' (t.length + 1) (us.flatMap chV ++ chV u)) (h2 : Each (ChRX g w v.ownBlock) us t) (hu : ChRX g w v.ownBlock u c)
    (hg : w.grownBy w' v.ownBlock) (hr : v'.ownBlock = v.ownBlock ∨ ∃ g, v'.ownBlock = some g ∧ w.heap.size ≤ g) : ChX g e w' base v' (t ++ [c]) :=
  ⟨us ++ [u], by rw [List.length_append, List.flatMap_append]; simpa using h1, (h2.snoc hu).imp fun _ _ h => ⟨h.kind, h.old.turn hg hr, h.new.turn hg hr⟩⟩
theorem ChX.rd (h : ChX g e w base v t) : RdCh g w w.heap.size v t := by
  obtain ⟨us, h1, h2⟩ := h.is
  exact ⟨us, RdF.of_own chV_len (by omega) h1, h2.imp fun _ _ h => ⟨h.kind, h.old.rd, h.new.rd⟩⟩
end
theorem chg_info : (Tryd.prog.info? 101).map (fun i => (i.zero, i.size, i.bytes)) = some (some (.agg #[.int .i64 0, .slice none 0 0, .slice none 0 0]), 3, 56) := by kernel_rfl
theorem rchg_info : (Tryd.prog.info? 123).map (fun i => (i.zero, i.size, i.bytes)) = some (some (.agg #[.int .i64 0, .slice none 0 0, .slice none 0 0]), 3, 56) := by kernel_rfl
/-- Append of one made element in a drawn region. -/
theorem step_pushF {P : Program} {w : World} {ops : Array Oper} {o : Oper} {a : Act} {K : Act → World → Prop} {Q : Exit → Act → World → Prop} {E : Prop} (hgd : o.guard = none) (s x : Operand) (t : TypeId)
    (ho : o.op = .call { callee := .builtin .append, args := #[s, x], argTypes := #[t, t] })
    (base : Nat) (e : TypeId) (i : TypeInfo) (z : Value) (size bytes : Nat) (ht : P.underlying t = some (.slice e)) (hi : P.info? e = some i) (hz : i.zero = some z)
    (hsize : i.size = size) (hby : i.bytes = bytes) (hzs : z.cells.size = size) (hsp : 0 < size) (hbp : 0 < bytes)
    (v : Value) (n : Nat) (xs : List Value) (cs : Array Value) (hcs : cs.size = size) (hs : a.eval s = v) (hown : Own w base e size v n xs) (hx : a.eval x = .slice (some ⟨w.heap.size, 0, none⟩) 1 1)
    (h1 : ∀ u ∈ cs.toList, u.oneCell' = true) (hbytes : (n + 1) * bytes ≤ 140737488355328) (hbase : base ≤ w.heap.size)
    (h : ∀ v' w', Own w' base e size v' (n + 1) (xs ++ cs.toList) → w.grownBy w' v.ownBlock → (v'.ownBlock = v.ownBlock ∨ ∃ g, v'.ownBlock = some g ∧ w.heap.size ≤ g) → K (a.put o.dst v') w') :
    if Region.wanted o (yielded ops a.tmps) = true then Oper.wp P o a (w.alloc (.cells cs e)) K Q else E := by
  have hnb : n + 1 ≤ maxLen := by
    have := Nat.le_trans (Nat.le_mul_of_pos_right (n + 1) hbp) hbytes
    unfold maxLen
    omega
  refine step_append_Own (w := w.alloc (.cells cs e)) hgd s x t ho base e i z size bytes ht hi hz hsize hby hzs hsp hbp v n xs hs (hown.below ((Below.refl w.heap.size w).alloc (Nat.le_refl _) _) (Nat.le_refl _)) _ _ _ _ cs.toList hx
    (Sl.newrowF w cs e 1 size (by omega) (by omega)) h1 hnb hbytes (by simp; omega) ?_
  intro v' w' h2 h3 h4
  refine h v' w' h2 ⟨h3.os, h3.tape, h3.output, Nat.le_trans (by simp) h3.size, fun k hk hne => ?_⟩ ?_
  · rw [h3.block k (by simp; omega) hne]
    exact Below.heap_alloc w _ k hk
  · rcases h4 with h4 | h4
    · exact .inl h4
    · exact .inr ⟨_, h4, by simp⟩
end Go.Proofs.YtgiemhooeoakmaaDoor

namespace Go.Proofs.YtgiemhooeoakmaaDoor
open Go.RowKit Go.ChangeShapes Go.WideShapes
set_option linter.unusedVariables false
set_option linter.unusedSimpArgs false

theorem rowF_len {n : Nat} {ps : List Int} {t : VTab} : ∀ {rest : VTab} {j : Nat}, (rowF n ps t j rest).2 = 0 → ∀ x ∈ rest, x.length = n
  | [], _, _, x, hx => by cases hx
  | r :: rest, j, h, x, hx => by
    rw [rowF] at h
    split at h
    · cases h
    · rename_i hl
      split at h
      · cases h
      · split at h
        · cases h
        · rcases List.mem_cons.1 hx with rfl | hx
          · simpa using hl
          · exact rowF_len h x hx
theorem dchk_ok {l : List Col} {keys : Row} {t : VTab} (h : (dchk l keys t).2 = 0) : (plC l keys).2 = 0 ∧ (rowF l.length (numsF (namesC l) keys) t 0 t).2 = 0 := by
  unfold dchk at h
  split at h
  · rename_i h1; exact absurd h h1
  · rename_i h1; exact ⟨by simpa using h1, h⟩
/-- The changes of one row of the first table; of the second one. -/
def chA (ps : List Int) (tb : VTab) (r : VRow) : List Chg := if findP ps r tb < 0 then [⟨1, r, []⟩] else if sameW r (tb.getD (findP ps r tb).toNat []) = true then [] else [⟨2, r, tb.getD (findP ps r tb).toNat []⟩]
def chB (ps : List Int) (ta : VTab) (r : VRow) : List Chg := if findP ps r ta < 0 then [⟨3, [], r⟩] else []
def diffF (ps : List Int) (ta tb : VTab) : List Chg := ta.flatMap (chA ps tb) ++ tb.flatMap (chB ps ta)
def diffE (la lb : List Col) (keys : Row) (ta tb : VTab) : Nat := if sameC la lb = false then 21 else if (dchk la keys ta).2 ≠ 0 then (dchk la keys ta).2 else (dchk lb keys tb).2
def diffL (la lb : List Col) (keys : Row) (ta tb : VTab) : List Chg := if diffE la lb keys ta tb = 0 then diffF (numsF (namesC la) keys) ta tb else []
theorem chA_len (ps : List Int) (tb : VTab) (r : VRow) : (chA ps tb r).length ≤ 1 := by
  unfold chA
  split
  · exact Nat.le_refl _
  · split <;> simp
theorem chB_len (ps : List Int) (ta : VTab) (r : VRow) : (chB ps ta r).length ≤ 1 := by
  unfold chB
  split <;> simp
theorem flat_le1 {α β : Type} (f : α → List β) (hf : ∀ x, (f x).length ≤ 1) : ∀ l : List α, (l.flatMap f).length ≤ l.length
  | [] => Nat.le_refl _
  | x :: r => by
    rw [List.flatMap_cons, List.length_append, List.length_cons]
    have := hf x
    have := flat_le1 f hf r
    omega
theorem flat_snoc {α β : Type} (f : α → List β) (l : List α) {k : Nat} (hk : k < l.length) : (l.take (k + 1)).flatMap f = (l.take k).flatMap f ++ f l[k] := by
  rw [List.take_succ_eq_append_getElem hk, List.flatMap_append]
  simp
theorem keepB {W ws w' : World} (hb : Below ws.heap.size ws w') (h : Below W.heap.size W ws) : Below W.heap.size W w' := h.trans (hb.mono h.size)
theorem ch_one (k : Int) (A B : Option Addr) (n m c d : Nat) : ∀ u ∈ (#[.int .i64 k, .slice A n c, .slice B m d] : Array Value).toList, u.oneCell' = true := by
  intro u hu
  simp at hu
  rcases hu with rfl | rfl | rfl <;> rfl
set_option maxHeartbeats 8000000 in
set_option maxRecDepth 100000 in
theorem ddiff_any (v1 u1 v2 u2 z : Value) (la lb : List Col) (ta tb : VTab) (keys : Row) (w : World) (h1 : RdC w w.heap.size v1 la) (h2 : RdVT w w.heap.size u1 ta) (h3 : RdC w w.heap.size v2 lb) (h4 : RdVT w w.heap.size u2 tb) (hu : RdS w w.heap.size z keys)
    (hla : la.length ≤ 100000) (hta : ta.length ≤ 100000) (hlb : lb.length ≤ 100000) (htb : tb.length ≤ 100000) (hk : keys.length ≤ 100000) (hca : ∀ c ∈ la, c.name.size ≤ 100000) (hcb : ∀ c ∈ lb, c.name.size ≤ 100000) (hT : Tab w) :
    Calls Tryd.prog 19 #[.agg #[v1, u1], .agg #[v2, u2], z] w fun e w' => (∃ o, e = .returned (.tuple #[o, .int .i64 (diffE la lb keys ta tb)]) ∧ RdCh valV w' w'.heap.size o (diffL la lb keys ta tb)) ∧ Below w.heap.size w w' := by
  refine cps fun R HR => ?_
  have g1 := h1; have g2 := h2; have g3 := h3; have g4 := h4; have hu0 := hu
  obtain ⟨A1, c1, rfl, -⟩ := h1.is
  obtain ⟨A2, c2, vs, rfl, -, -⟩ := h2.is
  obtain ⟨A3, c3, rfl, -⟩ := h3.is
  obtain ⟨A4, c4, vs', rfl, -, -⟩ := h4.is
  obtain ⟨A5, c5, rfl, -⟩ := hu.is
  have hf2 := g2.few
  have hf4 := g4.few
  clear h1 h2 h3 h4 hu
  obtain ⟨E, hE⟩ : ∃ E, E = diffE la lb keys ta tb := ⟨_, rfl⟩
  obtain ⟨D, hD⟩ : ∃ D, D = diffL la lb keys ta tb := ⟨_, rfl⟩
  rw [← hE, ← hD] at HR
  unfold diffL at hD
  rw [← hE] at hD
  unfold diffE at hE
  obtain ⟨w0, hw0⟩ : ∃ w0, w0 = (w.alloc (.cells #[.slice A1 la.length c1, .slice A2 ta.length c2] 25)).alloc (.cells #[.slice A3 lb.length c3, .slice A4 tb.length c4] 25) := ⟨_, rfl⟩
  have bw0 : Below w.heap.size w w0 := by rw [hw0]; exact ((Below.refl _ _).alloc (Nat.le_refl _) _).alloc (by simp) _
  have X := (Box.new w 25 #[.slice A1 la.length c1, .slice A2 ta.length c2]).alloc (.cells #[.slice A3 lb.length c3, .slice A4 tb.length c4] 25)
  have Z := Box.new (w.alloc (.cells #[.slice A1 la.length c1, .slice A2 ta.length c2] 25)) 25 #[.slice A3 lb.length c3, .slice A4 tb.length c4]
  rw [← hw0] at X Z
  rw [show (w.alloc (.cells #[.slice A1 la.length c1, .slice A2 ta.length c2] 25)).heap.size = w.heap.size + 1 by simp] at Z
  have cells : ∀ w' : World, Below w0.heap.size w0 w' → w'.cell? ⟨w.heap.size, 0, none⟩ = some (.slice A1 la.length c1) ∧ w'.cell? ⟨w.heap.size, 1, none⟩ = some (.slice A2 ta.length c2) ∧ w'.cell? ⟨w.heap.size + 1, 0, none⟩ = some (.slice A3 lb.length c3) ∧ w'.cell? ⟨w.heap.size + 1, 1, none⟩ = some (.slice A4 tb.length c4) := fun w' hb => by
    have X2 := X.below hb X.lt
    have Z2 := Z.below hb Z.lt
    exact ⟨X2.cell 0, X2.cell 1, Z2.cell 0, Z2.cell 1⟩
  obtain ⟨x0, x1, z0, z1⟩ := cells w0 (Below.refl _ _)
  have CELLS := Lib.hid cells; have HW0 := Lib.hid hw0; have HB0 := Lib.hid bw0; have HE := Lib.hid hE; have HD := Lib.hid hD
  have HCA := Lib.hid hca; have HCB := Lib.hid hcb; have HT := Lib.hid hT
  clear X Z hw0 bw0 hE hD cells hca hcb hT
  obtain ⟨ts, hts⟩ : ∃ ts, ts = sameC la lb := ⟨_, rfl⟩
  have HTS := Lib.hid hts
  clear hts
  go_enter Tryd.func19, Tryd.ntmps19
  go_wp2_with fail
  rw [← HW0.out]
  refine (schSame_any _ _ la lb _ (RdF.next g1 HB0.out) (RdF.next g3 HB0.out)).mono ?_
  rintro e w1 ⟨rfl, b1⟩
  rw [← HTS.out]
  have bw1 := HB0.out.trans (b1.mono HB0.out.size)
  clear x0 x1 z0 z1
  obtain ⟨x0, x1, z0, z1⟩ := CELLS.out w1 b1
  cases ts
  · have he := HE.out
    rw [← HTS.out, if_pos rfl] at he
    subst he
    have hd := HD.out
    rw [if_neg (by simp)] at hd
    subst hd
    go_wp2
    exact HR.out _ _ ⟨⟨_, rfl, RdCh.nil _ _⟩, bw1⟩
  · have he := HE.out
    rw [← HTS.out, if_neg (by simp)] at he
    have HE2 := Lib.hid he
    have hlab : la = lb := of_decide_eq_true HTS.out.symm
    have HLAB := Lib.hid hlab
    clear he hlab
    obtain ⟨w2, hw2⟩ : ∃ w2, w2 = w1.alloc (.cells #[.slice A1 la.length c1, .slice A2 ta.length c2, .slice A3 lb.length c3, .slice A4 tb.length c4] 25) := ⟨_, rfl⟩
    have b12 : Below w1.heap.size w1 w2 := by rw [hw2]; exact (Below.refl _ _).alloc (Nat.le_refl _) _
    have Y := Box.new w1 25 #[.slice A1 la.length c1, .slice A2 ta.length c2, .slice A3 lb.length c3, .slice A4 tb.length c4]
    rw [← hw2] at Y
    have HY := Lib.hid Y; have HW2 := Lib.hid hw2; have HB12 := Lib.hid b12
    have bw2 := bw1.trans (b12.mono bw1.size)
    have b02 := b1.trans (b12.mono b1.size)
    clear Y hw2
    go_wp2
    rw [← HW2.out]
    go_loopw [31] (fun i wr => ∃ k : Nat, k ≤ 2 ∧ i = .int .i64 k ∧ (1 ≤ k → (dchk la keys ta).2 = 0) ∧ (2 ≤ k → (dchk lb keys tb).2 = 0) ∧ Below w2.heap.size w2 wr) (fun i _ => 2 - (intOf i).toNat)
    case atStart => exact ⟨0, Nat.zero_le _, rfl, (fun h => by omega), (fun h => by omega), Below.refl _ _⟩
    case round =>
      obtain ⟨k, hk2, rfl, hK1, hK2, hBr⟩ := hrel
      have HK1 := Lib.hid hK1; have HK2 := Lib.hid hK2
      have bwr := bw2.trans (hBr.mono bw2.size)
      clear hK1 hK2 x0 x1 z0 z1
      have Y2 := HY.out.below hBr HY.out.lt
      have y0 := Y2.cell 0
      have y1 := Y2.cell 1
      have y2 := Y2.cell 2
      have y3 := Y2.cell 3
      simp at y0 y1 y2 y3
      clear Y2
      rcases (by omega : k = 0 ∨ k = 1 ∨ k = 2) with rfl | rfl | rfl
      · have bA : Below wr.heap.size wr (wr.alloc (.cells #[.slice A1 la.length c1, .slice A2 ta.length c2] 25)) := (Below.refl _ _).alloc (Nat.le_refl _) _
        have bA2 := bwr.trans (bA.mono bwr.size)
        have hBr2 := hBr.trans (bA.mono hBr.size)
        have p1 := RdF.next g1 bA2
        have p2 := RdE.next (RdF.stays valV 4) g2 bA2
        have p5 := hu0.next bA2
        have p6 := HT.out.below bA2
        go_wp2_with fail
        refine (dcheck_any _ _ _ la ta keys _ p1 p2 p5 hla hta hk HCA.out p6).mono ?_
        rintro e w3 ⟨rfl, b3⟩
        have bw3 := bA2.trans (b3.mono bA2.size)
        have hB3 := hBr2.trans (b3.mono hBr2.size)
        obtain ⟨dc, hdc⟩ : ∃ dc, dc = dchk la keys ta := ⟨_, rfl⟩
        rw [← hdc]
        have HDC := Lib.hid hdc
        clear hdc p1 p2 p5 p6 bA
        obtain ⟨dn, de⟩ := dc
        by_cases h0 : de = 0
        · subst h0
          have hk1 : (dchk la keys ta).2 = 0 := by rw [← HDC.out]
          have K1 := Lib.hid hk1
          clear hk1
          go_wp2
          exact ⟨⟨1, by omega, by go_num, fun _ => K1.out, (fun h => by omega), hB3⟩, by simp [intOf]⟩
        · have dne : ((de : Int) != 0) = true := by rw [bne_iff_ne]; omega
          have he := HE2.out
          rw [← HDC.out, if_pos (by simpa using h0)] at he
          subst he
          have hd := HD.out
          rw [if_neg (by simpa using h0)] at hd
          subst hd
          clear h0
          go_wp2
          exact HR.out _ _ ⟨⟨_, rfl, RdCh.nil _ _⟩, bw3⟩
      · have bA : Below wr.heap.size wr (wr.alloc (.cells #[.slice A3 lb.length c3, .slice A4 tb.length c4] 25)) := (Below.refl _ _).alloc (Nat.le_refl _) _
        have bA2 := bwr.trans (bA.mono bwr.size)
        have hBr2 := hBr.trans (bA.mono hBr.size)
        have p1 := RdF.next g3 bA2
        have p2 := RdE.next (RdF.stays valV 4) g4 bA2
        have p5 := hu0.next bA2
        have p6 := HT.out.below bA2
        have hk1 := HK1.out (by omega)
        have K1 := Lib.hid hk1
        clear hk1
        go_wp2_with fail
        refine (dcheck_any _ _ _ lb tb keys _ p1 p2 p5 hlb htb hk HCB.out p6).mono ?_
        rintro e w3 ⟨rfl, b3⟩
        have bw3 := bA2.trans (b3.mono bA2.size)
        have hB3 := hBr2.trans (b3.mono hBr2.size)
        obtain ⟨dc, hdc⟩ : ∃ dc, dc = dchk lb keys tb := ⟨_, rfl⟩
        rw [← hdc]
        have HDC := Lib.hid hdc
        clear hdc p1 p2 p5 p6 bA
        obtain ⟨dn, de⟩ := dc
        by_cases h0 : de = 0
        · subst h0
          have hk2 : (dchk lb keys tb).2 = 0 := by rw [← HDC.out]
          have K2 := Lib.hid hk2
          clear hk2
          go_wp2
          exact ⟨⟨2, by omega, by go_num, fun _ => K1.out, fun _ => K2.out, hB3⟩, by simp [intOf]⟩
        · have dne : ((de : Int) != 0) = true := by rw [bne_iff_ne]; omega
          have he := HE2.out
          rw [if_neg (by rw [K1.out]; simp), ← HDC.out] at he
          subst he
          have hd := HD.out
          rw [if_neg (by simpa using h0)] at hd
          subst hd
          clear h0
          go_wp2
          exact HR.out _ _ ⟨⟨_, rfl, RdCh.nil _ _⟩, bw3⟩
      · have hA0 := HK1.out (by omega)
        have hB0 := HK2.out (by omega)
        have he := HE2.out
        rw [if_neg (by rw [hA0]; simp), hB0] at he
        subst he
        have hd := HD.out
        rw [if_pos rfl] at hd
        have HD2 := Lib.hid hd
        obtain ⟨hpa, hra⟩ := dchk_ok hA0
        obtain ⟨hpb, hrb⟩ := dchk_ok hB0
        have HPA := Lib.hid hpa; have HRA := Lib.hid (rowF_len hra); have HRB := Lib.hid (rowF_len hrb)
        have b0r := b02.trans (hBr.mono b02.size)
        obtain ⟨x0, x1, z0, z1⟩ := CELLS.out wr b0r
        obtain ⟨w3, rfl⟩ : ∃ w3 : World, w3 = wr := ⟨_, rfl⟩
        clear hA0 hB0 hd hpa hra hpb hrb y0 y1 y2 y3
        go_wp2_with fail
        refine (places_any _ _ la keys _ (RdF.next g1 bwr) (hu0.next bwr) hla hk HCA.out (HT.out.below bwr)).mono ?_
        rintro e w4 ⟨o, rfl, ho, b4⟩
        have hplo : plO la keys = numsF (namesC la) keys := by unfold plO; rw [if_pos HPA.out]
        rw [hplo] at ho
        have hps := plC_keys HPA.out
        obtain ⟨ps, hpd⟩ : ∃ ps, ps = numsF (namesC la) keys := ⟨_, rfl⟩
        have hd2 := HD2.out
        rw [← hpd] at ho hps hd2
        have hri := RdI.of_own ho
        obtain ⟨oA, oc, rfl, -⟩ := hri.is
        have HRI := Lib.hid hri; have HPS := Lib.hid hps; have HD3 := Lib.hid hd2
        have bw4 := bwr.trans (b4.mono bwr.size)
        have b04 := b0r.trans (b4.mono b0r.size)
        clear ho hplo hpd hd2 hri hps x0 x1 z0 z1
        obtain ⟨x0, x1, z0, z1⟩ := CELLS.out w4 b04
        obtain ⟨i0, hi0, hz0, hz1, hz2⟩ := info_parts chg_info
        obtain ⟨pc, hpc⟩ : ∃ pc, pc = (plC la keys).1 := ⟨_, rfl⟩
        obtain ⟨pe, hpe⟩ : ∃ pe, pe = (plC la keys).2 := ⟨_, rfl⟩
        rw [← hpc, ← hpe]
        clear hpc hpe
        go_wp2
        go_loopw [15, 56] (fun d i wr => ∃ k : Nat, k ≤ ta.length ∧ i = .int .i64 k ∧ ChX valV 101 wr w4.heap.size d ((ta.take k).flatMap (chA ps tb)) ∧ Below w4.heap.size w4 wr) (fun _ i _ => ta.length - (intOf i).toNat)
        case atStart => exact ⟨0, Nat.zero_le _, rfl, ChX.nil _ _, Below.refl _ _⟩
        case round =>
          obtain ⟨k, hk3, rfl, hch, hBr4⟩ := hrel
          have bwk := bw4.trans (hBr4.mono bw4.size)
          have b0k := b04.trans (hBr4.mono b04.size)
          clear x0 x1 z0 z1
          obtain ⟨x0, x1, z0, z1⟩ := CELLS.out wr b0k
          by_cases hlt : k < ta.length
          · have dk : decide ((k : Int) < ta.length) = true := decide_eq_true (by omega)
            obtain ⟨p, c6, vr, hv, hcrw, hrdw⟩ := g2.at hlt
            have hcr := ((bwk.cell (World.block_lt_of_cell? w _ hcrw))).trans hcrw
            have hrd := RdF.next hrdw bwk
            clear hcrw
            injection hv with hAA hln hcc
            subst hAA
            subst hcc
            clear hln
            have hs1 := flat_snoc (chA ps tb) ta hlt
            have hlr := HRA.out _ (List.getElem_mem hlt)
            have hcnt := flat_le1 (chA ps tb) (chA_len ps tb) (ta.take k)
            rw [List.length_take] at hcnt
            obtain ⟨r, hr⟩ : ∃ r, r = ta[k] := ⟨_, rfl⟩
            rw [← hr] at hrd hs1 hlr hrdw
            obtain ⟨L, hL⟩ : ∃ L, L = (ta.take k).flatMap (chA ps tb) := ⟨_, rfl⟩
            rw [← hL] at hs1 hcnt hch
            have S1 := Lib.hid hs1; have HLR := Lib.hid hlr
            clear hr hs1 hlr hL
            have hrd0 := hrd
            obtain ⟨rA, rc, rfl, -⟩ := hrd.is
            have hrl5 : r.length ≤ 100000 := by rw [HLR.out]; exact hla
            clear hrd
            go_wp2_with fail
            refine (dfind_any _ _ _ tb r ps _ (RdE.next (RdF.stays valV 4) g4 bwk) hrd0 (HRI.out.next hBr4) (fun x hx q hq => ⟨(HPS.out q hq).1, by rw [HRB.out x hx, ← HLAB.out]; exact (HPS.out q hq).2, by rw [HLR.out]; exact (HPS.out q hq).2⟩)).mono ?_
            rintro e w5 ⟨rfl, b5⟩
            obtain ⟨fp, hfp⟩ : ∃ fp, fp = findP ps r tb := ⟨_, rfl⟩
            rw [← hfp]
            have HFP := Lib.hid hfp
            have hB5 := hBr4.trans (b5.mono hBr4.size)
            have bw5 := bwk.trans (b5.mono bwk.size)
            have b05 := b0k.trans (b5.mono b0k.size)
            have hr5 := RdF.next hrd0 b5
            have hch5 := hch.keep b5
            clear hfp x0 x1 z0 z1 hch
            by_cases hneg : fp < 0
            · have hng : ¬ 0 ≤ fp := by omega
              go_wp2_with fail
              refine (cloneV_any _ r _ hr5 hrl5).mono ?_
              rintro e w6 ⟨u, rfl, hou, b6⟩
              have hru := RdF.of_own valV_len (by omega) hou
              obtain ⟨uA, uc, rfl, -⟩ := hru.is
              have hB6 := hB5.trans (b6.mono hB5.size)
              obtain ⟨us, how, hea⟩ := (hch5.keep b6).is
              have hlt5 := hch5.lt
              have hnew : chA ps tb r = [⟨1, r, []⟩] := by unfold chA; rw [← HFP.out, if_pos hneg]
              have HNEW := Lib.hid hnew; have HEA := Lib.hid hea; have HOU := Lib.hid hou; have HL5 := Lib.hid hlt5; have HOW := Lib.hid how
              clear hnew hea hou hlt5 how hru
              go_wp2_with (at_builtin; refine wpList_pushF rfl _ _ _ rfl w4.heap.size 101 i0 _ 3 56 Tryd.underlying41 hi0 hz0 hz1 hz2 rfl (by omega) (by omega) u15 L.length _ #[.int .i64 1, .slice uA r.length uc, .slice none 0 0] rfl rfl HOW.out (by simp [Act.eval]) (ch_one _ _ _ _ _ _ _) (by omega) hB6.size ?_; intro v7 w7 hown7 hg7 hat7)
              have hx : ChRX valV w6 u15.ownBlock ⟨1, .slice uA r.length uc, .slice none 0 0⟩ ⟨1, r, []⟩ := ⟨rfl, RdX.of_own valV_len (by omega) HOU.out (fun g hg => (HL5.out g hg).2), RdX.nil _ _⟩
              exact ⟨⟨k + 1, by omega, by go_num, by rw [S1.out, HNEW.out]; exact ChX.push hown7 HEA.out hx hg7 hat7, below_grown hB6 hg7 (fun g hg => (HL5.out g hg).1) hB6.size⟩, by simp [intOf]; omega⟩
            · have hge : 0 ≤ findP ps r tb := by rw [← HFP.out]; omega
              have hany : tb.any (alikeP ps r) = true := by rw [← findP_ge, decide_eq_true hge]
              obtain ⟨q, hq, hqe, -⟩ := idxP_some hany 0
              have hfq : fp = (q : Int) := by rw [HFP.out]; unfold findP; rw [hqe]; simp
              have hfq2 : (findP ps r tb).toNat = q := by rw [← HFP.out, hfq]; simp
              have hchA : chA ps tb r = if sameW r tb[q] = true then [] else [⟨2, r, tb[q]⟩] := by
                unfold chA
                rw [if_neg (by omega), hfq2, List.getD_eq_getElem?_getD, List.getElem?_eq_getElem hq, Option.getD_some]
              have HCHA := Lib.hid hchA
              clear hge hany hqe hfq2 hchA hneg HFP
              subst hfq
              obtain ⟨y0, y1, y2, y3⟩ := CELLS.out w5 b05
              obtain ⟨p4, c8, vx, hv4, hcxw, hxdw⟩ := g4.at hq
              have hcx := ((bw5.cell (World.block_lt_of_cell? w _ hcxw))).trans hcxw
              have hxd := RdF.next hxdw bw5
              injection hv4 with hAA hln hcc
              subst hAA
              subst hcc
              clear hln
              have hlx := HRB.out _ (List.getElem_mem hq)
              obtain ⟨x, hx⟩ : ∃ x, x = tb[q] := ⟨_, rfl⟩
              rw [← hx] at hxd hlx hxdw
              rw [← hx] at HCHA
              have HLX := Lib.hid hlx
              clear hx hlx
              have hxd0 := hxd
              obtain ⟨xA, xc, rfl, -⟩ := hxd.is
              have HXW := Lib.hid (And.intro hcxw (And.intro hxdw hrdw))
              clear hcxw hxdw
              have hxl5 : x.length ≤ 100000 := by rw [HLX.out]; exact hlb
              have hq0 : ¬ ((q : Int) < 0) := by omega
              have hqI : (q : Int) < tb.length := by omega
              clear hxd
              go_wp2_with fail
              refine (eqRow_any _ _ r x _ hr5 hxd0).mono ?_
              rintro e w6 ⟨rfl, b6⟩
              obtain ⟨sw, hsw⟩ : ∃ sw, sw = sameW r x := ⟨_, rfl⟩
              rw [← hsw]
              rw [← hsw] at HCHA
              have hB6 := hB5.trans (b6.mono hB5.size)
              have hch6 := hch5.keep b6
              clear hsw y0 y1 y2 y3
              cases sw
              · have b06 := b05.trans (b6.mono b05.size)
                obtain ⟨y0, y1, y2, y3⟩ := CELLS.out w6 b06
                have hcx6 : w6.cell? (p4.add q) = some (.slice xA x.length xc) := (b6.cell (World.block_lt_of_cell? w5 _ hcx)).trans hcx
                have hr6 := RdF.next hr5 b6
                have hx6 := RdF.next hxd0 b6
                clear hcx
                have bw6 := bw5.trans (b6.mono bw5.size)
                have hnew : chA ps tb r = [⟨2, r, x⟩] := by rw [HCHA.out, if_neg (by simp)]
                have hchl := hch6.lt
                have y34 : w4.cell? ⟨w.heap.size + 1, 1, none⟩ = some (.slice (some p4) tb.length c4) := (CELLS.out w4 b04).2.2.2
                have hxw : w.cell? (p4.add q) = some (.slice xA x.length xc) ∧ RdV w w.heap.size (.slice xA x.length xc) x ∧ RdV w w.heap.size (.slice rA r.length rc) r := HXW.out
                have mk : ∀ w', Below w.heap.size w w' → Below w4.heap.size w4 w' → w'.cell? ⟨w.heap.size + 1, 1, none⟩ = some (.slice (some p4) tb.length c4) ∧ w'.cell? (p4.add q) = some (.slice xA x.length xc) ∧ Below w.heap.size w w' ∧ Below w4.heap.size w4 w' := fun w' q1 q2 =>
                  ⟨(q2.cell (World.block_lt_of_cell? w4 _ y34)).trans y34, (q1.cell (World.block_lt_of_cell? w _ hxw.1)).trans hxw.1, q1, q2⟩
                have MK := Lib.hid mk; have HXW2 := Lib.hid hxw.2; have HNEW := Lib.hid hnew; have HCL := Lib.hid hchl; have HCH6 := Lib.hid hch6
                clear y34 hxw mk hnew hchl
                go_wp2
                go_region_held3 (fun w' => w'.cell? ⟨w.heap.size + 1, 1, none⟩ = some (.slice (some p4) tb.length c4) ∧ w'.cell? (p4.add q) = some (.slice xA x.length xc) ∧ Below w.heap.size w w' ∧ Below w4.heap.size w4 w') (first | (exact MK.out _ bw6.drew hB6.drew) | (go_split_ands; exact MK.out _ (by assumption) (by assumption)) | (go_split_ands; exact MK.out _ (keepB (by assumption) (by assumption)) (keepB (by assumption) (by assumption))) | (go_split_ands; exact MK.out _ (Below.alloc (by assumption) (Below.size (by assumption)) _) (Below.alloc (by assumption) (Below.size (by assumption)) _)) | go_keep)
                  (first | (have second := firstMark; go_at_call 68; go_split_ands; refine (cloneV_any _ x _ (RdF.next HXW2.out.1 (by assumption)) hxl5).mono ?_; rintro e w8 ⟨u2, rfl, hou2, b8⟩; obtain ⟨uB, ud, rfl, -⟩ := (RdF.of_own valV_len (by omega) hou2).is; have c8 := keepB b8 c7; have hB8 := hB6.trans (c8.mono hB6.size); have bw8 := bw6.trans (c8.mono bw6.size); obtain ⟨us, how, hea⟩ := (HCH6.out.keep c8).is; have hou3 := hou1.below b8 (Nat.le_refl _); have hx := ChRX.mk (g := valV) (w := w8) (row := u15.ownBlock) (u := ⟨2, .slice uA r.length uc, .slice uB x.length ud⟩) (c := ⟨2, r, x⟩) rfl (RdX.of_own valV_len (by omega) hou3 (fun g hg => (HCL.out g hg).2)) (RdX.of_own valV_len (by omega) hou2 (fun g hg => Nat.lt_of_lt_of_le (HCL.out g hg).2 c7.size)); have HOW8 := Lib.hid how; have HEA8 := Lib.hid hea; have HX8 := Lib.hid hx; clear how hea hx) | (go_at_call 68; go_split_ands; refine (cloneV_any _ r _ (RdF.next HXW2.out.2 (by assumption)) hrl5).mono ?_; rintro e w7 ⟨u1, rfl, hou1, b7⟩; have firstMark : True := trivial; obtain ⟨uA, uc, rfl, -⟩ := (RdF.of_own valV_len (by omega) hou1).is; have c7 : Below w6.heap.size w6 w7 := keepB b7 (Below.drew (Below.refl _ _))) | (refine step_pushF rfl (.tmp 83) (.tmp 93) _ rfl w4.heap.size 101 i0 _ 3 56 Tryd.underlying41 hi0 hz0 hz1 hz2 rfl (by omega) (by omega) u15 L.length _ #[.int .i64 2, .slice uA r.length uc, .slice uB x.length ud] rfl (by simp [Act.eval, Act.put]) HOW8.out (by simp [Act.eval, Act.put]) (ch_one _ _ _ _ _ _ _) (by omega) hB8.size ?_; intro v9 w9 hown9 hg9 hat9; have hB9 := below_grown hB8 hg9 (fun g hg => (HCL.out g hg).1) hB8.size; have bw9 := below_grown bw8 hg9 (fun g hg => Nat.le_trans bw4.size (HCL.out g hg).1) bw8.size))
                go_wp2
                exact ⟨⟨k + 1, by omega, by go_num, by rw [S1.out, HNEW.out]; exact ChX.push hown9 HEA8.out HX8.out hg9 hat9, hB9⟩, by simp [intOf]; omega⟩
              · have hnil : chA ps tb r = [] := by rw [HCHA.out, if_pos rfl]
                have HNIL := Lib.hid hnil
                clear hnil
                go_wp2
                exact ⟨⟨k + 1, by omega, by go_num, by rw [S1.out, HNIL.out, List.append_nil]; exact hch6, hB6⟩, by simp [intOf]; omega⟩
          · obtain rfl : k = ta.length := by omega
            rw [List.take_length] at hch
            obtain ⟨L1, hL1⟩ : ∃ L1, L1 = ta.flatMap (chA ps tb) := ⟨_, rfl⟩
            have hl1 : L1.length ≤ ta.length := by rw [hL1]; exact flat_le1 _ (chA_len ps tb) ta
            have hD4 := HD3.out
            unfold diffF at hD4
            rw [← hL1] at hch hD4
            have HD5 := Lib.hid hD4
            obtain ⟨w5, rfl⟩ : ∃ w5 : World, w5 = wr := ⟨_, rfl⟩
            clear hL1 hD4 hlt
            go_wp2
            go_loopw [15, 99] (fun d i wr => ∃ k : Nat, k ≤ tb.length ∧ i = .int .i64 k ∧ ChX valV 101 wr w4.heap.size d (L1 ++ (tb.take k).flatMap (chB ps ta)) ∧ Below w4.heap.size w4 wr) (fun _ i _ => tb.length - (intOf i).toNat)
            case atStart => exact ⟨0, Nat.zero_le _, rfl, by simpa using hch, hBr4⟩
            case round =>
              obtain ⟨k, hk6, rfl, hch, hBr4⟩ := hrel
              have bwk := bw4.trans (hBr4.mono bw4.size)
              have b0k := b04.trans (hBr4.mono b04.size)
              clear x0 x1 z0 z1
              obtain ⟨x0, x1, z0, z1⟩ := CELLS.out wr b0k
              by_cases hlt : k < tb.length
              · have dk : decide ((k : Int) < tb.length) = true := decide_eq_true (by omega)
                obtain ⟨p, c6, vr, hv, hcrw, hrdw⟩ := g4.at hlt
                have hcr := ((bwk.cell (World.block_lt_of_cell? w _ hcrw))).trans hcrw
                have hrd := RdF.next hrdw bwk
                clear hcrw
                injection hv with hAA hln hcc
                subst hAA
                subst hcc
                clear hln
                have hs1 := flat_snoc (chB ps ta) tb hlt
                have hlr := HRB.out _ (List.getElem_mem hlt)
                have hcnt := flat_le1 (chB ps ta) (chB_len ps ta) (tb.take k)
                rw [List.length_take] at hcnt
                obtain ⟨r, hr⟩ : ∃ r, r = tb[k] := ⟨_, rfl⟩
                rw [← hr] at hrd hs1 hlr
                have hs2 : L1 ++ (tb.take (k + 1)).flatMap (chB ps ta) = (L1 ++ (tb.take k).flatMap (chB ps ta)) ++ chB ps ta r := by rw [hs1, List.append_assoc]
                have hcnt2 : (L1 ++ (tb.take k).flatMap (chB ps ta)).length ≤ 200000 := by rw [List.length_append]; omega
                obtain ⟨L, hL⟩ : ∃ L, L = L1 ++ (tb.take k).flatMap (chB ps ta) := ⟨_, rfl⟩
                rw [← hL] at hs2 hcnt2 hch
                have S1 := Lib.hid hs2; have HLR := Lib.hid hlr
                clear hr hs1 hs2 hlr hL hrdw hcnt
                have hrd0 := hrd
                obtain ⟨rA, rc, rfl, -⟩ := hrd.is
                have hrl5 : r.length ≤ 100000 := by rw [HLR.out]; exact hlb
                clear hrd
                go_wp2_with fail
                refine (dfind_any _ _ _ ta r ps _ (RdE.next (RdF.stays valV 4) g2 bwk) hrd0 (HRI.out.next hBr4) (fun x hx q hq => ⟨(HPS.out q hq).1, by rw [HRA.out x hx]; exact (HPS.out q hq).2, by rw [HLR.out, ← HLAB.out]; exact (HPS.out q hq).2⟩)).mono ?_
                rintro e w6 ⟨rfl, b6⟩
                obtain ⟨fp, hfp⟩ : ∃ fp, fp = findP ps r ta := ⟨_, rfl⟩
                rw [← hfp]
                have HFP := Lib.hid hfp
                have hB6 := hBr4.trans (b6.mono hBr4.size)
                have hr6 := RdF.next hrd0 b6
                have hch6 := hch.keep b6
                clear hfp x0 x1 z0 z1 hch
                by_cases hneg : fp < 0
                · have hng : ¬ 0 ≤ fp := by omega
                  go_wp2_with fail
                  refine (cloneV_any _ r _ hr6 hrl5).mono ?_
                  rintro e w7 ⟨u, rfl, hou, b7⟩
                  have hru := RdF.of_own valV_len (by omega) hou
                  obtain ⟨uA, uc, rfl, -⟩ := hru.is
                  have hB7 := hB6.trans (b7.mono hB6.size)
                  obtain ⟨us, how, hea⟩ := (hch6.keep b7).is
                  have hlt5 := hch6.lt
                  have hnew : chB ps ta r = [⟨3, [], r⟩] := by unfold chB; rw [← HFP.out, if_pos hneg]
                  have HNEW := Lib.hid hnew; have HEA := Lib.hid hea; have HOU := Lib.hid hou; have HL5 := Lib.hid hlt5; have HOW := Lib.hid how
                  clear hnew hea hou hlt5 how hru
                  go_wp2_with (at_builtin; refine wpList_pushF rfl _ _ _ rfl w4.heap.size 101 i0 _ 3 56 Tryd.underlying41 hi0 hz0 hz1 hz2 rfl (by omega) (by omega) u15 L.length _ #[.int .i64 3, .slice none 0 0, .slice uA r.length uc] rfl rfl HOW.out (by simp [Act.eval]) (ch_one _ _ _ _ _ _ _) (by omega) hB7.size ?_; intro v8 w8 hown8 hg8 hat8)
                  have hx : ChRX valV w7 u15.ownBlock ⟨3, .slice none 0 0, .slice uA r.length uc⟩ ⟨3, [], r⟩ := ⟨rfl, RdX.nil _ _, RdX.of_own valV_len (by omega) HOU.out (fun g hg => (HL5.out g hg).2)⟩
                  exact ⟨⟨k + 1, by omega, by go_num, by rw [S1.out, HNEW.out]; exact ChX.push hown8 HEA.out hx hg8 hat8, below_grown hB7 hg8 (fun g hg => (HL5.out g hg).1) hB7.size⟩, by simp [intOf]; omega⟩
                · have hnil : chB ps ta r = [] := by unfold chB; rw [← HFP.out, if_neg hneg]
                  have HNIL := Lib.hid hnil
                  have hng : 0 ≤ fp := by omega
                  clear hnil hneg
                  go_wp2
                  exact ⟨⟨k + 1, by omega, by go_num, by rw [S1.out, HNIL.out, List.append_nil]; exact hch6, hB6⟩, by simp [intOf]; omega⟩
              · obtain rfl : k = tb.length := by omega
                rw [List.take_length, ← HD5.out] at hch
                have hrd := hch.rd
                clear hch hlt
                go_wp2
                exact HR.out _ _ ⟨⟨_, rfl, hrd⟩, bwk⟩
end Go.Proofs.YtgiemhooeoakmaaDoor

namespace Go.Proofs.YtgiemhooeoakmaaDoor
open Go.RowKit Go.ChangeShapes Go.WideShapes
set_option linter.unusedVariables false
set_option linter.unusedSimpArgs false

def rIn (ps : List Int) (r x : VRow) : List Chg := if alikeP ps x r = true then (if sameV r x = true then [] else [⟨2, r, x⟩]) else []
def rA (ps : List Int) (tb : VTab) (r : VRow) : List Chg := tb.flatMap (rIn ps r) ++ (if tb.any (fun x => alikeP ps x r) = true then [] else [⟨1, r, []⟩])
def rB (ps : List Int) (ta : VTab) (r : VRow) : List Chg := if ta.any (fun x => alikeP ps x r) = true then [] else [⟨3, [], r⟩]
def rdiffF (ps : List Int) (ta tb : VTab) : List Chg := ta.flatMap (rA ps tb) ++ tb.flatMap (rB ps ta)
theorem rIn_len (ps : List Int) (r x : VRow) : (rIn ps r x).length ≤ 1 := by
  unfold rIn
  split
  · split <;> simp
  · simp
theorem rB_len (ps : List Int) (ta : VTab) (r : VRow) : (rB ps ta r).length ≤ 1 := by
  unfold rB
  split <;> simp
theorem flat_leN {α β : Type} (f : α → List β) (N : Nat) (hf : ∀ x, (f x).length ≤ N) : ∀ l : List α, (l.flatMap f).length ≤ l.length * N
  | [] => Nat.zero_le _
  | x :: r => by
    rw [List.flatMap_cons, List.length_append, List.length_cons, Nat.succ_mul]
    have := hf x
    have := flat_leN f N hf r
    omega
theorem rA_len (ps : List Int) (tb : VTab) (r : VRow) : (rA ps tb r).length ≤ tb.length + 1 := by
  unfold rA
  rw [List.length_append]
  have := flat_le1 (rIn ps r) (rIn_len ps r) tb
  split <;> simp only [List.length_nil, List.length_cons] <;> omega
set_option maxHeartbeats 8000000 in
set_option maxRecDepth 100000 in
theorem rdiff_any (v1 u1 v2 u2 z : Value) (la lb : List Col) (ta tb : VTab) (keys : Row) (w : World) (h1 : RdRC w w.heap.size v1 la) (h2 : RdRVT w w.heap.size u1 ta) (h3 : RdRC w w.heap.size v2 lb) (h4 : RdRVT w w.heap.size u2 tb) (hu : RdS w w.heap.size z keys)
    (hla : la.length ≤ 100000) (hta : ta.length ≤ 1000) (htb : tb.length ≤ 1000) (hin : ∀ k ∈ keys, k ∈ namesC la) (hA : ∀ x ∈ ta, x.length = la.length) (hB : ∀ x ∈ tb, x.length = la.length) :
    Calls Tryd.prog 24 #[.agg #[v1, u1], .agg #[v2, u2], z] w fun e w' => (∃ o, e = .returned o ∧ RdCh rvalV w' w'.heap.size o (rdiffF (numsF (namesC la) keys) ta tb)) ∧ Below w.heap.size w w' := by
  refine cps fun R HR => ?_
  have g1 := h1; have g2 := h2; have g3 := h3; have g4 := h4; have hu0 := hu
  obtain ⟨A1, c1, rfl, -⟩ := h1.is
  obtain ⟨A2, c2, vs, rfl, -, -⟩ := h2.is
  obtain ⟨A3, c3, rfl, -⟩ := h3.is
  obtain ⟨A4, c4, vs', rfl, -, -⟩ := h4.is
  obtain ⟨A5, c5, rfl, -⟩ := hu.is
  have hf2 := g2.few
  have hf4 := g4.few
  clear h1 h2 h3 h4 hu
  obtain ⟨ps, hps⟩ : ∃ ps, ps = numsF (namesC la) keys := ⟨_, rfl⟩
  rw [← hps] at HR
  obtain ⟨D, hD⟩ : ∃ D, D = rdiffF ps ta tb := ⟨_, rfl⟩
  rw [← hD] at HR
  obtain ⟨i0, hi0, hz0, hz1, hz2⟩ := info_parts rchg_info
  obtain ⟨w0, hw0⟩ : ∃ w0, w0 = (w.alloc (.cells #[.slice A1 la.length c1, .slice A2 ta.length c2] 39)).alloc (.cells #[.slice A3 lb.length c3, .slice A4 tb.length c4] 39) := ⟨_, rfl⟩
  have bw0 : Below w.heap.size w w0 := by rw [hw0]; exact ((Below.refl _ _).alloc (Nat.le_refl _) _).alloc (by simp) _
  have X := (Box.new w 39 #[.slice A1 la.length c1, .slice A2 ta.length c2]).alloc (.cells #[.slice A3 lb.length c3, .slice A4 tb.length c4] 39)
  have Z := Box.new (w.alloc (.cells #[.slice A1 la.length c1, .slice A2 ta.length c2] 39)) 39 #[.slice A3 lb.length c3, .slice A4 tb.length c4]
  rw [← hw0] at X Z
  rw [show (w.alloc (.cells #[.slice A1 la.length c1, .slice A2 ta.length c2] 39)).heap.size = w.heap.size + 1 by simp] at Z
  have cells : ∀ w' : World, Below w0.heap.size w0 w' → w'.cell? ⟨w.heap.size, 0, none⟩ = some (.slice A1 la.length c1) ∧ w'.cell? ⟨w.heap.size, 1, none⟩ = some (.slice A2 ta.length c2) ∧ w'.cell? ⟨w.heap.size + 1, 0, none⟩ = some (.slice A3 lb.length c3) ∧ w'.cell? ⟨w.heap.size + 1, 1, none⟩ = some (.slice A4 tb.length c4) := fun w' hb => by
    have X2 := X.below hb X.lt
    have Z2 := Z.below hb Z.lt
    exact ⟨X2.cell 0, X2.cell 1, Z2.cell 0, Z2.cell 1⟩
  obtain ⟨x0, x1, z0, z1⟩ := cells w0 (Below.refl _ _)
  have CELLS := Lib.hid cells; have HW0 := Lib.hid hw0; have HB0 := Lib.hid bw0; have HD := Lib.hid hD; have HPS := Lib.hid hps; have HIN := Lib.hid hin; have HLA := Lib.hid hA; have HLB := Lib.hid hB
  clear X Z hw0 bw0 hD hps cells hin hA hB
  go_enter Tryd.func24, Tryd.ntmps24
  go_wp2
  rw [← HW0.out]
  go_loopw [7, 21] (fun d i wr => ∃ k : Nat, k ≤ ta.length ∧ i = .int .i64 k ∧ ChX rvalV 123 wr w0.heap.size d ((ta.take k).flatMap (rA ps tb)) ∧ Below w0.heap.size w0 wr) (fun _ i _ => ta.length - (intOf i).toNat)
  case atStart => exact ⟨0, Nat.zero_le _, rfl, ChX.nil _ _, Below.refl _ _⟩
  case round =>
    obtain ⟨k, hk, rfl, hch, hBr⟩ := hrel
    have bwk := HB0.out.trans (hBr.mono HB0.out.size)
    clear x0 x1 z0 z1
    obtain ⟨x0, x1, z0, z1⟩ := CELLS.out wr hBr
    by_cases hlt : k < ta.length
    · have dk : decide ((k : Int) < ta.length) = true := decide_eq_true (by omega)
      obtain ⟨p, c6, vr, hv, hcrw, hrdw⟩ := g2.at hlt
      have hcr := ((bwk.cell (World.block_lt_of_cell? w _ hcrw))).trans hcrw
      clear hcrw
      injection hv with hAA hln hcc
      subst hAA
      subst hcc
      clear hln
      have hs1 := flat_snoc (rA ps tb) ta hlt
      have hlr := HLA.out _ (List.getElem_mem hlt)
      have hcnt := flat_leN (rA ps tb) (tb.length + 1) (rA_len ps tb) (ta.take k)
      rw [List.length_take] at hcnt
      obtain ⟨r, hr⟩ : ∃ r, r = ta[k] := ⟨_, rfl⟩
      rw [← hr] at hrdw hs1 hlr
      have hcnt2 : ((ta.take k).flatMap (rA ps tb)).length ≤ 2000000 := by
        refine Nat.le_trans hcnt (Nat.le_trans (Nat.mul_le_mul (Nat.min_le_left _ _) (Nat.le_refl _)) ?_)
        have : k * (tb.length + 1) ≤ 1000 * 1001 := Nat.mul_le_mul (by omega) (by omega)
        omega
      obtain ⟨L, hL⟩ : ∃ L, L = (ta.take k).flatMap (rA ps tb) := ⟨_, rfl⟩
      rw [← hL] at hs1 hcnt2 hch
      have S1 := Lib.hid hs1; have HLR := Lib.hid hlr
      clear hr hs1 hlr hL hcnt
      have hrd0 := hrdw
      obtain ⟨rA', rc, rfl, -⟩ := hrdw.is
      clear hrdw
      obtain ⟨w5, rfl⟩ : ∃ w5 : World, w5 = wr := ⟨_, rfl⟩
      go_wp2
      go_loopw [7, 10, 28] (fun d f i wr => ∃ m : Nat, m ≤ tb.length ∧ i = .int .i64 m ∧ f = .bool ((tb.take m).any (fun x => alikeP ps x r)) ∧ ChX rvalV 123 wr w0.heap.size d (L ++ (tb.take m).flatMap (rIn ps r)) ∧ Below w0.heap.size w0 wr) (fun _ _ i _ => tb.length - (intOf i).toNat)
      case atStart => exact ⟨0, Nat.zero_le _, rfl, rfl, by simpa using hch, hBr⟩
      case round =>
        obtain ⟨m, hm, rfl, rfl, hch, hBm⟩ := hrel
        have bwm := HB0.out.trans (hBm.mono HB0.out.size)
        clear x0 x1 z0 z1
        obtain ⟨x0, x1, z0, z1⟩ := CELLS.out wr hBm
        obtain ⟨fm, hfm⟩ : ∃ fm, fm = (tb.take m).any (fun x => alikeP ps x r) := ⟨_, rfl⟩
        rw [← hfm]
        have HFM := Lib.hid hfm
        clear hfm
        by_cases hlm : m < tb.length
        · have dm : decide ((m : Int) < tb.length) = true := decide_eq_true (by omega)
          obtain ⟨p4, c8, vx, hv4, hcxw, hxdw⟩ := g4.at hlm
          have hcx := ((bwm.cell (World.block_lt_of_cell? w _ hcxw))).trans hcxw
          clear hcxw
          injection hv4 with hAA hln hcc
          subst hAA
          subst hcc
          clear hln
          have hs2 := flat_snoc (rIn ps r) tb hlm
          have hs3 := any_take (fun x => alikeP ps x r) tb hlm
          have hlx := HLB.out _ (List.getElem_mem hlm)
          have hcm := flat_le1 (rIn ps r) (rIn_len ps r) (tb.take m)
          rw [List.length_take] at hcm
          obtain ⟨x, hx⟩ : ∃ x, x = tb[m] := ⟨_, rfl⟩
          rw [← hx] at hxdw hs2 hs3 hlx
          rw [← HFM.out] at hs3
          have hs4 : L ++ (tb.take (m + 1)).flatMap (rIn ps r) = (L ++ (tb.take m).flatMap (rIn ps r)) ++ rIn ps r x := by rw [hs2, List.append_assoc]
          have hcnt3 : (L ++ (tb.take m).flatMap (rIn ps r)).length ≤ 3000000 := by rw [List.length_append]; omega
          obtain ⟨M, hM⟩ : ∃ M, M = L ++ (tb.take m).flatMap (rIn ps r) := ⟨_, rfl⟩
          rw [← hM] at hs4 hcnt3 hch
          have S3 := Lib.hid hs3; have S4 := Lib.hid hs4; have HLX := Lib.hid hlx
          clear hx hs2 hs3 hs4 hlx hcm hM
          have hxd0 := hxdw
          obtain ⟨xA, xc, rfl, -⟩ := hxdw.is
          clear hxdw
          go_wp2_with fail
          refine (refAlike_any _ _ _ _ la keys r x _ (RdF.next g1 bwm) (hu0.next bwm) (RdF.next hrd0 bwm) (RdF.next hxd0 bwm) hla HIN.out HLR.out HLX.out).mono ?_
          rintro e w6 ⟨rfl, b6⟩
          rw [← HPS.out]
          have hB6 := hBm.trans (b6.mono hBm.size)
          have bw6 := bwm.trans (b6.mono bwm.size)
          have hch6 := hch.keep b6
          obtain ⟨tl, htl⟩ : ∃ tl, tl = alikeP ps x r := ⟨_, rfl⟩
          rw [← htl]
          have HTL := Lib.hid htl
          clear htl hch
          cases tl
          · have hnil : rIn ps r x = [] := by unfold rIn; rw [← HTL.out]; rfl
            have hany : (tb.take (m + 1)).any (fun x => alikeP ps x r) = fm := by rw [S3.out, ← HTL.out, Bool.or_false]
            have HNIL := Lib.hid hnil; have HANY := Lib.hid hany
            clear hnil hany
            go_wp2
            exact ⟨⟨m + 1, by omega, by go_num, by rw [HANY.out], by rw [S4.out, HNIL.out, List.append_nil]; exact hch6, hB6⟩, by simp [intOf]; omega⟩
          · have hany : (tb.take (m + 1)).any (fun x => alikeP ps x r) = true := by rw [S3.out, ← HTL.out, Bool.or_true]
            have HANY := Lib.hid hany
            clear hany
            go_wp2_with fail
            refine (sameV_any _ _ r x _ (RdF.next hrd0 bw6) (RdF.next hxd0 bw6)).mono ?_
            rintro e w7 ⟨rfl, b7⟩
            obtain ⟨sv, hsv⟩ : ∃ sv, sv = sameV r x := ⟨_, rfl⟩
            rw [← hsv]
            have HSV := Lib.hid hsv
            clear hsv
            have hB7 := hB6.trans (b7.mono hB6.size)
            have bw7 := bw6.trans (b7.mono bw6.size)
            have hch7 := hch6.keep b7
            clear hch6
            cases sv
            · have hnew : rIn ps r x = [⟨2, r, x⟩] := by unfold rIn; rw [← HTL.out, if_pos rfl, ← HSV.out]; rfl
              have HNEW := Lib.hid hnew
              have hlt7 := hch7.lt
              obtain ⟨us, how, hea⟩ := hch7.is
              have hx : ChRX rvalV w7 u7.ownBlock ⟨2, .slice rA' r.length rc, .slice xA x.length xc⟩ ⟨2, r, x⟩ := ⟨rfl, RdX.of_rd (hrd0.below bw7) bw7.size (fun g hg => Nat.le_trans HB0.out.size (hlt7 g hg).1), RdX.of_rd (hxd0.below bw7) bw7.size (fun g hg => Nat.le_trans HB0.out.size (hlt7 g hg).1)⟩
              have HX := Lib.hid hx; have HEA := Lib.hid hea; have HOW := Lib.hid how; have HL7 := Lib.hid hlt7
              clear hnew hlt7 how hea hx hch7
              go_wp2_with (at_builtin; refine wpList_pushF rfl _ _ _ rfl w0.heap.size 123 i0 _ 3 56 Tryd.underlying47 hi0 hz0 hz1 hz2 rfl (by omega) (by omega) u7 M.length _ #[.int .i64 2, .slice rA' r.length rc, .slice xA x.length xc] rfl rfl HOW.out (by simp [Act.eval]) (ch_one _ _ _ _ _ _ _) (by omega) hB7.size ?_; intro v8 w8 hown8 hg8 hat8)
              exact ⟨⟨m + 1, by omega, by go_num, by rw [HANY.out], by rw [S4.out, HNEW.out]; exact ChX.push hown8 HEA.out HX.out hg8 hat8, below_grown hB7 hg8 (fun g hg => (HL7.out g hg).1) hB7.size⟩, by simp [intOf]; omega⟩
            · have hnil : rIn ps r x = [] := by unfold rIn; rw [← HTL.out, if_pos rfl, ← HSV.out]; rfl
              have HNIL := Lib.hid hnil
              clear hnil
              go_wp2
              exact ⟨⟨m + 1, by omega, by go_num, by rw [HANY.out], by rw [S4.out, HNIL.out, List.append_nil]; exact hch7, hB7⟩, by simp [intOf]; omega⟩
        · obtain rfl : m = tb.length := by omega
          have hfm := HFM.out
          rw [List.take_length] at hch hfm
          have hcm := flat_le1 (rIn ps r) (rIn_len ps r) tb
          have hcnt3 : (L ++ tb.flatMap (rIn ps r)).length ≤ 3000000 := by rw [List.length_append]; omega
          have hra : rA ps tb r = tb.flatMap (rIn ps r) ++ (if fm = true then [] else [⟨1, r, []⟩]) := by unfold rA; rw [← hfm]
          have hs4 : (ta.take (k + 1)).flatMap (rA ps tb) = (L ++ tb.flatMap (rIn ps r)) ++ (if fm = true then [] else [⟨1, r, []⟩]) := by rw [S1.out, hra, List.append_assoc]
          obtain ⟨M, hM⟩ : ∃ M, M = L ++ tb.flatMap (rIn ps r) := ⟨_, rfl⟩
          rw [← hM] at hs4 hcnt3 hch
          have S4 := Lib.hid hs4
          clear hs4 hra hM hcm hfm hlm
          cases fm
          · have hlt7 := hch.lt
            obtain ⟨us, how, hea⟩ := hch.is
            have hx : ChRX rvalV wr u7.ownBlock ⟨1, .slice rA' r.length rc, .slice none 0 0⟩ ⟨1, r, []⟩ := ⟨rfl, RdX.of_rd (hrd0.below bwm) bwm.size (fun g hg => Nat.le_trans HB0.out.size (hlt7 g hg).1), RdX.nil _ _⟩
            have HX := Lib.hid hx; have HEA := Lib.hid hea; have HOW := Lib.hid how; have HL7 := Lib.hid hlt7
            clear hlt7 how hea hx hch
            go_wp2_with (at_builtin; refine wpList_pushF rfl _ _ _ rfl w0.heap.size 123 i0 _ 3 56 Tryd.underlying47 hi0 hz0 hz1 hz2 rfl (by omega) (by omega) u7 M.length _ #[.int .i64 1, .slice rA' r.length rc, .slice none 0 0] rfl rfl HOW.out (by simp [Act.eval]) (ch_one _ _ _ _ _ _ _) (by omega) hBm.size ?_; intro v8 w8 hown8 hg8 hat8)
            exact ⟨⟨k + 1, by omega, by go_num, by rw [S4.out, if_neg (by simp)]; exact ChX.push hown8 HEA.out HX.out hg8 hat8, below_grown hBm hg8 (fun g hg => (HL7.out g hg).1) hBm.size⟩, by simp [intOf]; omega⟩
          · go_wp2
            exact ⟨⟨k + 1, by omega, by go_num, by rw [S4.out, if_pos rfl, List.append_nil]; exact hch, hBm⟩, by simp [intOf]; omega⟩
    · obtain rfl : k = ta.length := by omega
      rw [List.take_length] at hch
      have hcm := flat_leN (rA ps tb) (tb.length + 1) (rA_len ps tb) ta
      have hcnt0 : (ta.flatMap (rA ps tb)).length ≤ 2000000 := by
        refine Nat.le_trans hcm ?_
        have : ta.length * (tb.length + 1) ≤ 1000 * 1001 := Nat.mul_le_mul hta (by omega)
        omega
      have hD4 := HD.out
      unfold rdiffF at hD4
      obtain ⟨L1, hL1⟩ : ∃ L1, L1 = ta.flatMap (rA ps tb) := ⟨_, rfl⟩
      rw [← hL1] at hch hD4 hcnt0
      have HD5 := Lib.hid hD4
      obtain ⟨w5, rfl⟩ : ∃ w5 : World, w5 = wr := ⟨_, rfl⟩
      clear hL1 hD4 hlt hcm
      go_wp2
      go_loopw [7, 61] (fun d i wr => ∃ k : Nat, k ≤ tb.length ∧ i = .int .i64 k ∧ ChX rvalV 123 wr w0.heap.size d (L1 ++ (tb.take k).flatMap (rB ps ta)) ∧ Below w0.heap.size w0 wr) (fun _ i _ => tb.length - (intOf i).toNat)
      case atStart => exact ⟨0, Nat.zero_le _, rfl, by simpa using hch, hBr⟩
      case round =>
        obtain ⟨k, hk, rfl, hch, hBr⟩ := hrel
        have bwk := HB0.out.trans (hBr.mono HB0.out.size)
        clear x0 x1 z0 z1
        obtain ⟨x0, x1, z0, z1⟩ := CELLS.out wr hBr
        by_cases hlt : k < tb.length
        · have dk : decide ((k : Int) < tb.length) = true := decide_eq_true (by omega)
          obtain ⟨p, c6, vr, hv, hcrw, hrdw⟩ := g4.at hlt
          have hcr := ((bwk.cell (World.block_lt_of_cell? w _ hcrw))).trans hcrw
          clear hcrw
          injection hv with hAA hln hcc
          subst hAA
          subst hcc
          clear hln
          have hs1 := flat_snoc (rB ps ta) tb hlt
          have hlr := HLB.out _ (List.getElem_mem hlt)
          have hcm := flat_le1 (rB ps ta) (rB_len ps ta) (tb.take k)
          rw [List.length_take] at hcm
          obtain ⟨r, hr⟩ : ∃ r, r = tb[k] := ⟨_, rfl⟩
          rw [← hr] at hrdw hs1 hlr
          have hs2 : L1 ++ (tb.take (k + 1)).flatMap (rB ps ta) = (L1 ++ (tb.take k).flatMap (rB ps ta)) ++ rB ps ta r := by rw [hs1, List.append_assoc]
          have hcnt2 : (L1 ++ (tb.take k).flatMap (rB ps ta)).length ≤ 3000000 := by rw [List.length_append]; omega
          obtain ⟨L, hL⟩ : ∃ L, L = L1 ++ (tb.take k).flatMap (rB ps ta) := ⟨_, rfl⟩
          rw [← hL] at hs2 hcnt2 hch
          have S1 := Lib.hid hs2; have HLR := Lib.hid hlr
          clear hr hs1 hs2 hlr hL hcm
          have hrd0 := hrdw
          obtain ⟨rA', rc, rfl, -⟩ := hrdw.is
          clear hrdw
          obtain ⟨w6, rfl⟩ : ∃ w6 : World, w6 = wr := ⟨_, rfl⟩
          go_wp2
          go_loopw [15, 68] (fun f i wr => ∃ m : Nat, m ≤ ta.length ∧ i = .int .i64 m ∧ f = .bool ((ta.take m).any (fun x => alikeP ps x r)) ∧ Below w6.heap.size w6 wr) (fun _ i _ => ta.length - (intOf i).toNat)
          case atStart => exact ⟨0, Nat.zero_le _, rfl, rfl, Below.refl _ _⟩
          case round =>
            obtain ⟨m, hm, rfl, rfl, hBm⟩ := hrel
            have hBm0 := hBr.trans (hBm.mono hBr.size)
            have bwm := bwk.trans (hBm.mono bwk.size)
            clear x0 x1 z0 z1
            obtain ⟨x0, x1, z0, z1⟩ := CELLS.out wr hBm0
            obtain ⟨fm, hfm⟩ : ∃ fm, fm = (ta.take m).any (fun x => alikeP ps x r) := ⟨_, rfl⟩
            rw [← hfm]
            have HFM := Lib.hid hfm
            clear hfm
            by_cases hlm : m < ta.length
            · have dm : decide ((m : Int) < ta.length) = true := decide_eq_true (by omega)
              obtain ⟨p4, c8, vx, hv4, hcxw, hxdw⟩ := g2.at hlm
              have hcx := ((bwm.cell (World.block_lt_of_cell? w _ hcxw))).trans hcxw
              clear hcxw
              injection hv4 with hAA hln hcc
              subst hAA
              subst hcc
              clear hln
              have hs3 := any_take (fun x => alikeP ps x r) ta hlm
              have hlx := HLA.out _ (List.getElem_mem hlm)
              obtain ⟨x, hx⟩ : ∃ x, x = ta[m] := ⟨_, rfl⟩
              rw [← hx] at hxdw hs3 hlx
              rw [← HFM.out] at hs3
              have S3 := Lib.hid hs3; have HLX := Lib.hid hlx
              clear hx hs3 hlx
              have hxd0 := hxdw
              obtain ⟨xA, xc, rfl, -⟩ := hxdw.is
              clear hxdw
              cases fm
              · go_wp2_with fail
                refine (refAlike_any _ _ _ _ la keys r x _ (RdF.next g1 bwm) (hu0.next bwm) (RdF.next hrd0 bwm) (RdF.next hxd0 bwm) hla HIN.out HLR.out HLX.out).mono ?_
                rintro e w7 ⟨rfl, b7⟩
                rw [← HPS.out]
                have hB7 := hBm.trans (b7.mono hBm.size)
                have hany : (ta.take (m + 1)).any (fun x => alikeP ps x r) = alikeP ps x r := by rw [S3.out, Bool.false_or]
                have HANY := Lib.hid hany
                obtain ⟨tl, htl⟩ : ∃ tl, tl = alikeP ps x r := ⟨_, rfl⟩
                rw [← htl]
                have HTL := Lib.hid htl
                clear hany htl
                go_wp2
                exact ⟨⟨m + 1, by omega, by go_num, by rw [HANY.out, HTL.out], hB7⟩, by simp [intOf]; omega⟩
              · have hany : (ta.take (m + 1)).any (fun x => alikeP ps x r) = true := by rw [S3.out, Bool.true_or]
                have HANY := Lib.hid hany
                clear hany
                go_wp2
                exact ⟨⟨m + 1, by omega, by go_num, by rw [HANY.out], hBm⟩, by simp [intOf]; omega⟩
            · obtain rfl : m = ta.length := by omega
              have hfm := HFM.out
              rw [List.take_length] at hfm
              have hrb : rB ps ta r = if fm = true then [] else [⟨3, [], r⟩] := by unfold rB; rw [← hfm]
              have HRB := Lib.hid hrb
              have hchm := hch.keep hBm
              clear hrb hfm hlm hch
              cases fm
              · have hlt7 := hchm.lt
                obtain ⟨us, how, hea⟩ := hchm.is
                have hx : ChRX rvalV wr u7.ownBlock ⟨3, .slice none 0 0, .slice rA' r.length rc⟩ ⟨3, [], r⟩ := ⟨rfl, RdX.nil _ _, RdX.of_rd (hrd0.below bwm) bwm.size (fun g hg => Nat.le_trans HB0.out.size (hlt7 g hg).1)⟩
                have HX := Lib.hid hx; have HEA := Lib.hid hea; have HOW := Lib.hid how; have HL7 := Lib.hid hlt7
                clear hlt7 how hea hx hchm
                go_wp2_with (at_builtin; refine wpList_pushF rfl _ _ _ rfl w0.heap.size 123 i0 _ 3 56 Tryd.underlying47 hi0 hz0 hz1 hz2 rfl (by omega) (by omega) u7 L.length _ #[.int .i64 3, .slice none 0 0, .slice rA' r.length rc] rfl rfl HOW.out (by simp [Act.eval]) (ch_one _ _ _ _ _ _ _) (by omega) hBm0.size ?_; intro v8 w8 hown8 hg8 hat8)
                exact ⟨⟨k + 1, by omega, by go_num, by rw [S1.out, HRB.out, if_neg (by simp)]; exact ChX.push hown8 HEA.out HX.out hg8 hat8, below_grown hBm0 hg8 (fun g hg => (HL7.out g hg).1) hBm0.size⟩, by simp [intOf]; omega⟩
              · go_wp2
                exact ⟨⟨k + 1, by omega, by go_num, by rw [S1.out, HRB.out, if_pos rfl, List.append_nil]; exact hchm, hBm0⟩, by simp [intOf]; omega⟩
        · obtain rfl : k = tb.length := by omega
          rw [List.take_length, ← HD5.out] at hch
          have hrd := hch.rd
          clear hch hlt
          go_wp2
          exact HR.out _ _ ⟨⟨_, rfl, hrd⟩, bwk⟩
end Go.Proofs.YtgiemhooeoakmaaDoor

namespace Go.Proofs.YtgiemhooeoakmaaDoor
set_option linter.unusedVariables false
set_option linter.unusedSimpArgs false

theorem alikeP_iff {ps : List Int} {r x : VRow} : alikeP ps r x = true ↔ ∀ p ∈ ps, x.getD p.toNat val0 = r.getD p.toNat val0 := by
  unfold alikeP unP
  simp [List.any_eq_false]
theorem alikeP_symm (ps : List Int) (r x : VRow) : alikeP ps r x = alikeP ps x r := by
  rw [Bool.eq_iff_iff, alikeP_iff, alikeP_iff]
  exact ⟨fun h p hp => (h p hp).symm, fun h p hp => (h p hp).symm⟩
theorem rowF_uniq {n : Nat} {ps : List Int} {t : VTab} : ∀ (rest : VTab) (j : Nat), t.drop j = rest → (rowF n ps t j rest).2 = 0 → ∀ k, j ≤ k → (hk : k < t.length) → (t.take k).any (alikeP ps t[k]) = false
  | [], j, hd, h, k, hj, hk => by
    have := congrArg List.length hd
    rw [List.length_drop, List.length_nil] at this
    omega
  | r :: rest, j, hd, h, k, hj, hk => by
    have hjl : j < t.length := by
      have := congrArg List.length hd
      rw [List.length_drop, List.length_cons] at this
      omega
    have hd2 := List.drop_eq_getElem_cons hjl
    rw [hd] at hd2
    injection hd2 with h1 h2
    rw [rowF] at h
    split at h
    · cases h
    · split at h
      · cases h
      · split at h
        · cases h
        · rename_i hno
          by_cases he : j = k
          · subst he
            rw [← h1]
            simpa using hno
          · exact rowF_uniq rest (j + 1) h2.symm h k (by omega) hk
theorem flat_only {α β : Type} (f : α → List β) : ∀ (l : List α) (k : Nat) (hk : k < l.length), (∀ i (hi : i < l.length), i ≠ k → f l[i] = []) → l.flatMap f = f l[k]
  | x :: r, 0, hk, h => by
    have : r.flatMap f = [] := by
      rw [List.flatMap_eq_nil_iff]
      intro y hy
      obtain ⟨i, hi, rfl⟩ := List.mem_iff_getElem.1 hy
      exact h (i + 1) (by simpa using hi) (by omega)
    rw [List.flatMap_cons, this, List.append_nil]
    rfl
  | x :: r, k + 1, hk, h => by
    have h0 : f x = [] := h 0 (by simp) (by omega)
    rw [List.flatMap_cons, h0, List.nil_append, flat_only f r k (by simpa using hk) (fun i hi hne => h (i + 1) (by simpa using hi) (by omega))]
    rfl
theorem same_eq (r x : VRow) : sameV r x = sameW r x := rfl
theorem rA_eq {n : Nat} {ps : List Int} {tb : VTab} (h : (rowF n ps tb 0 tb).2 = 0) (r : VRow) : rA ps tb r = chA ps tb r := by
  have hu := rowF_uniq tb 0 (List.drop_zero ..) h
  have hany : tb.any (fun x => alikeP ps x r) = tb.any (alikeP ps r) := by
    congr 1
    funext x
    exact alikeP_symm ps x r
  unfold rA chA
  rw [hany]
  cases ha : tb.any (alikeP ps r)
  · have hf : findP ps r tb = -1 := idxP_none ha 0
    rw [hf, if_neg (by simp), if_pos (by omega)]
    have : tb.flatMap (rIn ps r) = [] := by
      rw [List.flatMap_eq_nil_iff]
      intro x hx
      rw [List.any_eq_false] at ha
      have := ha x hx
      unfold rIn
      rw [alikeP_symm, if_neg this]
    rw [this, List.nil_append]
  · obtain ⟨k, hk, he, hal⟩ := idxP_some ha 0
    have hf : findP ps r tb = (k : Int) := by unfold findP; rw [he]; simp
    rw [hf, if_pos rfl, if_neg (by omega), List.append_nil, Int.toNat_natCast, List.getD_eq_getElem?_getD, List.getElem?_eq_getElem hk, Option.getD_some]
    rw [flat_only (rIn ps r) tb k hk (fun i hi hne => ?_)]
    · unfold rIn
      rw [alikeP_symm, if_pos hal, same_eq]
    · unfold rIn
      rw [alikeP_symm]
      cases hb : alikeP ps r tb[i]
      · rfl
      · exfalso
        have hal2 := alikeP_iff.1 hal
        have hb2 := alikeP_iff.1 hb
        rcases Nat.lt_or_gt_of_ne hne with hlt | hgt
        · have := hu k (Nat.zero_le _) hk
          rw [List.any_eq_false] at this
          exact this tb[i] (by rw [List.mem_take_iff_getElem]; exact ⟨i, by omega, rfl⟩) (alikeP_iff.2 fun p hp => by rw [hb2 p hp, hal2 p hp])
        · have := hu i (Nat.zero_le _) hi
          rw [List.any_eq_false] at this
          exact this tb[k] (by rw [List.mem_take_iff_getElem]; exact ⟨k, by omega, rfl⟩) (alikeP_iff.2 fun p hp => by rw [hb2 p hp, hal2 p hp])
theorem rB_eq (ps : List Int) (ta : VTab) (r : VRow) : rB ps ta r = chB ps ta r := by
  have hany : ta.any (fun x => alikeP ps x r) = ta.any (alikeP ps r) := by
    congr 1
    funext x
    exact alikeP_symm ps x r
  unfold rB chB
  rw [hany, ← findP_ge]
  by_cases h : findP ps r ta < 0
  · rw [if_neg (by simpa using h), if_pos h]
  · rw [if_pos (by simpa using h), if_neg h]
/-- Where the second table is keyed, the reference's changes are the program's. -/
theorem rdiff_eq {n : Nat} {ps : List Int} {ta tb : VTab} (h : (rowF n ps tb 0 tb).2 = 0) : rdiffF ps ta tb = diffF ps ta tb := by
  unfold rdiffF diffF
  rw [show rA ps tb = chA ps tb from funext (rA_eq h), show rB ps ta = chB ps ta from funext (rB_eq ps ta)]
end Go.Proofs.YtgiemhooeoakmaaDoor

namespace Go.Proofs.YtgiemhooeoakmaaDoor
open Go.RowKit Go.ChangeShapes Go.WideShapes
set_option linter.unusedVariables false
set_option linter.unusedSimpArgs false

def oneC (a b : Chg) : Bool := decide (a = b)
theorem oneC_eq (a b : Chg) : oneC a b = (decide (a.kind = b.kind) && (sameV a.old b.old && sameV a.new b.new)) := by
  unfold oneC sameV
  rw [Bool.eq_iff_iff]
  simp [Chg.ext_iff']
set_option maxHeartbeats 1000000 in
theorem one25_any (o1 n1 o2 n2 : Value) (a b : Chg) (w : World) (h1 : RdRV w w.heap.size o1 a.old) (h2 : RdRV w w.heap.size n1 a.new) (h3 : RdRV w w.heap.size o2 b.old) (h4 : RdRV w w.heap.size n2 b.new) :
    Calls Tryd.prog 71 #[.agg #[.int .i64 a.kind, o1, n1], .agg #[.int .i64 b.kind, o2, n2]] w fun e w' => e = .returned (.bool (oneC a b)) ∧ Below w.heap.size w w' := by
  refine cps fun R HR => ?_
  rw [oneC_eq] at HR
  have g1 := h1; have g2 := h2; have g3 := h3; have g4 := h4
  obtain ⟨A1, c1, rfl, -⟩ := h1.is
  obtain ⟨A2, c2, rfl, -⟩ := h2.is
  obtain ⟨A3, c3, rfl, -⟩ := h3.is
  obtain ⟨A4, c4, rfl, -⟩ := h4.is
  clear h1 h2 h3 h4
  obtain ⟨ak, ao, an⟩ := a
  obtain ⟨bk, bo, bn⟩ := b
  obtain ⟨w0, hw0⟩ : ∃ w0, w0 = (w.alloc (.cells #[.int .i64 ak, .slice A1 ao.length c1, .slice A2 an.length c2] 123)).alloc (.cells #[.int .i64 bk, .slice A3 bo.length c3, .slice A4 bn.length c4] 123) := ⟨_, rfl⟩
  have bw0 : Below w.heap.size w w0 := by rw [hw0]; exact ((Below.refl _ _).alloc (Nat.le_refl _) _).alloc (by simp) _
  have X := (Box.new w 123 #[.int .i64 ak, .slice A1 ao.length c1, .slice A2 an.length c2]).alloc (.cells #[.int .i64 bk, .slice A3 bo.length c3, .slice A4 bn.length c4] 123)
  have Z := Box.new (w.alloc (.cells #[.int .i64 ak, .slice A1 ao.length c1, .slice A2 an.length c2] 123)) 123 #[.int .i64 bk, .slice A3 bo.length c3, .slice A4 bn.length c4]
  rw [← hw0] at X Z
  rw [show (w.alloc (.cells #[.int .i64 ak, .slice A1 ao.length c1, .slice A2 an.length c2] 123)).heap.size = w.heap.size + 1 by simp] at Z
  have HX := Lib.hid X; have HZ := Lib.hid Z; have HW0 := Lib.hid hw0; have HB0 := Lib.hid bw0
  clear X Z hw0 bw0
  obtain ⟨t, ht⟩ : ∃ t, t = decide (ak = bk) := ⟨_, rfl⟩
  have d0 : (ak == bk) = t := by rw [ht, Bool.eq_iff_iff, beq_iff_eq, decide_eq_true_iff]
  dsimp only at HR g1 g2 g3 g4
  rw [← ht] at HR
  clear ht
  go_enter Tryd.func71, Tryd.ntmps71
  cases t
  · go_wp2
    rw [← HW0.out]
    exact HR.out _ _ ⟨rfl, HB0.out⟩
  · go_wp2_with fail
    rw [← HW0.out]
    refine (sameV_any _ _ ao bo _ (RdF.next g1 HB0.out) (RdF.next g3 HB0.out)).mono ?_
    rintro e w1 ⟨rfl, b1⟩
    have bw1 := HB0.out.trans (b1.mono HB0.out.size)
    have X1 := HX.out.below b1 HX.out.lt
    have Z1 := HZ.out.below b1 HZ.out.lt
    have x2 := X1.cell 2
    have z2 := Z1.cell 2
    simp at x2 z2
    obtain ⟨s, hs⟩ : ∃ s, s = sameV ao bo := ⟨_, rfl⟩
    rw [← hs] at HR ⊢
    clear hs X1 Z1
    cases s
    · go_wp2
      exact HR.out _ _ ⟨rfl, bw1⟩
    · go_wp2_with fail
      refine (sameV_any _ _ an bn _ (RdF.next g2 bw1) (RdF.next g4 bw1)).mono ?_
      rintro e w2 ⟨rfl, b2⟩
      go_wp2
      exact HR.out _ _ ⟨rfl, bw1.trans (b2.mono bw1.size)⟩
end Go.Proofs.YtgiemhooeoakmaaDoor

namespace Go.Proofs.YtgiemhooeoakmaaDoor
open Go.RowKit Go.ChangeShapes Go.WideShapes
set_option linter.unusedVariables false
set_option linter.unusedSimpArgs false

def sameCh (a b : List Chg) : Bool := decide (a = b)
set_option maxHeartbeats 2000000 in
theorem sameCh_any (v1 v2 : Value) (a b : List Chg) (w : World) (h1 : RdCh rvalV w w.heap.size v1 a) (h2 : RdCh rvalV w w.heap.size v2 b) :
    Calls Tryd.prog 22 #[v1, v2] w fun e w' => e = .returned (.bool (sameCh a b)) ∧ Below w.heap.size w w' := by
  refine cps fun R HR => ?_
  have g1 := h1; have g2 := h2
  obtain ⟨A, c, rfl⟩ := h1.form
  obtain ⟨A', c', rfl⟩ := h2.form
  have hf1 := g1.few
  have hf2 := g2.few
  clear h1 h2
  go_enter Tryd.func22, Tryd.ntmps22
  by_cases hl : a.length = b.length
  · have d : ((a.length : Int) != (b.length : Int)) = false := by simp [hl]
    have HL := Lib.hid hl
    go_wp2
    go_loopw [13] (fun i wr => ∃ k : Nat, k ≤ a.length ∧ i = .int .i64 k ∧ a.take k = b.take k ∧ Below w.heap.size w wr) (fun i _ => a.length - (intOf i).toNat)
    case atStart => exact ⟨0, Nat.zero_le _, rfl, rfl, Below.refl _ _⟩
    case round =>
      obtain ⟨k, hk, rfl, hN, hB⟩ := hrel
      have HN := Lib.hid hN; clear hN
      by_cases hlt : k < a.length
      · have hltb : k < b.length := by omega
        obtain ⟨p, c3, uo, un, hv, q0, q1, q2, q3, q4⟩ := (g1.next hB).at hlt
        injection hv with hA hln hcc
        subst hA
        subst hcc
        clear hln
        obtain ⟨p', c4, vo, vn, hv', r0, r1, r2, r3, r4⟩ := (g2.next hB).at hltb
        injection hv' with hA hln hcc
        subst hA
        subst hcc
        clear hln
        have hs1 : a.take (k + 1) = a.take k ++ [a[k]] := List.take_succ_eq_append_getElem hlt
        have hs2 : b.take (k + 1) = b.take k ++ [b[k]] := List.take_succ_eq_append_getElem hltb
        obtain ⟨x, hx⟩ : ∃ x, x = a[k] := ⟨_, rfl⟩
        obtain ⟨y, hy⟩ : ∃ y, y = b[k] := ⟨_, rfl⟩
        rw [← hx] at q0 q3 q4 hs1
        rw [← hy] at r0 r3 r4 hs2
        have Q3 := Lib.hid q3; have Q4 := Lib.hid q4; have R3 := Lib.hid r3; have R4 := Lib.hid r4
        obtain ⟨B1, d1, rfl, -⟩ := q3.is
        obtain ⟨B2, d2, rfl, -⟩ := q4.is
        obtain ⟨B3, d3, rfl, -⟩ := r3.is
        obtain ⟨B4, d4, rfl, -⟩ := r4.is
        have S1 := Lib.hid hs1; have S2 := Lib.hid hs2
        obtain ⟨t, ht⟩ : ∃ t, t = oneC x y := ⟨_, rfl⟩
        have gO : ∀ dn os, Calls Tryd.prog 71 #[.agg #[.int .i64 x.kind, .slice B1 x.old.length d1, .slice B2 x.new.length d2], .agg #[.int .i64 y.kind, .slice B3 y.old.length d3, .slice B4 y.new.length d4]] (Go.Sort.grow (redrawn wr dn) os) fun e' w'' => e' = .returned (.bool t) ∧ ∃ p : Regrown, w'' = Go.Sort.grow (redrawn wr p.d) p.os := fun dn os => Calls.regrown_of (by
          have br := below_regrown wr dn os
          rw [ht]
          exact one25_any _ _ _ _ x y _ (RdF.next Q3.out br) (RdF.next Q4.out br) (RdF.next R3.out br) (RdF.next R4.out br))
        have HT := Lib.hid ht
        have k0 := cell_regrown q0; have k1 := cell_regrown q1; have k2 := cell_regrown q2
        have k3 := cell_regrown r0; have k4 := cell_regrown r1; have k5 := cell_regrown r2
        have dk : decide ((k : Int) < a.length) = true := decide_eq_true (by omega)
        have hltI : (k : Int) < b.length := by omega
        clear hx hy hs1 hs2 hl ht q0 q1 q2 r0 r1 r2 q3 q4 r3 r4
        go_wp2
        refine wp_region_quiet_below (by kernel_rfl) (by kernel_rfl) ?_
        repeat (go_big_quiet_step ((go_at_call 71; with_reducible exact gO _ _)))
        refine wpQuiet_nil ?_
        intro w9 hw9
        have bel : Below wr.heap.size wr w9 := by obtain ⟨p, rfl⟩ := hw9; exact below_regrown _ p.d p.os
        clear hw9 gO k0 k1 k2 k3 k4 k5
        have hB9 := hB.trans (bel.mono hB.size)
        cases t
        · have hno : sameCh a b = false := by
            unfold sameCh
            rw [decide_eq_false_iff_not]
            intro hab
            have h1 := S1.out
            have h2 := S2.out
            rw [hab, h2] at h1
            have h3 := HN.out
            rw [hab] at h3
            have : y = x := by simpa using h1
            have h5 := HT.out
            unfold oneC at h5
            rw [this] at h5
            simp at h5
          have HNO := Lib.hid hno
          clear hno
          go_wp2
          exact HR.out _ _ ⟨by rw [HNO.out]; try rfl, hB9⟩
        · have hnn : a.take (k + 1) = b.take (k + 1) := by
            have h5 := HT.out
            unfold oneC at h5
            rw [S1.out, S2.out, HN.out, of_decide_eq_true h5.symm]
          have HNN := Lib.hid hnn
          clear hnn
          go_wp2
          exact ⟨⟨k + 1, by omega, by go_num, HNN.out, hB9⟩, by simp [intOf]; omega⟩
      · have HY := Lib.hid (show sameCh a b = true by
          unfold sameCh
          rw [decide_eq_true_iff]
          have := HN.out
          rw [List.take_of_length_le (by omega), List.take_of_length_le (by omega)] at this
          exact this)
        go_wp2
        exact HR.out _ _ ⟨by rw [HY.out]; try rfl, hB⟩
  · have HNO := Lib.hid (show sameCh a b = false by
      unfold sameCh
      rw [decide_eq_false_iff_not]
      rintro rfl
      exact hl rfl)
    have d : ((a.length : Int) != (b.length : Int)) = true := by rw [bne_iff_ne]; omega
    clear hl
    go_wp2
    exact HR.out _ _ ⟨by rw [HNO.out]; try rfl, Below.refl _ _⟩
end Go.Proofs.YtgiemhooeoakmaaDoor


/- Layer 17: Compare; the library's comparisons. Layer 17: Compare. The closures of diff, handed to slices. -/
import Derived.Lib.Bytealg
import Derived.Lib.Walk
import Derived.WalkLawsBesides
import Derived.Deep.RegionHeld3
import Derived.StillTailTactics
import Derived.Test.YtgiemhooeoakmaaDoorKA
namespace Go.Proofs.YtgiemhooeoakmaaDoor
open Go.RowKit Go.ChangeShapes Go.WideShapes
set_option linter.unusedVariables false
set_option linter.unusedSimpArgs false

def cmpI (a b : Int) : Int := if a < b then -1 else if b < a then 1 else 0
theorem nanI_any (x : Int) (w : World) : Calls Tryd.prog 138 #[.int .i64 x] w fun e w' => e = .returned (.bool false) ∧ w' = w := by
  refine cps fun R HR => ?_
  have d : (x != x) = false := by simp
  go_enter Tryd.func138, Tryd.ntmps138
  go_wp2
  exact HR.out _ _ ⟨rfl, rfl⟩
theorem nanL_any (x : Int) (w : World) : Calls Tryd.prog 140 #[.int .i64 x] w fun e w' => e = .returned (.bool false) ∧ w' = w := by
  refine cps fun R HR => ?_
  have d : (x != x) = false := by simp
  go_enter Tryd.func140, Tryd.ntmps140
  go_wp2
  exact HR.out _ _ ⟨rfl, rfl⟩
theorem cmpI_any (x y : Int) (w : World) : Calls Tryd.prog 127 #[.int .i64 x, .int .i64 y] w fun e w' => e = .returned (.int .i64 (cmpI x y)) ∧ w' = w := by
  refine cps fun R HR => ?_
  unfold cmpI at HR
  go_enter Tryd.func127, Tryd.ntmps127
  go_wp2_with fail
  refine (nanI_any x _).mono ?_
  rintro e w1 ⟨rfl, rfl⟩
  go_wp2_with fail
  refine (nanI_any y _).mono ?_
  rintro e w1 ⟨rfl, rfl⟩
  by_cases h1 : x < y
  · rw [if_pos h1] at HR
    have d : decide (x < y) = true := decide_eq_true h1
    go_wp2
    exact HR.out _ _ ⟨rfl, rfl⟩
  · rw [if_neg h1] at HR
    have d : decide (x < y) = false := decide_eq_false h1
    by_cases h2 : y < x
    · rw [if_pos h2] at HR
      have d2 : decide (y < x) = true := decide_eq_true h2
      clear h1
      go_wp2
      exact HR.out _ _ ⟨rfl, rfl⟩
    · rw [if_neg h2] at HR
      have d2 : decide (y < x) = false := decide_eq_false h2
      clear h1 h2
      go_wp2
      exact HR.out _ _ ⟨rfl, rfl⟩
theorem cmpL_any (x y : Int) (w : World) : Calls Tryd.prog 129 #[.int .i64 x, .int .i64 y] w fun e w' => e = .returned (.int .i64 (cmpI x y)) ∧ w' = w := by
  refine cps fun R HR => ?_
  unfold cmpI at HR
  go_enter Tryd.func129, Tryd.ntmps129
  go_wp2_with fail
  refine (nanL_any x _).mono ?_
  rintro e w1 ⟨rfl, rfl⟩
  go_wp2_with fail
  refine (nanL_any y _).mono ?_
  rintro e w1 ⟨rfl, rfl⟩
  by_cases h1 : x < y
  · rw [if_pos h1] at HR
    have d : decide (x < y) = true := decide_eq_true h1
    go_wp2
    exact HR.out _ _ ⟨rfl, rfl⟩
  · rw [if_neg h1] at HR
    have d : decide (x < y) = false := decide_eq_false h1
    by_cases h2 : y < x
    · rw [if_pos h2] at HR
      have d2 : decide (y < x) = true := decide_eq_true h2
      clear h1
      go_wp2
      exact HR.out _ _ ⟨rfl, rfl⟩
    · rw [if_neg h2] at HR
      have d2 : decide (y < x) = false := decide_eq_false h2
      clear h1 h2
      go_wp2
      exact HR.out _ _ ⟨rfl, rfl⟩
def cmpS (a b : ByteArray) : Int := Lib.compareBytes a.data.toList b.data.toList
set_option maxRecDepth 100000 in
theorem cmpString_any (a b : ByteArray) (w : World) : Calls Tryd.prog 139 #[.string a, .string b] w fun e w' => e = .returned (.int .i64 (cmpS a b)) ∧ w' = w := by
  refine cps fun R HR => ?_
  unfold cmpS at HR
  go_enter Tryd.func139, Tryd.ntmps139
  go_wp2
  rw [run_callFunc_extern Tryd.func144 (by kernel_rfl) (by kernel_rfl) (by kernel_rfl) (e := Extern.BytealgCompare.compare) (by kernel_rfl), Lib.run_compareString]
  simp only [Result.andThen]
  rw [Oper.upon_value]
  go_wp2
  exact HR.out _ _ ⟨rfl, rfl⟩
theorem strCompare_any (a b : ByteArray) (w : World) : Calls Tryd.prog 128 #[.string a, .string b] w fun e w' => e = .returned (.int .i64 (cmpS a b)) ∧ w' = w := by
  refine cps fun R HR => ?_
  go_enter Tryd.func128, Tryd.ntmps128
  go_wp2_with fail
  refine (cmpString_any a b _).mono ?_
  rintro e w1 ⟨rfl, rfl⟩
  go_wp2
  exact HR.out _ _ ⟨rfl, rfl⟩
/-- The first number that isn't 0. -/
def orI : List Int → Int
  | [] => 0
  | a :: r => if a = 0 then orI r else a
theorem orInt_any (v : Value) (l : List Int) (w : World) {B : Nat} (h : RdI w B v l) :
    Calls Tryd.prog 126 #[v] w fun e w' => e = .returned (.int .i64 (orI l)) ∧ w' = w := by
  refine cps fun R HR => ?_
  have h0 := h
  obtain ⟨A, c, rfl, -⟩ := h.is
  have hfew := h.few
  clear h
  go_enter Tryd.func126, Tryd.ntmps126
  go_wp2
  go_loopw [8] (fun i wr => ∃ k : Nat, k ≤ l.length ∧ i = .int .i64 k ∧ orI (l.drop k) = orI l ∧ wr = w) (fun i _ => l.length - (intOf i).toNat)
  case atStart => exact ⟨0, Nat.zero_le _, rfl, rfl, rfl⟩
  case round =>
    obtain ⟨k, hk, rfl, hN, rfl⟩ := hrel
    have HN := Lib.hid hN; clear hN
    by_cases hlt : k < l.length
    · obtain ⟨p, c3, hv, hcp⟩ := h0.at hlt
      injection hv with hA _ hcc
      subst hA
      subst hcc
      have hd : l.drop k = l[k] :: l.drop (k + 1) := List.drop_eq_getElem_cons hlt
      obtain ⟨s, hs⟩ : ∃ s, s = l[k] := ⟨_, rfl⟩
      rw [← hs] at hcp hd
      clear hs
      have dk : decide ((k : Int) < l.length) = true := decide_eq_true (by omega)
      by_cases hb : s = 0
      · have HV := Lib.hid (show orI (l.drop (k + 1)) = orI l by rw [← HN.out, hd, orI, if_pos hb])
        have d : (s != 0) = false := by simp [hb]
        clear hd hb
        go_wp2
        exact ⟨⟨k + 1, by omega, by go_num, HV.out, trivial⟩, by simp [intOf]; omega⟩
      · have HV := Lib.hid (show orI l = s by rw [← HN.out, hd, orI, if_neg hb])
        have d : (s != 0) = true := by rw [bne_iff_ne]; exact hb
        clear hd hb
        go_wp2
        exact HR.out _ _ ⟨by rw [HV.out]; try rfl, rfl⟩
    · have hd : l.drop k = [] := List.drop_of_length_le (by omega)
      have HV := Lib.hid (show orI l = 0 by rw [← HN.out, hd, orI])
      clear hd
      go_wp2
      exact HR.out _ _ ⟨by rw [HV.out]; try rfl, rfl⟩
def cmpB (a b : Bool) : Int := if a = b then 0 else if a then 1 else -1
/-- Which of two values is ahead. -/
def cmpV (a b : Val) : Int := orI [cmpI a.kind b.kind, cmpS a.s b.s, cmpI a.n b.n, cmpB a.b b.b]
theorem cmpI_zero {a b : Int} : cmpI a b = 0 ↔ a = b := by
  unfold cmpI
  split
  · simp; omega
  · split
    · simp; omega
    · simp; omega
theorem compareBytes_zero : ∀ {a b : List UInt8}, Lib.compareBytes a b = 0 ↔ a = b
  | [], [] => by simp [Lib.compareBytes]
  | [], _ :: _ => by simp [Lib.compareBytes]
  | _ :: _, [] => by simp [Lib.compareBytes]
  | a :: r, b :: q => by
    rw [Lib.compareBytes]
    split
    · rename_i h
      constructor
      · intro hh; cases hh
      · intro hh; injection hh with h1; rw [h1] at h; exact absurd h (UInt8.lt_irrefl _)
    · split
      · rename_i h
        constructor
        · intro hh; cases hh
        · intro hh; injection hh with h1; rw [h1] at h; exact absurd h (UInt8.lt_irrefl _)
      · rename_i h1 h2
        have hab : a = b := UInt8.le_antisymm (UInt8.not_lt.1 h2) (UInt8.not_lt.1 h1)
        rw [compareBytes_zero]
        simp [hab]
theorem cmpS_zero {a b : ByteArray} : cmpS a b = 0 ↔ a = b := by
  unfold cmpS
  rw [compareBytes_zero]
  constructor
  · intro h
    exact ByteArray.ext (Array.toList_inj.1 h)
  · intro h; rw [h]
theorem cmpB_zero {a b : Bool} : cmpB a b = 0 ↔ a = b := by cases a <;> cases b <;> simp [cmpB]
theorem orI_zero4 (a b c d : Int) : orI [a, b, c, d] = 0 ↔ a = 0 ∧ b = 0 ∧ c = 0 ∧ d = 0 := by
  by_cases h1 : a = 0 <;> by_cases h2 : b = 0 <;> by_cases h3 : c = 0 <;> by_cases h4 : d = 0 <;> simp [orI, h1, h2, h3, h4]
theorem cmpV_zero {a b : Val} : cmpV a b = 0 ↔ a = b := by
  unfold cmpV
  rw [orI_zero4, cmpI_zero, cmpS_zero, cmpI_zero, cmpB_zero, Val.ext_iff']
end Go.Proofs.YtgiemhooeoakmaaDoor

namespace Go.Proofs.YtgiemhooeoakmaaDoor
open Go.RowKit Go.ChangeShapes Go.WideShapes
set_option linter.unusedVariables false
set_option linter.unusedSimpArgs false

set_option maxHeartbeats 2000000 in
set_option maxRecDepth 100000 in
theorem compare_at (ak bk an bn t : Int) (a1 b1 : ByteArray) (ab bb : Bool) (w : World) (ht : cmpB ab bb = t) :
    Calls Tryd.prog 105 #[.agg #[.int .i64 ak, .string a1, .int .i64 an, .bool ab], .agg #[.int .i64 bk, .string b1, .int .i64 bn, .bool bb]] w fun e w' => e = .returned (.int .i64 (orI [cmpI ak bk, cmpS a1 b1, cmpI an bn, t])) ∧ Below w.heap.size w w' := by
  refine cps fun R HR => ?_
  obtain ⟨w2, hw2⟩ : ∃ w2, w2 = (w.alloc (.cells #[.int .i64 ak, .string a1, .int .i64 an, .bool ab] 96)).alloc (.cells #[.int .i64 bk, .string b1, .int .i64 bn, .bool bb] 96) := ⟨_, rfl⟩
  have hb2 : Below w.heap.size w w2 := by rw [hw2]; exact ((Below.refl _ _).alloc (Nat.le_refl _) _).alloc (by simp) _
  have X1 := (Box.new w 96 #[.int .i64 ak, .string a1, .int .i64 an, .bool ab]).alloc (.cells #[.int .i64 bk, .string b1, .int .i64 bn, .bool bb] 96)
  have X2 := Box.new (w.alloc (.cells #[.int .i64 ak, .string a1, .int .i64 an, .bool ab] 96)) 96 #[.int .i64 bk, .string b1, .int .i64 bn, .bool bb]
  rw [← hw2] at X1 X2
  have p0 := X1.cell 0
  have p1 := X1.cell 1
  have p2 := X1.cell 2
  have q0 := X2.cell 0
  have q1 := X2.cell 1
  have q2 := X2.cell 2
  simp at p0 p1 p2 q0 q1 q2
  have hsz : w2.heap.size = w.heap.size + 1 + 1 := by rw [hw2]; simp
  have P := Lib.hid (And.intro p0 (And.intro p1 (And.intro p2 (And.intro q0 (And.intro q1 q2)))))
  have HW2 := Lib.hid hw2; have HB2 := Lib.hid hb2; have HSZ := Lib.hid hsz
  clear p0 p1 p2 q0 q1 q2 X1 X2 hw2 hb2 hsz
  go_enter Tryd.func105, Tryd.ntmps105
  obtain ⟨x1, hx1⟩ : ∃ x, x = cmpI ak bk := ⟨_, rfl⟩
  obtain ⟨x2, hx2⟩ : ∃ x, x = cmpS a1 b1 := ⟨_, rfl⟩
  obtain ⟨x3, hx3⟩ : ∃ x, x = cmpI an bn := ⟨_, rfl⟩
  have g1 : ∀ w, Calls Tryd.prog 127 #[.int .i64 ak, .int .i64 bk] w fun e w' => e = .returned (.int .i64 x1) ∧ w' = w := fun w => by rw [hx1]; exact cmpI_any ak bk w
  have g2 : ∀ w, Calls Tryd.prog 128 #[.string a1, .string b1] w fun e w' => e = .returned (.int .i64 x2) ∧ w' = w := fun w => by rw [hx2]; exact strCompare_any a1 b1 w
  have g3 : ∀ w, Calls Tryd.prog 129 #[.int .i64 an, .int .i64 bn] w fun e w' => e = .returned (.int .i64 x3) ∧ w' = w := fun w => by rw [hx3]; exact cmpL_any an bn w
  rw [← hx1, ← hx2, ← hx3] at HR
  have G1 := Lib.hid g1; have G2 := Lib.hid g2; have G3 := Lib.hid g3
  clear hx1 hx2 hx3 g1 g2 g3
  cases ab <;> cases bb
  all_goals
    first
    | (have ht2 : t = 0 := ht.symm; subst ht2)
    | (have ht2 : t = 1 := ht.symm; subst ht2)
    | (have ht2 : t = -1 := ht.symm; subst ht2)
    clear ht
    go_wp2
    rw [← HW2.out]
    obtain ⟨p0, p1, p2, q0, q1, q2⟩ := P.out
    refine wp_region_still_tail 16 (by kernel_rfl) (by kernel_rfl) ?_
    simp only [List.take_succ_cons, List.take_zero, List.drop_succ_cons, List.drop_zero]
    change wpStill _ _ w2.drew _ _ _
    repeat (first | still_step | still_call (G1.out _) | still_call (G2.out _) | still_call (G3.out _))
    refine wpStill_nil ?_
    change wpList _ _ _ _ _ w2.drew
    have hI := fun t : Int => RdI.new w2.drew [x1, x2, x3, t] 3 4 rfl (by omega)
    have hB := fun o : Obj => HB2.out.drew.alloc (by show _ ≤ w2.heap.size; rw [HSZ.out]; omega) o
    clear p0 p1 p2 q0 q1 q2
    go_wp2_with fail
    refine (orInt_any _ _ _ (hI _)).mono ?_
    rintro e w4 ⟨rfl, rfl⟩
    go_wp2
    exact HR.out _ _ ⟨rfl, hB _⟩
theorem compare_any (a b : Val) (w : World) : Calls Tryd.prog 105 #[valA a, valA b] w fun e w' => e = .returned (.int .i64 (cmpV a b)) ∧ Below w.heap.size w w' :=
  compare_at a.kind b.kind a.n b.n _ a.s b.s a.b b.b w rfl
end Go.Proofs.YtgiemhooeoakmaaDoor

namespace Go.Proofs.YtgiemhooeoakmaaDoor
open Go.RowKit Go.ChangeShapes Go.WideShapes
set_option linter.unusedVariables false
set_option linter.unusedSimpArgs false

set_option maxHeartbeats 1000000 in
theorem idxNull_any (v c0_ : Value) (l : List Int) (pr : Int → Bool) (w : World) (h : RdI w w.heap.size v l)
    (hp : ∀ x ∈ l, ∀ wk, Below w.heap.size w wk → Calls Tryd.prog 61 #[.int .i64 x, c0_] wk fun e w' => e = .returned (.bool (pr x)) ∧ Below wk.heap.size wk w') :
    Calls Tryd.prog 99 #[v, .func (.func 61) #[] #[c0_]] w fun e w' => e = .returned (.int .i64 (idxP pr 0 l)) ∧ Below w.heap.size w w' := by
  refine cps fun R HR => ?_
  have h0 := h
  obtain ⟨A, c, rfl, -⟩ := h.is
  have hfew := h0.few
  have HP := Lib.hid hp
  clear h hp
  go_enter Tryd.func99, Tryd.ntmps99
  go_wp2
  go_loopw [8] (fun i wr => ∃ k : Nat, k ≤ l.length ∧ i = .int .i64 k ∧ idxP pr k (l.drop k) = idxP pr 0 l ∧ Below w.heap.size w wr) (fun i _ => l.length - (intOf i).toNat)
  case atStart => exact ⟨0, Nat.zero_le _, rfl, rfl, Below.refl _ _⟩
  case round =>
    obtain ⟨k, hk, rfl, hN, hB⟩ := hrel
    have HN := Lib.hid hN; clear hN
    by_cases hlt : k < l.length
    · obtain ⟨p, c3, hv, q0⟩ := (h0.below hB).at hlt
      injection hv with hA _ hcc
      subst hA
      subst hcc
      have hd : l.drop k = l[k] :: l.drop (k + 1) := List.drop_eq_getElem_cons hlt
      have hm : l[k] ∈ l := List.getElem_mem hlt
      obtain ⟨x, hx⟩ : ∃ x, x = l[k] := ⟨_, rfl⟩
      rw [← hx] at q0 hd hm
      have HD := Lib.hid hd; have HM := Lib.hid hm
      clear hx hd hm
      have dk : decide ((k : Int) < l.length) = true := decide_eq_true (by omega)
      go_wp2_with fail
      refine (HP.out x HM.out _ hB).mono ?_
      rintro e w1 ⟨rfl, b1⟩
      have hB1 := hB.trans (b1.mono hB.size)
      obtain ⟨kb, hkb2⟩ : ∃ kb, kb = pr x := ⟨_, rfl⟩
      rw [← hkb2]
      have HKB := Lib.hid hkb2
      clear hkb2
      cases kb
      · have HV := Lib.hid (show idxP pr (k + 1) (l.drop (k + 1)) = idxP pr 0 l by rw [← HN.out, HD.out, idxP, ← HKB.out, if_neg (by simp)])
        go_wp2
        exact ⟨⟨k + 1, by omega, by go_num, HV.out, hB1⟩, by simp [intOf]; omega⟩
      · have HV := Lib.hid (show idxP pr 0 l = k by rw [← HN.out, HD.out, idxP, ← HKB.out, if_pos rfl])
        go_wp2
        exact HR.out _ _ ⟨by rw [HV.out]; try rfl, hB1⟩
    · have hd : l.drop k = [] := List.drop_of_length_le (by omega)
      have HV := Lib.hid (show idxP pr 0 l = -1 by rw [← HN.out, hd, idxP])
      clear hd
      go_wp2
      exact HR.out _ _ ⟨by rw [HV.out]; try rfl, hB⟩
theorem anyNull_any (v c0_ : Value) (l : List Int) (pr : Int → Bool) (w : World) (h : RdI w w.heap.size v l)
    (hp : ∀ x ∈ l, ∀ wk, Below w.heap.size w wk → Calls Tryd.prog 61 #[.int .i64 x, c0_] wk fun e w' => e = .returned (.bool (pr x)) ∧ Below wk.heap.size wk w') :
    Calls Tryd.prog 60 #[v, .func (.func 61) #[] #[c0_]] w fun e w' => e = .returned (.bool (l.any pr)) ∧ Below w.heap.size w w' := by
  refine cps fun R HR => ?_
  rw [← idxP_any pr l 0] at HR
  obtain ⟨n, hn⟩ : ∃ n, n = idxP pr 0 l := ⟨_, rfl⟩
  rw [← hn] at HR
  have HN := Lib.hid hn; have HP := Lib.hid hp
  clear hn hp
  go_enter Tryd.func60, Tryd.ntmps60
  go_wp2_with fail
  refine (idxNull_any v c0_ l pr _ h HP.out).mono ?_
  rintro e w1 ⟨rfl, b1⟩
  rw [← HN.out]
  go_wp2
  exact HR.out _ _ ⟨rfl, b1⟩
set_option maxHeartbeats 1000000 in
theorem idxUn_any (v c0_ c1_ : Value) (l : List Int) (pr : Int → Bool) (w : World) (h : RdI w w.heap.size v l)
    (hp : ∀ x ∈ l, ∀ wk, Below w.heap.size w wk → Calls Tryd.prog 102 #[.int .i64 x, c0_, c1_] wk fun e w' => e = .returned (.bool (pr x)) ∧ Below wk.heap.size wk w') :
    Calls Tryd.prog 99 #[v, .func (.func 102) #[] #[c0_, c1_]] w fun e w' => e = .returned (.int .i64 (idxP pr 0 l)) ∧ Below w.heap.size w w' := by
  refine cps fun R HR => ?_
  have h0 := h
  obtain ⟨A, c, rfl, -⟩ := h.is
  have hfew := h0.few
  have HP := Lib.hid hp
  clear h hp
  go_enter Tryd.func99, Tryd.ntmps99
  go_wp2
  go_loopw [8] (fun i wr => ∃ k : Nat, k ≤ l.length ∧ i = .int .i64 k ∧ idxP pr k (l.drop k) = idxP pr 0 l ∧ Below w.heap.size w wr) (fun i _ => l.length - (intOf i).toNat)
  case atStart => exact ⟨0, Nat.zero_le _, rfl, rfl, Below.refl _ _⟩
  case round =>
    obtain ⟨k, hk, rfl, hN, hB⟩ := hrel
    have HN := Lib.hid hN; clear hN
    by_cases hlt : k < l.length
    · obtain ⟨p, c3, hv, q0⟩ := (h0.below hB).at hlt
      injection hv with hA _ hcc
      subst hA
      subst hcc
      have hd : l.drop k = l[k] :: l.drop (k + 1) := List.drop_eq_getElem_cons hlt
      have hm : l[k] ∈ l := List.getElem_mem hlt
      obtain ⟨x, hx⟩ : ∃ x, x = l[k] := ⟨_, rfl⟩
      rw [← hx] at q0 hd hm
      have HD := Lib.hid hd; have HM := Lib.hid hm
      clear hx hd hm
      have dk : decide ((k : Int) < l.length) = true := decide_eq_true (by omega)
      go_wp2_with fail
      refine (HP.out x HM.out _ hB).mono ?_
      rintro e w1 ⟨rfl, b1⟩
      have hB1 := hB.trans (b1.mono hB.size)
      obtain ⟨kb, hkb2⟩ : ∃ kb, kb = pr x := ⟨_, rfl⟩
      rw [← hkb2]
      have HKB := Lib.hid hkb2
      clear hkb2
      cases kb
      · have HV := Lib.hid (show idxP pr (k + 1) (l.drop (k + 1)) = idxP pr 0 l by rw [← HN.out, HD.out, idxP, ← HKB.out, if_neg (by simp)])
        go_wp2
        exact ⟨⟨k + 1, by omega, by go_num, HV.out, hB1⟩, by simp [intOf]; omega⟩
      · have HV := Lib.hid (show idxP pr 0 l = k by rw [← HN.out, HD.out, idxP, ← HKB.out, if_pos rfl])
        go_wp2
        exact HR.out _ _ ⟨by rw [HV.out]; try rfl, hB1⟩
    · have hd : l.drop k = [] := List.drop_of_length_le (by omega)
      have HV := Lib.hid (show idxP pr 0 l = -1 by rw [← HN.out, hd, idxP])
      clear hd
      go_wp2
      exact HR.out _ _ ⟨by rw [HV.out]; try rfl, hB⟩
theorem anyUn_any (v c0_ c1_ : Value) (l : List Int) (pr : Int → Bool) (w : World) (h : RdI w w.heap.size v l)
    (hp : ∀ x ∈ l, ∀ wk, Below w.heap.size w wk → Calls Tryd.prog 102 #[.int .i64 x, c0_, c1_] wk fun e w' => e = .returned (.bool (pr x)) ∧ Below wk.heap.size wk w') :
    Calls Tryd.prog 60 #[v, .func (.func 102) #[] #[c0_, c1_]] w fun e w' => e = .returned (.bool (l.any pr)) ∧ Below w.heap.size w w' := by
  refine cps fun R HR => ?_
  rw [← idxP_any pr l 0] at HR
  obtain ⟨n, hn⟩ : ∃ n, n = idxP pr 0 l := ⟨_, rfl⟩
  rw [← hn] at HR
  have HN := Lib.hid hn; have HP := Lib.hid hp
  clear hn hp
  go_enter Tryd.func60, Tryd.ntmps60
  go_wp2_with fail
  refine (idxUn_any v c0_ c1_ l pr _ h HP.out).mono ?_
  rintro e w1 ⟨rfl, b1⟩
  rw [← HN.out]
  go_wp2
  exact HR.out _ _ ⟨rfl, b1⟩
set_option maxHeartbeats 1000000 in
theorem idxRow_any (v c0_ c1_ : Value) (l : List VRow) (pr : VRow → Bool) (w : World) (h : RdVT w w.heap.size v l)
    (hp : ∀ x ∈ l, ∀ wk u, Below w.heap.size w wk → RdV wk wk.heap.size u x → Calls Tryd.prog 101 #[u, c0_, c1_] wk fun e w' => e = .returned (.bool (pr x)) ∧ Below wk.heap.size wk w') :
    Calls Tryd.prog 100 #[v, .func (.func 101) #[] #[c0_, c1_]] w fun e w' => e = .returned (.int .i64 (idxP pr 0 l)) ∧ Below w.heap.size w w' := by
  refine cps fun R HR => ?_
  have h0 := h
  obtain ⟨A, c, vs, rfl, -, -⟩ := h.is
  have hfew := h0.few
  have HP := Lib.hid hp
  clear h hp
  go_enter Tryd.func100, Tryd.ntmps100
  go_wp2
  go_loopw [8] (fun i wr => ∃ k : Nat, k ≤ l.length ∧ i = .int .i64 k ∧ idxP pr k (l.drop k) = idxP pr 0 l ∧ Below w.heap.size w wr) (fun i _ => l.length - (intOf i).toNat)
  case atStart => exact ⟨0, Nat.zero_le _, rfl, rfl, Below.refl _ _⟩
  case round =>
    obtain ⟨k, hk, rfl, hN, hB⟩ := hrel
    have HN := Lib.hid hN; clear hN
    by_cases hlt : k < l.length
    · obtain ⟨p, c3, u, hv, q0, q1⟩ := (RdE.next (RdF.stays valV 4) h0 hB).at hlt
      injection hv with hA _ hcc
      subst hA
      subst hcc
      have hd : l.drop k = l[k] :: l.drop (k + 1) := List.drop_eq_getElem_cons hlt
      have hm : l[k] ∈ l := List.getElem_mem hlt
      obtain ⟨x, hx⟩ : ∃ x, x = l[k] := ⟨_, rfl⟩
      rw [← hx] at q1 hd hm
      have HD := Lib.hid hd; have HM := Lib.hid hm
      clear hx hd hm
      have dk : decide ((k : Int) < l.length) = true := decide_eq_true (by omega)
      go_wp2_with fail
      refine (HP.out x HM.out _ _ hB q1).mono ?_
      rintro e w1 ⟨rfl, b1⟩
      have hB1 := hB.trans (b1.mono hB.size)
      obtain ⟨kb, hkb2⟩ : ∃ kb, kb = pr x := ⟨_, rfl⟩
      rw [← hkb2]
      have HKB := Lib.hid hkb2
      clear hkb2
      cases kb
      · have HV := Lib.hid (show idxP pr (k + 1) (l.drop (k + 1)) = idxP pr 0 l by rw [← HN.out, HD.out, idxP, ← HKB.out, if_neg (by simp)])
        go_wp2
        exact ⟨⟨k + 1, by omega, by go_num, HV.out, hB1⟩, by simp [intOf]; omega⟩
      · have HV := Lib.hid (show idxP pr 0 l = k by rw [← HN.out, HD.out, idxP, ← HKB.out, if_pos rfl])
        go_wp2
        exact HR.out _ _ ⟨by rw [HV.out]; try rfl, hB1⟩
    · have hd : l.drop k = [] := List.drop_of_length_le (by omega)
      have HV := Lib.hid (show idxP pr 0 l = -1 by rw [← HN.out, hd, idxP])
      clear hd
      go_wp2
      exact HR.out _ _ ⟨by rw [HV.out]; try rfl, hB⟩
end Go.Proofs.YtgiemhooeoakmaaDoor


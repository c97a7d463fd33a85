/- Layer 2: the functions Step, Run, Bad, Valid, Longest, as lists of bytes have them. -/
import Derived.Test.YtgiemhooeoakmaaDoorMem
namespace Go.Proofs.YtgiemhooeoakmaaDoor
open Go.RowKit
set_option linter.unusedVariables false
set_option linter.unusedSimpArgs false

/-- The spans of each state: from, to, the state behind. -/
def spans : Nat → List (Nat × Nat × Nat)
  | 0 => [(0, 127, 0), (194, 223, 1), (224, 224, 4), (225, 236, 2), (237, 237, 5), (238, 239, 2), (240, 240, 6), (241, 243, 3), (244, 244, 7)]
  | 1 => [(128, 191, 0)]
  | 2 => [(128, 191, 1)]
  | 3 => [(128, 191, 2)]
  | 4 => [(160, 191, 1)]
  | 5 => [(128, 159, 1)]
  | 6 => [(144, 191, 2)]
  | 7 => [(128, 143, 2)]
  | _ => []
/-- The first span that holds a byte. -/
def stepL : List (Nat × Nat × Nat) → Nat → Option Nat
  | [], _ => none
  | (f, t, n) :: r, b => if f ≤ b ∧ b ≤ t then some n else stepL r b
def stepF (st b : Nat) : Option Nat := stepL (spans st) b
def spanV (x : Nat × Nat × Nat) : List Value := [.int .u8 x.1, .int .u8 x.2.1, .int .i64 x.2.2]

/-- The table, as it lies in memory. -/
def Tab (w : World) : Prop := ∀ st, st < 8 → ∃ A c, w.cell? ⟨1, st, none⟩ = some (.slice A (spans st).length c) ∧ Sl w w.heap.size 3 A (spans st).length c ((spans st).flatMap spanV)
theorem Tab.below {w w' : World} (h : Tab w) (hb : Below w.heap.size w w') : Tab w' := fun st hst => by
  obtain ⟨A, c, hc, hs⟩ := h st hst
  refine ⟨A, c, ?_, (hs.below hb).more hb.size⟩
  rw [hb.cell (p := ⟨1, st, none⟩) (World.block_lt_of_cell? w _ hc)]
  exact hc
theorem Tab.drewN {w : World} (h : Tab w) (k : Nat) : Tab (w.drewN k) := fun st hst => by
  obtain ⟨A, c, hc, hs⟩ := h st hst
  exact ⟨A, c, hc, hs.drewN k⟩

/-- What Step hands back. -/
def stepV (st b : Nat) : Value := match stepF st b with
  | some n => .tuple #[.int .i64 n, .bool true]
  | none => .tuple #[.int .i64 0, .bool false]

theorem step_any (st b : Nat) (w : World) (hst : st < 8) (hb : b < 256) (ht : Tab w) :
    Calls Tryd.prog 147 #[.int .i64 st, .int .u8 b] w fun e w' => e = .returned (stepV st b) ∧ Below w.heap.size w w' := by
  refine cps fun R HR => ?_
  obtain ⟨A, c, hc, hs⟩ := ht st hst
  have hst' : (st : Int) < 8 := by omega
  have hL : (spans st).length ≤ 9 := by
    obtain rfl | rfl | rfl | rfl | rfl | rfl | rfl | rfl : st = 0 ∨ st = 1 ∨ st = 2 ∨ st = 3 ∨ st = 4 ∨ st = 5 ∨ st = 6 ∨ st = 7 := by omega
    all_goals decide
  generalize hl : spans st = L at *
  have HL := Lib.hid hl; clear hl
  go_enter Tryd.func147, Tryd.ntmps147
  go_wp2
  clear hc hst'
  go_loopw [12] (fun i wr => ∃ k : Nat, k ≤ L.length ∧ i = .int .i64 k ∧ stepL (L.drop k) b = stepL L b ∧ Below w.heap.size w wr) (fun i _ => L.length - (intOf i).toNat)
  case atStart => exact ⟨0, Nat.zero_le _, rfl, rfl, Below.refl _ _⟩
  case round =>
    obtain ⟨k, hk, rfl, hS, hB⟩ := hrel
    have HS := Lib.hid hS; clear hS
    by_cases hlt : k < L.length
    · have hs' := hs.below hB
      obtain ⟨a, rfl⟩ := hs.some_ (by omega)
      obtain ⟨⟨f, t, n⟩, hx⟩ : ∃ x, L[k]? = some x := ⟨_, List.getElem?_eq_getElem hlt⟩
      have hdr : L.drop k = (f, t, n) :: L.drop (k + 1) := by
        rw [List.drop_eq_getElem_cons hlt]
        rw [List.getElem?_eq_getElem hlt] at hx
        injection hx with hx
        rw [hx]
      have c0 : wr.cell? (a.add (k * 3)) = some (.int .u8 f) := hs'.fld0 (fun _ => rfl) (by omega) hx rfl
      have c1 : wr.cell? ⟨(a.add (k * 3)).block, (a.add (k * 3)).off + 1, none⟩ = some (.int .u8 t) := hs'.fld (fun _ => rfl) hx 0 rfl
      have c2 : wr.cell? ⟨(a.add (k * 3)).block, (a.add (k * 3)).off + 2, none⟩ = some (.int .i64 n) := hs'.fld (fun _ => rfl) hx 1 rfl
      have HD := Lib.hid hdr
      clear hdr hx
      go_wp2
      · have h1 : f ≤ b := by assumption
        have h2 : b ≤ t := by assumption
        have hv : stepV st b = .tuple #[.int .i64 n, .bool true] := by
          unfold stepV stepF
          rw [HL.out, ← HS.out, HD.out, stepL, if_pos ⟨h1, h2⟩]
        exact HR.out _ _ ⟨by rw [hv]; rfl, hB.alloc hB.size _⟩
      · have h1 : f ≤ b := by assumption
        have h2 : ¬ b ≤ t := by assumption
        have hn : stepL (L.drop (k + 1)) b = stepL L b := by rw [← HS.out, HD.out, stepL, if_neg (fun h => h2 h.2)]
        exact ⟨⟨k + 1, by omega, by go_num, hn, hB.alloc hB.size _⟩, by simp [intOf]; omega⟩
      · have h1 : ¬ f ≤ b := by assumption
        have hn : stepL (L.drop (k + 1)) b = stepL L b := by rw [← HS.out, HD.out, stepL, if_neg (fun h => h1 h.1)]
        exact ⟨⟨k + 1, by omega, by go_num, hn, hB.alloc hB.size _⟩, by simp [intOf]; omega⟩
    · have hd : L.drop k = [] := List.drop_of_length_le (by omega)
      have hv : stepV st b = .tuple #[.int .i64 0, .bool false] := by
        unfold stepV stepF
        rw [HL.out, ← HS.out, hd, stepL]
      have HV := Lib.hid hv; clear hv hd
      go_wp2
      exact HR.out _ _ ⟨by rw [HV.out]; rfl, hB⟩

theorem stepL_lt {L : List (Nat × Nat × Nat)} (h : ∀ x ∈ L, x.2.2 < 8) {b n : Nat} (hn : stepL L b = some n) : n < 8 := by
  induction L with
  | nil => simp [stepL] at hn
  | cons x L ih =>
    obtain ⟨f, t, m⟩ := x
    rw [stepL] at hn
    split at hn
    · injection hn with hn
      subst hn
      exact h (f, t, m) (by simp)
    · exact ih (fun y hy => h y (by simp [hy])) hn
theorem stepF_lt {st b n : Nat} (hn : stepF st b = some n) : n < 8 := by
  refine stepL_lt (L := spans st) ?_ hn
  match st with
  | 0 => decide
  | 1 => decide
  | 2 => decide
  | 3 => decide
  | 4 => decide
  | 5 => decide
  | 6 => decide
  | 7 => decide
  | k + 8 => simp [spans]

/-- The state behind as many bytes as go on, and how many. -/
def runF : Nat → List UInt8 → Nat × Nat
  | st, [] => (st, 0)
  | st, b :: r => match stepF st b.toNat with
    | none => (st, 0)
    | some t => ((runF t r).1, (runF t r).2 + 1)
theorem runF_le : ∀ (l : List UInt8) (st : Nat), (runF st l).2 ≤ l.length
  | [], st => by simp [runF]
  | b :: r, st => by
    unfold runF
    cases h : stepF st b.toNat with
    | none => simp
    | some t => have := runF_le r t; simp; omega
theorem runF_lt : ∀ (l : List UInt8) (st : Nat), st < 8 → (runF st l).1 < 8
  | [], st, h => by simpa [runF] using h
  | b :: r, st, h => by
    unfold runF
    cases h' : stepF st b.toNat with
    | none => simpa using h
    | some t => simpa using runF_lt r t (stepF_lt h')

theorem run_any (st : Nat) (s : ByteArray) (w : World) (hst : st < 8) (hs : s.size ≤ maxLen) (ht : Tab w) :
    Calls Tryd.prog 145 #[.int .i64 st, .string s] w fun e w' => e = .returned (.tuple #[.int .i64 (runF st s.data.toList).1, .int .i64 (runF st s.data.toList).2]) ∧ Below w.heap.size w w' := by
  refine cps fun R HR => ?_
  unfold maxLen at hs
  have hz : s.size = s.data.toList.length := by rw [Array.length_toList]; rfl
  have HZ := Lib.hid hz; clear hz
  go_enter Tryd.func145, Tryd.ntmps145
  go_wp2
  go_loopw [0, 11] (fun q i wr => ∃ k t : Nat, k ≤ s.size ∧ i = .int .i64 k ∧ q = .int .i64 t ∧ t < 8 ∧ runF st s.data.toList = ((runF t (s.data.toList.drop k)).1, (runF t (s.data.toList.drop k)).2 + k) ∧ Below w.heap.size w wr) (fun _ i _ => s.size - (intOf i).toNat)
  case atStart => exact ⟨0, st, Nat.zero_le _, rfl, rfl, hst, rfl, Below.refl _ _⟩
  case round =>
    obtain ⟨k, t, hk, rfl, rfl, ht8, hR, hB⟩ := hrel
    have HRn := Lib.hid hR; clear hR
    by_cases hlt : k < s.size
    · have hT := ht.below hB
      have hdr : s.data.toList.drop k = s[k] :: s.data.toList.drop (k + 1) := by
        rw [List.drop_eq_getElem_cons (by rw [← HZ.out]; exact hlt), Array.getElem_toList]; rfl
      have HD := Lib.hid hdr; clear hdr
      cases hst' : stepF t s[k].toNat with
      | none =>
        have hv : stepV t s[k].toNat = .tuple #[.int .i64 0, .bool false] := by unfold stepV; rw [hst']
        have hfin : runF st s.data.toList = (t, k) := by rw [HRn.out, HD.out, runF, hst']; simp
        have HF := Lib.hid hfin
        have HV := Lib.hid hv
        clear hfin hv hst'
        go_wp2_with fail
        refine (step_any t s[k].toNat _ ht8 (by have := s[k].toNat_lt; omega) hT).mono ?_
        rintro e w1 ⟨rfl, hb1⟩
        rw [HV.out]
        go_wp2
        exact HR.out _ _ ⟨by rw [HF.out]; rfl, hB.trans (hb1.mono hB.size)⟩
      | some q =>
        have hv : stepV t s[k].toNat = .tuple #[.int .i64 q, .bool true] := by unfold stepV; rw [hst']
        have hq := stepF_lt hst'
        have hfin : runF st s.data.toList = ((runF q (s.data.toList.drop (k + 1))).1, (runF q (s.data.toList.drop (k + 1))).2 + (k + 1)) := by
          rw [HRn.out, HD.out, runF, hst']; simp; omega
        have HF := Lib.hid hfin
        have HV := Lib.hid hv
        clear hfin hv hst'
        go_wp2_with fail
        refine (step_any t s[k].toNat _ ht8 (by have := s[k].toNat_lt; omega) hT).mono ?_
        rintro e w1 ⟨rfl, hb1⟩
        rw [HV.out]
        go_wp2
        exact ⟨⟨k + 1, q, by omega, by go_num, rfl, hq, HF.out, hB.trans (hb1.mono hB.size)⟩, by simp [intOf]; omega⟩
    · have hd : s.data.toList.drop k = [] := List.drop_of_length_le (by rw [← HZ.out]; omega)
      have hfin : runF st s.data.toList = (t, s.size) := by rw [HRn.out, hd, runF]; simp; omega
      have HF := Lib.hid hfin
      clear hd hfin
      go_wp2
      exact HR.out _ _ ⟨by rw [HF.out]; rfl, hB⟩

/-- What is wrong with a text: the error, the place. -/
def badF (l : List UInt8) : Nat × Nat :=
  if (runF 0 l).2 < l.length then (3, (runF 0 l).2) else if (runF 0 l).1 ≠ 0 then (12, (runF 0 l).2) else (0, 0)
def validF (l : List UInt8) : Bool := decide ((runF 0 l).2 = l.length ∧ (runF 0 l).1 = 0)

theorem bad_any (s : ByteArray) (w : World) (hs : s.size ≤ maxLen) (ht : Tab w) :
    Calls Tryd.prog 142 #[.string s] w fun e w' => e = .returned (.agg #[.int .i64 (badF s.data.toList).1, .int .i64 (badF s.data.toList).2]) ∧ Below w.heap.size w w' := by
  refine cps fun R HR => ?_
  have hz : s.size = s.data.toList.length := by rw [Array.length_toList]; rfl
  have hle := runF_le s.data.toList 0
  generalize hb : badF s.data.toList = B
  have HB := Lib.hid hb; clear hb
  generalize hr : runF 0 s.data.toList = r at hle
  have HRr := Lib.hid hr; clear hr
  obtain ⟨q, n⟩ := r
  rw [← hz] at hle
  simp only at hle
  have HZ := Lib.hid hz; clear hz
  by_cases h1 : n < s.size
  · have hB : B = (3, n) := by rw [← HB.out, badF, HRr.out, ← HZ.out, if_pos h1]
    subst hB
    go_enter Tryd.func142, Tryd.ntmps142
    go_wp2_with fail
    refine (run_any 0 s _ (by omega) hs (ht.below ((Below.refl _ _).alloc (Nat.le_refl _) _))).mono ?_
    rintro e w1 ⟨rfl, hb⟩
    rw [HRr.out]
    have hX := (Box.new w 205 #[.int .i64 0, .int .i64 0]).below hb (by simp)
    have hBw : Below w.heap.size w w1 := ((Below.refl _ _).alloc (Nat.le_refl _) _).trans (hb.mono (by simp))
    have c0 := hX.cell 0
    have c1 := hX.cell 1
    have f0 := hX.frozen 0
    have f1 := hX.frozen 1
    simp at c0 c1
    clear hb hX
    go_wp2
    refine bodyPost_ret (v := .agg #[.int .i64 3, .int .i64 n]) (by simp [results, Tryd.results142, go_sem, c0, c1, f0, f1]) rfl ?_
    exact HR.out _ _ ⟨by rw [HB.out]; rfl, (hBw.setCell (p := ⟨w.heap.size, 0, none⟩) (Nat.le_refl _) _).setCell (p := ⟨w.heap.size, 1, none⟩) (Nat.le_refl _) _⟩
  · by_cases h2 : q = 0
    · have hB : B = (0, 0) := by rw [← HB.out, badF, HRr.out, ← HZ.out, if_neg h1, if_neg (by simpa using h2)]
      subst hB
      subst h2
      go_enter Tryd.func142, Tryd.ntmps142
      go_wp2_with fail
      refine (run_any 0 s _ (by omega) hs (ht.below ((Below.refl _ _).alloc (Nat.le_refl _) _))).mono ?_
      rintro e w1 ⟨rfl, hb⟩
      rw [HRr.out]
      have hX := (Box.new w 205 #[.int .i64 0, .int .i64 0]).below hb (by simp)
      have hBw : Below w.heap.size w w1 := ((Below.refl _ _).alloc (Nat.le_refl _) _).trans (hb.mono (by simp))
      have c0 := hX.cell 0
      have c1 := hX.cell 1
      have f0 := hX.frozen 0
      have f1 := hX.frozen 1
      simp at c0 c1
      clear hb hX
      go_wp2
      refine bodyPost_ret (v := .agg #[.int .i64 0, .int .i64 0]) (by simp [results, Tryd.results142, go_sem, c0, c1, f0, f1]) rfl ?_
      exact HR.out _ _ ⟨by rw [HB.out]; rfl, (hBw.setCell (p := ⟨w.heap.size, 0, none⟩) (Nat.le_refl _) _).setCell (p := ⟨w.heap.size, 1, none⟩) (Nat.le_refl _) _⟩
    · have hB : B = (12, n) := by rw [← HB.out, badF, HRr.out, ← HZ.out, if_neg h1, if_pos (by simpa using h2)]
      subst hB
      have h3 : ((q : Int) != 0) = true := by rw [bne_iff_ne]; omega
      go_enter Tryd.func142, Tryd.ntmps142
      go_wp2_with fail
      refine (run_any 0 s _ (by omega) hs (ht.below ((Below.refl _ _).alloc (Nat.le_refl _) _))).mono ?_
      rintro e w1 ⟨rfl, hb⟩
      rw [HRr.out]
      have hX := (Box.new w 205 #[.int .i64 0, .int .i64 0]).below hb (by simp)
      have hBw : Below w.heap.size w w1 := ((Below.refl _ _).alloc (Nat.le_refl _) _).trans (hb.mono (by simp))
      have c0 := hX.cell 0
      have c1 := hX.cell 1
      have f0 := hX.frozen 0
      have f1 := hX.frozen 1
      simp at c0 c1
      clear hb hX
      go_wp2
      refine bodyPost_ret (v := .agg #[.int .i64 12, .int .i64 n]) (by simp [results, Tryd.results142, go_sem, c0, c1, f0, f1]) rfl ?_
      exact HR.out _ _ ⟨by rw [HB.out]; rfl, (hBw.setCell (p := ⟨w.heap.size, 0, none⟩) (Nat.le_refl _) _).setCell (p := ⟨w.heap.size, 1, none⟩) (Nat.le_refl _) _⟩

theorem valid_any (s : ByteArray) (w : World) (hs : s.size ≤ maxLen) (ht : Tab w) :
    Calls Tryd.prog 133 #[.string s] w fun e w' => e = .returned (.bool (validF s.data.toList)) ∧ Below w.heap.size w w' := by
  refine cps fun R HR => ?_
  have hv : (((badF s.data.toList).1 : Int) == 0) = validF s.data.toList := by
    have hle := runF_le s.data.toList 0
    unfold badF validF
    by_cases h1 : (runF 0 s.data.toList).2 < s.data.toList.length
    · rw [if_pos h1, decide_eq_false (by omega)]; rfl
    · rw [if_neg h1]
      by_cases h2 : (runF 0 s.data.toList).1 = 0
      · rw [if_neg (by simpa using h2), decide_eq_true (by omega)]; rfl
      · rw [if_pos h2, decide_eq_false (by omega)]; rfl
  have HV := Lib.hid hv; clear hv
  have hfl : ∀ (a b : Int) (w : World), (Instr.field 205 (.agg #[.int .i64 a, .int .i64 b]) 0).run Tryd.prog w = .ok (.int .i64 a) w := fun _ _ _ => by kernel_rfl
  go_enter Tryd.func133, Tryd.ntmps133
  go_wp2_with fail
  refine (bad_any s _ hs ht).mono ?_
  rintro e w1 ⟨rfl, hb⟩
  go_wp2
  exact HR.out _ _ ⟨by rw [← HV.out]; rfl, hb⟩

/-- How long the longest beginning is that is well formed: st the state, i bytes are behind, whole the last good place. -/
def longF : Nat → Nat → Nat → List UInt8 → Nat
  | _, _, whole, [] => whole
  | st, i, whole, b :: r => match stepF st b.toNat with
    | none => whole
    | some t => longF t (i + 1) (if t = 0 then i + 1 else whole) r

end Go.Proofs.YtgiemhooeoakmaaDoor

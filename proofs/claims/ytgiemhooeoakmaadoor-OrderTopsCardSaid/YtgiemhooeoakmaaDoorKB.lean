/- Layer 2: the functions Step, Run, Bad, Valid, Longest, as lists of bytes have them. What the row's list of package variables gives: an array, cell by cell. The table of layer 2, from the rows' list; a world that holds it. Layer 2: how a text in pieces is told: plain lists. Layer 2, the reference: put and Size. Layer 2, the reference: Size. Layer 2, the reference: Whole, goes, Goes, Bad, Begin, State. Layer 2: the table's states and the sequences by definition say the same. -/
import Derived.Deep.Strs
import Derived.Lib.LaidTab
import Derived.Test.YtgiemhooeoakmaaDoorRows
import Derived.ProofKit
import Derived.MakeChecks
import Derived.Lib.Strings
import Derived.Lib.QuietBelow
import Derived.Deep.CutRange
import Derived.Deep.CutBlock
import Derived.Deep.DeepCutAuto
import Derived.Test.YtgiemhooeoakmaaDoorKA
namespace Go.Proofs.YtgiemhooeoakmaaDoor
open Go.RowKit
set_option linter.unusedVariables false
set_option linter.unusedSimpArgs false

/-- The spans of each state: from, to, the state behind. -/
def spans : Nat → List (Nat × Nat × Nat)
  | 0 => [(0, 127, 0), (194, 223, 1), (224, 224, 4), (225, 236, 2), (237, 237, 5), (238, 239, 2), (240, 240, 6), (241, 243, 3), (244, 244, 7)]
  | 1 => [(128, 191, 0)]
  | 2 => [(128, 191, 1)]
  | 3 => [(128, 191, 2)]
  | 4 => [(160, 191, 1)]
  | 5 => [(128, 159, 1)]
  | 6 => [(144, 191, 2)]
  | 7 => [(128, 143, 2)]
  | _ => []
/-- The first span that holds a byte. -/
def stepL : List (Nat × Nat × Nat) → Nat → Option Nat
  | [], _ => none
  | (f, t, n) :: r, b => if f ≤ b ∧ b ≤ t then some n else stepL r b
def stepF (st b : Nat) : Option Nat := stepL (spans st) b
def spanV (x : Nat × Nat × Nat) : List Value := [.int .u8 x.1, .int .u8 x.2.1, .int .i64 x.2.2]

/-- The table, as it lies in memory. -/
def Tab (w : World) : Prop := ∀ st, st < 8 → ∃ A c, w.cell? ⟨1, st, none⟩ = some (.slice A (spans st).length c) ∧ Sl w w.heap.size 3 A (spans st).length c ((spans st).flatMap spanV)
theorem Tab.below {w w' : World} (h : Tab w) (hb : Below w.heap.size w w') : Tab w' := fun st hst => by
  obtain ⟨A, c, hc, hs⟩ := h st hst
  refine ⟨A, c, ?_, (hs.below hb).more hb.size⟩
  rw [hb.cell (p := ⟨1, st, none⟩) (World.block_lt_of_cell? w _ hc)]
  exact hc
theorem Tab.drewN {w : World} (h : Tab w) (k : Nat) : Tab (w.drewN k) := fun st hst => by
  obtain ⟨A, c, hc, hs⟩ := h st hst
  exact ⟨A, c, hc, hs.drewN k⟩

/-- What Step hands back. -/
def stepV (st b : Nat) : Value := match stepF st b with
  | some n => .tuple #[.int .i64 n, .bool true]
  | none => .tuple #[.int .i64 0, .bool false]

theorem step_any (st b : Nat) (w : World) (hst : st < 8) (hb : b < 256) (ht : Tab w) :
    Calls Tryd.prog 147 #[.int .i64 st, .int .u8 b] w fun e w' => e = .returned (stepV st b) ∧ Below w.heap.size w w' := by
  refine cps fun R HR => ?_
  obtain ⟨A, c, hc, hs⟩ := ht st hst
  have hst' : (st : Int) < 8 := by omega
  have hL : (spans st).length ≤ 9 := by
    obtain rfl | rfl | rfl | rfl | rfl | rfl | rfl | rfl : st = 0 ∨ st = 1 ∨ st = 2 ∨ st = 3 ∨ st = 4 ∨ st = 5 ∨ st = 6 ∨ st = 7 := by omega
    all_goals decide
  generalize hl : spans st = L at *
  have HL := Lib.hid hl; clear hl
  go_enter Tryd.func147, Tryd.ntmps147
  go_wp2
  clear hc hst'
  go_loopw [12] (fun i wr => ∃ k : Nat, k ≤ L.length ∧ i = .int .i64 k ∧ stepL (L.drop k) b = stepL L b ∧ Below w.heap.size w wr) (fun i _ => L.length - (intOf i).toNat)
  case atStart => exact ⟨0, Nat.zero_le _, rfl, rfl, Below.refl _ _⟩
  case round =>
    obtain ⟨k, hk, rfl, hS, hB⟩ := hrel
    have HS := Lib.hid hS; clear hS
    by_cases hlt : k < L.length
    · have hs' := hs.below hB
      obtain ⟨a, rfl⟩ := hs.some_ (by omega)
      obtain ⟨⟨f, t, n⟩, hx⟩ : ∃ x, L[k]? = some x := ⟨_, List.getElem?_eq_getElem hlt⟩
      have hdr : L.drop k = (f, t, n) :: L.drop (k + 1) := by
        rw [List.drop_eq_getElem_cons hlt]
        rw [List.getElem?_eq_getElem hlt] at hx
        injection hx with hx
        rw [hx]
      have c0 : wr.cell? (a.add (k * 3)) = some (.int .u8 f) := hs'.fld0 (fun _ => rfl) (by omega) hx rfl
      have c1 : wr.cell? ⟨(a.add (k * 3)).block, (a.add (k * 3)).off + 1, none⟩ = some (.int .u8 t) := hs'.fld (fun _ => rfl) hx 0 rfl
      have c2 : wr.cell? ⟨(a.add (k * 3)).block, (a.add (k * 3)).off + 2, none⟩ = some (.int .i64 n) := hs'.fld (fun _ => rfl) hx 1 rfl
      have HD := Lib.hid hdr
      clear hdr hx
      go_wp2
      · have h1 : f ≤ b := by assumption
        have h2 : b ≤ t := by assumption
        have hv : stepV st b = .tuple #[.int .i64 n, .bool true] := by
          unfold stepV stepF
          rw [HL.out, ← HS.out, HD.out, stepL, if_pos ⟨h1, h2⟩]
        exact HR.out _ _ ⟨by rw [hv]; rfl, hB.alloc hB.size _⟩
      · have h1 : f ≤ b := by assumption
        have h2 : ¬ b ≤ t := by assumption
        have hn : stepL (L.drop (k + 1)) b = stepL L b := by rw [← HS.out, HD.out, stepL, if_neg (fun h => h2 h.2)]
        exact ⟨⟨k + 1, by omega, by go_num, hn, hB.alloc hB.size _⟩, by simp [intOf]; omega⟩
      · have h1 : ¬ f ≤ b := by assumption
        have hn : stepL (L.drop (k + 1)) b = stepL L b := by rw [← HS.out, HD.out, stepL, if_neg (fun h => h1 h.1)]
        exact ⟨⟨k + 1, by omega, by go_num, hn, hB.alloc hB.size _⟩, by simp [intOf]; omega⟩
    · have hd : L.drop k = [] := List.drop_of_length_le (by omega)
      have hv : stepV st b = .tuple #[.int .i64 0, .bool false] := by
        unfold stepV stepF
        rw [HL.out, ← HS.out, hd, stepL]
      have HV := Lib.hid hv; clear hv hd
      go_wp2
      exact HR.out _ _ ⟨by rw [HV.out]; rfl, hB⟩

theorem stepL_lt {L : List (Nat × Nat × Nat)} (h : ∀ x ∈ L, x.2.2 < 8) {b n : Nat} (hn : stepL L b = some n) : n < 8 := by
  induction L with
  | nil => simp [stepL] at hn
  | cons x L ih =>
    obtain ⟨f, t, m⟩ := x
    rw [stepL] at hn
    split at hn
    · injection hn with hn
      subst hn
      exact h (f, t, m) (by simp)
    · exact ih (fun y hy => h y (by simp [hy])) hn
theorem stepF_lt {st b n : Nat} (hn : stepF st b = some n) : n < 8 := by
  refine stepL_lt (L := spans st) ?_ hn
  match st with
  | 0 => decide
  | 1 => decide
  | 2 => decide
  | 3 => decide
  | 4 => decide
  | 5 => decide
  | 6 => decide
  | 7 => decide
  | k + 8 => simp [spans]

/-- The state behind as many bytes as go on, and how many. -/
def runF : Nat → List UInt8 → Nat × Nat
  | st, [] => (st, 0)
  | st, b :: r => match stepF st b.toNat with
    | none => (st, 0)
    | some t => ((runF t r).1, (runF t r).2 + 1)
theorem runF_le : ∀ (l : List UInt8) (st : Nat), (runF st l).2 ≤ l.length
  | [], st => by simp [runF]
  | b :: r, st => by
    unfold runF
    cases h : stepF st b.toNat with
    | none => simp
    | some t => have := runF_le r t; simp; omega
theorem runF_lt : ∀ (l : List UInt8) (st : Nat), st < 8 → (runF st l).1 < 8
  | [], st, h => by simpa [runF] using h
  | b :: r, st, h => by
    unfold runF
    cases h' : stepF st b.toNat with
    | none => simpa using h
    | some t => simpa using runF_lt r t (stepF_lt h')

theorem run_any (st : Nat) (s : ByteArray) (w : World) (hst : st < 8) (hs : s.size ≤ maxLen) (ht : Tab w) :
    Calls Tryd.prog 145 #[.int .i64 st, .string s] w fun e w' => e = .returned (.tuple #[.int .i64 (runF st s.data.toList).1, .int .i64 (runF st s.data.toList).2]) ∧ Below w.heap.size w w' := by
  refine cps fun R HR => ?_
  unfold maxLen at hs
  have hz : s.size = s.data.toList.length := by rw [Array.length_toList]; rfl
  have HZ := Lib.hid hz; clear hz
  go_enter Tryd.func145, Tryd.ntmps145
  go_wp2
  go_loopw [0, 11] (fun q i wr => ∃ k t : Nat, k ≤ s.size ∧ i = .int .i64 k ∧ q = .int .i64 t ∧ t < 8 ∧ runF st s.data.toList = ((runF t (s.data.toList.drop k)).1, (runF t (s.data.toList.drop k)).2 + k) ∧ Below w.heap.size w wr) (fun _ i _ => s.size - (intOf i).toNat)
  case atStart => exact ⟨0, st, Nat.zero_le _, rfl, rfl, hst, rfl, Below.refl _ _⟩
  case round =>
    obtain ⟨k, t, hk, rfl, rfl, ht8, hR, hB⟩ := hrel
    have HRn := Lib.hid hR; clear hR
    by_cases hlt : k < s.size
    · have hT := ht.below hB
      have hdr : s.data.toList.drop k = s[k] :: s.data.toList.drop (k + 1) := by
        rw [List.drop_eq_getElem_cons (by rw [← HZ.out]; exact hlt), Array.getElem_toList]; rfl
      have HD := Lib.hid hdr; clear hdr
      cases hst' : stepF t s[k].toNat with
      | none =>
        have hv : stepV t s[k].toNat = .tuple #[.int .i64 0, .bool false] := by unfold stepV; rw [hst']
        have hfin : runF st s.data.toList = (t, k) := by rw [HRn.out, HD.out, runF, hst']; simp
        have HF := Lib.hid hfin
        have HV := Lib.hid hv
        clear hfin hv hst'
        go_wp2_with fail
        refine (step_any t s[k].toNat _ ht8 (by have := s[k].toNat_lt; omega) hT).mono ?_
        rintro e w1 ⟨rfl, hb1⟩
        rw [HV.out]
        go_wp2
        exact HR.out _ _ ⟨by rw [HF.out]; rfl, hB.trans (hb1.mono hB.size)⟩
      | some q =>
        have hv : stepV t s[k].toNat = .tuple #[.int .i64 q, .bool true] := by unfold stepV; rw [hst']
        have hq := stepF_lt hst'
        have hfin : runF st s.data.toList = ((runF q (s.data.toList.drop (k + 1))).1, (runF q (s.data.toList.drop (k + 1))).2 + (k + 1)) := by
          rw [HRn.out, HD.out, runF, hst']; simp; omega
        have HF := Lib.hid hfin
        have HV := Lib.hid hv
        clear hfin hv hst'
        go_wp2_with fail
        refine (step_any t s[k].toNat _ ht8 (by have := s[k].toNat_lt; omega) hT).mono ?_
        rintro e w1 ⟨rfl, hb1⟩
        rw [HV.out]
        go_wp2
        exact ⟨⟨k + 1, q, by omega, by go_num, rfl, hq, HF.out, hB.trans (hb1.mono hB.size)⟩, by simp [intOf]; omega⟩
    · have hd : s.data.toList.drop k = [] := List.drop_of_length_le (by rw [← HZ.out]; omega)
      have hfin : runF st s.data.toList = (t, s.size) := by rw [HRn.out, hd, runF]; simp; omega
      have HF := Lib.hid hfin
      clear hd hfin
      go_wp2
      exact HR.out _ _ ⟨by rw [HF.out]; rfl, hB⟩

/-- What is wrong with a text: the error, the place. -/
def badF (l : List UInt8) : Nat × Nat :=
  if (runF 0 l).2 < l.length then (3, (runF 0 l).2) else if (runF 0 l).1 ≠ 0 then (12, (runF 0 l).2) else (0, 0)
def validF (l : List UInt8) : Bool := decide ((runF 0 l).2 = l.length ∧ (runF 0 l).1 = 0)

theorem bad_any (s : ByteArray) (w : World) (hs : s.size ≤ maxLen) (ht : Tab w) :
    Calls Tryd.prog 142 #[.string s] w fun e w' => e = .returned (.agg #[.int .i64 (badF s.data.toList).1, .int .i64 (badF s.data.toList).2]) ∧ Below w.heap.size w w' := by
  refine cps fun R HR => ?_
  have hz : s.size = s.data.toList.length := by rw [Array.length_toList]; rfl
  have hle := runF_le s.data.toList 0
  generalize hb : badF s.data.toList = B
  have HB := Lib.hid hb; clear hb
  generalize hr : runF 0 s.data.toList = r at hle
  have HRr := Lib.hid hr; clear hr
  obtain ⟨q, n⟩ := r
  rw [← hz] at hle
  simp only at hle
  have HZ := Lib.hid hz; clear hz
  by_cases h1 : n < s.size
  · have hB : B = (3, n) := by rw [← HB.out, badF, HRr.out, ← HZ.out, if_pos h1]
    subst hB
    go_enter Tryd.func142, Tryd.ntmps142
    go_wp2_with fail
    refine (run_any 0 s _ (by omega) hs (ht.below ((Below.refl _ _).alloc (Nat.le_refl _) _))).mono ?_
    rintro e w1 ⟨rfl, hb⟩
    rw [HRr.out]
    have hX := (Box.new w 205 #[.int .i64 0, .int .i64 0]).below hb (by simp)
    have hBw : Below w.heap.size w w1 := ((Below.refl _ _).alloc (Nat.le_refl _) _).trans (hb.mono (by simp))
    have c0 := hX.cell 0
    have c1 := hX.cell 1
    have f0 := hX.frozen 0
    have f1 := hX.frozen 1
    simp at c0 c1
    clear hb hX
    go_wp2
    refine bodyPost_ret (v := .agg #[.int .i64 3, .int .i64 n]) (by simp [results, Tryd.results142, go_sem, c0, c1, f0, f1]) rfl ?_
    exact HR.out _ _ ⟨by rw [HB.out]; rfl, (hBw.setCell (p := ⟨w.heap.size, 0, none⟩) (Nat.le_refl _) _).setCell (p := ⟨w.heap.size, 1, none⟩) (Nat.le_refl _) _⟩
  · by_cases h2 : q = 0
    · have hB : B = (0, 0) := by rw [← HB.out, badF, HRr.out, ← HZ.out, if_neg h1, if_neg (by simpa using h2)]
      subst hB
      subst h2
      go_enter Tryd.func142, Tryd.ntmps142
      go_wp2_with fail
      refine (run_any 0 s _ (by omega) hs (ht.below ((Below.refl _ _).alloc (Nat.le_refl _) _))).mono ?_
      rintro e w1 ⟨rfl, hb⟩
      rw [HRr.out]
      have hX := (Box.new w 205 #[.int .i64 0, .int .i64 0]).below hb (by simp)
      have hBw : Below w.heap.size w w1 := ((Below.refl _ _).alloc (Nat.le_refl _) _).trans (hb.mono (by simp))
      have c0 := hX.cell 0
      have c1 := hX.cell 1
      have f0 := hX.frozen 0
      have f1 := hX.frozen 1
      simp at c0 c1
      clear hb hX
      go_wp2
      refine bodyPost_ret (v := .agg #[.int .i64 0, .int .i64 0]) (by simp [results, Tryd.results142, go_sem, c0, c1, f0, f1]) rfl ?_
      exact HR.out _ _ ⟨by rw [HB.out]; rfl, (hBw.setCell (p := ⟨w.heap.size, 0, none⟩) (Nat.le_refl _) _).setCell (p := ⟨w.heap.size, 1, none⟩) (Nat.le_refl _) _⟩
    · have hB : B = (12, n) := by rw [← HB.out, badF, HRr.out, ← HZ.out, if_neg h1, if_pos (by simpa using h2)]
      subst hB
      have h3 : ((q : Int) != 0) = true := by rw [bne_iff_ne]; omega
      go_enter Tryd.func142, Tryd.ntmps142
      go_wp2_with fail
      refine (run_any 0 s _ (by omega) hs (ht.below ((Below.refl _ _).alloc (Nat.le_refl _) _))).mono ?_
      rintro e w1 ⟨rfl, hb⟩
      rw [HRr.out]
      have hX := (Box.new w 205 #[.int .i64 0, .int .i64 0]).below hb (by simp)
      have hBw : Below w.heap.size w w1 := ((Below.refl _ _).alloc (Nat.le_refl _) _).trans (hb.mono (by simp))
      have c0 := hX.cell 0
      have c1 := hX.cell 1
      have f0 := hX.frozen 0
      have f1 := hX.frozen 1
      simp at c0 c1
      clear hb hX
      go_wp2
      refine bodyPost_ret (v := .agg #[.int .i64 12, .int .i64 n]) (by simp [results, Tryd.results142, go_sem, c0, c1, f0, f1]) rfl ?_
      exact HR.out _ _ ⟨by rw [HB.out]; rfl, (hBw.setCell (p := ⟨w.heap.size, 0, none⟩) (Nat.le_refl _) _).setCell (p := ⟨w.heap.size, 1, none⟩) (Nat.le_refl _) _⟩

theorem valid_any (s : ByteArray) (w : World) (hs : s.size ≤ maxLen) (ht : Tab w) :
    Calls Tryd.prog 133 #[.string s] w fun e w' => e = .returned (.bool (validF s.data.toList)) ∧ Below w.heap.size w w' := by
  refine cps fun R HR => ?_
  have hv : (((badF s.data.toList).1 : Int) == 0) = validF s.data.toList := by
    have hle := runF_le s.data.toList 0
    unfold badF validF
    by_cases h1 : (runF 0 s.data.toList).2 < s.data.toList.length
    · rw [if_pos h1, decide_eq_false (by omega)]; rfl
    · rw [if_neg h1]
      by_cases h2 : (runF 0 s.data.toList).1 = 0
      · rw [if_neg (by simpa using h2), decide_eq_true (by omega)]; rfl
      · rw [if_pos h2, decide_eq_false (by omega)]; rfl
  have HV := Lib.hid hv; clear hv
  have hfl : ∀ (a b : Int) (w : World), (Instr.field 205 (.agg #[.int .i64 a, .int .i64 b]) 0).run Tryd.prog w = .ok (.int .i64 a) w := fun _ _ _ => by kernel_rfl
  go_enter Tryd.func133, Tryd.ntmps133
  go_wp2_with fail
  refine (bad_any s _ hs ht).mono ?_
  rintro e w1 ⟨rfl, hb⟩
  go_wp2
  exact HR.out _ _ ⟨by rw [← HV.out]; rfl, hb⟩

/-- How long the longest beginning is that is well formed: st the state, i bytes are behind, whole the last good place. -/
def longF : Nat → Nat → Nat → List UInt8 → Nat
  | _, _, whole, [] => whole
  | st, i, whole, b :: r => match stepF st b.toNat with
    | none => whole
    | some t => longF t (i + 1) (if t = 0 then i + 1 else whole) r

end Go.Proofs.YtgiemhooeoakmaaDoor

namespace Go.Proofs.YtgiemhooeoakmaaDoor
open Go.RowKit Go.ChangeShapes Go.WideShapes
set_option linter.unusedVariables false
set_option linter.unusedSimpArgs false
section
variable {H : Type} {enc : TypeId × Value → H} {P : Program} {w : World} {base : Nat} {spare : Nat → Bool} {held : Bool}
theorem open_array {t e : TypeId} {n fuel : Nat} {cs : List Value} {x : DataW H × List MemPlace} (ht : P.underlying t = some (.array n e)) (hC : P.cellsOf e = 1) (hct : P.cellsOf t = n) (h : DataW.trod enc P w base spare held fuel t cs = some x) :
    ∃ f parts, x.1 = .agg parts ∧ ∀ i, i < n → ∃ u y, cs[i]? = some u ∧ parts[i]? = some y.1 ∧ DataW.trod enc P w base spare held f e [u] = some y := by
  cases fuel with
  | zero => simp [DataW.trod] at h
  | succ fuel =>
    simp only [DataW.trod, ht, hC, hct, Nat.mul_one] at h
    split at h
    · rename_i hl
      obtain ⟨xs, hm, hx⟩ := Option.map_eq_some_iff.1 h
      refine ⟨fuel, xs.map (·.1), by rw [← hx], fun i hi => ?_⟩
      obtain ⟨b, hb, hf⟩ := Lib.mapM_at hm i i (by simp [hi])
      obtain ⟨u, hu⟩ : ∃ u, cs[i]? = some u := ⟨_, List.getElem?_eq_getElem (by omega)⟩
      refine ⟨u, b, hu, by simp [hb], ?_⟩
      have h1 := (List.getElem?_eq_some_iff.1 hu)
      obtain ⟨h2, h3⟩ := h1
      rw [List.drop_eq_getElem_cons h2, h3] at hf
      simpa using hf
    · cases h
end
theorem laid_array {P : Program} {W : World} {name : String} {d : DataW Unit} {rest : List (String × DataW Unit)} {g : Nat} {t e : TypeId} {n : Nat}
    (hg : P.globalNamed name = some g) (hty : (P.globals[g]?).map (·.type) = some t) (ht : P.underlying t = some (.array n e)) (hC : P.cellsOf e = 1) (hct : P.cellsOf t = n)
    (h : laidMet P ((name, d) :: rest) W) : ∃ f parts, d = .agg parts ∧ ∀ i, i < n → ∃ u y, W.cell? ⟨g, i, none⟩ = some u ∧ parts[i]? = some y.1 ∧ DataW.trod (fun _ => ()) P W 0 (fun _ => true) false f e [u] = some y := by
  obtain ⟨ps, ⟨g', t', cs, fuel, p, q, hg', ht', hvar, hd, _, _⟩, _⟩ := h
  obtain rfl := Option.some.inj (hg.symm.trans hg')
  obtain rfl := Option.some.inj (hty.symm.trans ht')
  obtain ⟨f, parts, h1, h2⟩ := open_array ht hC hct hd
  refine ⟨f, parts, h1, fun i hi => ?_⟩
  obtain ⟨u, y, h3, h4, h5⟩ := h2 i hi
  refine ⟨u, y, ?_, h4, h5⟩
  have := World.var?_cell hg hvar i
  rw [this]
  exact (Array.getElem?_toList ..).symm.trans h3
/-- Cells that are, place by place, an element's. -/
theorem eq_flat {α : Type} {f : α → List Value} {size : Nat} (hf : ∀ a, (f a).length = size) : ∀ (L : List α) (xs : List Value), xs.length = L.length * size → (∀ i a, L[i]? = some a → (xs.drop (i * size)).take size = f a) → xs = L.flatMap f
  | [], xs, hl, _ => by
    simp at hl
    simp [hl]
  | a :: L, xs, hl, h => by
    have h0 := h 0 a rfl
    rw [Nat.zero_mul, List.drop_zero] at h0
    have hx := List.take_append_drop size xs
    rw [h0] at hx
    rw [← hx, List.flatMap_cons]
    congr 1
    refine eq_flat hf L _ (by rw [List.length_drop, hl, List.length_cons, Nat.succ_mul]; omega) fun i b hb => ?_
    have := h (i + 1) b (by simpa using hb)
    rw [List.drop_drop]
    rw [Nat.succ_mul, Nat.add_comm] at this
    exact this
end Go.Proofs.YtgiemhooeoakmaaDoor

namespace Go.Proofs.YtgiemhooeoakmaaDoor
open Go.RowKit Go.ChangeShapes Go.WideShapes
set_option linter.unusedVariables false
set_option linter.unusedSimpArgs false

def spanD (x : Nat × Nat × Nat) : DataW Unit := .agg [.lit (.int .u8 x.1), .lit (.int .u8 x.2.1), .lit (.int .i64 x.2.2)]
set_option maxRecDepth 100000 in
theorem span_cells {w : World} {f : Nat} {cs : List Value} {y : DataW Unit × List MemPlace} {x : Nat × Nat × Nat} (h : DataW.trod (fun _ => ()) Tryd.prog w 0 (fun _ => true) false f 214 cs = some y) (hy : y.1 = spanD x) : cs = spanV x := by
  obtain ⟨y0, y1, y2, n, rfl, hl, h0, h1, h2⟩ := Go.Deep.trod_struct3 Tryd.underlying214 h
  have hl3 : cs.length = 3 := by rw [hl]; kernel_rfl
  match cs, hl3 with
  | [a, b, c], _ =>
    have c1 : Tryd.prog.cellsOf 5 = 1 := by kernel_rfl
    have c2 : Tryd.prog.cellsOf 3 = 1 := by kernel_rfl
    simp only [c1, c2] at h0 h1 h2
    obtain ⟨z0, g0, e0, _⟩ := DataW.trod_int Tryd.underlying5 h0
    obtain ⟨z1, g1, e1, _⟩ := DataW.trod_int Tryd.underlying5 h1
    obtain ⟨z2, g2, e2, _⟩ := DataW.trod_int Tryd.underlying3 h2
    subst e0 e1 e2
    simp [spanD] at hy
    simp at g0 g1 g2
    simp [spanV, g0, g1, g2, hy]

def tabD : DataW Unit := .agg ((List.range 8).map fun st => .slice ((spans st).map spanD) [])
set_option maxRecDepth 100000 in
theorem tab_row {W : World} (h : laidMetH Tryd.prog [("quillpen/utf.table", Rows.laid_quillpen_utf_table)] W) : Tab W := by
  have hm : laidMet Tryd.prog [("quillpen/utf.table", tabD)] W := by
    rw [MakeChecks.laidMetH_plain _ _ _ (by kernel_rfl)] at h
    exact h
  have e : Tryd.prog.cellsOf 211 = 1 := by kernel_rfl
  obtain ⟨f, parts, hp, hi⟩ := laid_array (n := 8) (by kernel_rfl : Tryd.prog.globalNamed "quillpen/utf.table" = some 1) (by kernel_rfl) Tryd.underlying212 e (by kernel_rfl) hm
  injection hp with hp
  intro st hst
  obtain ⟨u, y, hc, hy, ht⟩ := hi st hst
  rw [← hp, List.getElem?_map, List.getElem?_range hst] at hy
  injection hy with hy
  have hz : Sized Tryd.prog 211 y.1 := by
    rw [← hy]
    obtain rfl | rfl | rfl | rfl | rfl | rfl | rfl | rfl : st = 0 ∨ st = 1 ∨ st = 2 ∨ st = 3 ∨ st = 4 ∨ st = 5 ∨ st = 6 ∨ st = 7 := by omega
    all_goals
      intro x hx
      refine of_decide_eq_true (List.all_eq_true.1 (?_ : List.all _ (fun x => decide (x ≤ 140737488351232)) = true) x hx)
      kernel_rfl
  obtain ⟨A, n, c, xs, D, rfl, hs, hx, hxt⟩ := open_sl_at (size := 3) Tryd.underlying211 (by kernel_rfl) (by omega) (of_decide_eq_true (by kernel_rfl)) ht hz
  obtain ⟨h1, _⟩ | ⟨sp, h1⟩ := hx
  · rw [h1] at hy; cases hy
  · rw [h1] at hy
    injection hy with hy hy2
    have hn : n = (spans st).length := by
      have := congrArg List.length hy
      simpa using this.symm
    subst hn
    refine ⟨A, c, hc, ?_⟩
    have hxs : xs = (spans st).flatMap spanV := eq_flat (size := 3) (fun _ => rfl) _ _ hs.len (fun i a ha => by
      have hil := (List.getElem?_eq_some_iff.1 ha).1
      obtain ⟨f, y, h2, h3, _⟩ := hxt i hil
      refine span_cells h2 ?_
      have := congrArg (·[i]?) hy
      simp [ha, hil] at this
      rw [h3, ← this]
      rw [List.getElem?_eq_getElem hil] at ha
      injection ha with ha
      rw [ha])
    rw [← hxs]
    exact hs

/-- The settled world with the table's eight rows behind it. -/
noncomputable def laidWorld (os : Os) : World :=
  let N := (World.settled Tryd.prog os).heap.size
  let w0 := World.holding Tryd.prog os ⟨((List.range 8).map fun st => Obj.cells ((spans st).flatMap spanV).toArray 214 (0, 0)).toArray, #[], []⟩
  { w0 with heap := w0.heap.modify 1 fun
      | .cells _ t frozen => .cells ((List.range 8).map fun st => Value.slice (some ⟨N + st, 0, none⟩) (spans st).length (spans st).length).toArray t frozen
      | o => o }
set_option maxRecDepth 100000 in
theorem laid_met (os : Os) (args : Array Value) : laidMet Tryd.prog [("quillpen/utf.table", Rows.laid_quillpen_utf_table)] ((laidWorld os).forCall (fun _ _ => 0) ⟨#[], args, []⟩).memory :=
  laidMet_of_run' 8 (by kernel_rfl) (by kernel_rfl)
end Go.Proofs.YtgiemhooeoakmaaDoor

namespace Go.Proofs.YtgiemhooeoakmaaDoor
open Go.RowKit
set_option linter.unusedVariables false
set_option linter.unusedSimpArgs false

theorem ext_list (s : ByteArray) (a b : Nat) : (s.extract a b).data.toList = (s.data.toList.drop a).take (b - a) := by rw [← ByteArray.toList_eq, Lib.extract_toList]
theorem run_short : ∀ (a b : List UInt8) (st : Nat), (runF st a).2 < a.length → runF st (a ++ b) = runF st a
  | [], b, st, h => by simp [runF] at h
  | x :: a, b, st, h => by
    rw [List.cons_append]
    unfold runF at h ⊢
    cases hs : stepF st x.toNat with
    | none => rfl
    | some t =>
      rw [hs] at h
      have := run_short a b t (by simpa using h)
      simp only [this]
theorem run_full : ∀ (a b : List UInt8) (st : Nat), (runF st a).2 = a.length → runF st (a ++ b) = ((runF (runF st a).1 b).1, (runF (runF st a).1 b).2 + a.length)
  | [], b, st, h => by simp [runF]
  | x :: a, b, st, h => by
    rw [List.cons_append]
    cases hs : stepF st x.toNat with
    | none =>
      unfold runF at h
      rw [hs] at h
      simp at h
    | some t =>
      have h' : (runF t a).2 = a.length := by
        unfold runF at h
        rw [hs] at h
        simpa using h
      have := run_full a b t h'
      rw [show runF st (x :: (a ++ b)) = ((runF t (a ++ b)).1, (runF t (a ++ b)).2 + 1) by rw [runF, hs]]
      rw [show runF st (x :: a) = ((runF t a).1, (runF t a).2 + 1) by rw [runF, hs]]
      rw [this]
      simp [Nat.add_assoc]
theorem valid_run {a : List UInt8} (h : validF a = true) : runF 0 a = (0, a.length) := by
  unfold validF at h
  have := of_decide_eq_true h
  ext <;> simp [this]
theorem valid_append {a : List UInt8} (b : List UInt8) (h : validF a = true) : validF (a ++ b) = validF b := by
  have hr := valid_run h
  unfold validF
  rw [run_full a b 0 (by rw [hr]), hr, List.length_append]
  rw [Bool.eq_iff_iff, decide_eq_true_iff, decide_eq_true_iff]
  simp only
  constructor
  · rintro ⟨h1, h2⟩; exact ⟨by omega, h2⟩
  · rintro ⟨h1, h2⟩; exact ⟨by omega, h2⟩
theorem valid_one (c : UInt8) : validF [c] = decide (c.toNat < 128) := by
  have h : ∀ n : Fin 256, validF [UInt8.ofNat n.1] = decide (n.1 < 128) := by decide +kernel
  have := h ⟨c.toNat, c.toNat_lt⟩
  simpa using this
theorem long_shift : ∀ (l : List UInt8) (st i w n : Nat), longF st (i + n) (w + n) l = longF st i w l + n
  | [], st, i, w, n => rfl
  | b :: r, st, i, w, n => by
    unfold longF
    cases h : stepF st b.toNat with
    | none => rfl
    | some t =>
      simp only
      split
      · rw [show i + n + 1 = i + 1 + n by omega, long_shift r t (i + 1) (i + 1) n]
      · rw [show i + n + 1 = i + 1 + n by omega, long_shift r t (i + 1) w n]
theorem long_full : ∀ (a b : List UInt8) (st i w : Nat), (runF st a).2 = a.length → (runF st a).1 = 0 → (a = [] → w = i) → longF st i w (a ++ b) = longF 0 (i + a.length) (i + a.length) b
  | [], b, st, i, w, h1, h2, h3 => by
    obtain rfl : st = 0 := by simpa [runF] using h2
    rw [h3 rfl]
    rfl
  | x :: a, b, st, i, w, h1, h2, h3 => by
    cases hs : stepF st x.toNat with
    | none =>
      unfold runF at h1
      rw [hs] at h1
      simp at h1
    | some t =>
      have h1' : (runF t a).2 = a.length := by
        unfold runF at h1
        rw [hs] at h1
        simpa using h1
      have h2' : (runF t a).1 = 0 := by
        unfold runF at h2
        rw [hs] at h2
        simpa using h2
      rw [List.cons_append, longF, hs]
      simp only
      rw [long_full a b t (i + 1) _ h1' h2' (fun ha => by
        subst ha
        have : t = 0 := by simpa [runF] using h2'
        rw [if_pos this])]
      rw [List.length_cons, show i + (a.length + 1) = i + 1 + a.length by omega]
theorem long_append {a : List UInt8} (b : List UInt8) (h : validF a = true) : longF 0 0 0 (a ++ b) = a.length + longF 0 0 0 b := by
  have hr := valid_run h
  rw [long_full a b 0 0 0 (by rw [hr]) (by rw [hr]) (fun _ => rfl)]
  have := long_shift b 0 0 0 a.length
  simp only [Nat.zero_add] at this ⊢
  omega
theorem long_le : ∀ (l : List UInt8) (st i w : Nat), w ≤ i → longF st i w l ≤ i + l.length
  | [], st, i, w, h => by simpa [longF] using h
  | b :: r, st, i, w, h => by
    unfold longF
    cases hs : stepF st b.toNat with
    | none => simp; omega
    | some t =>
      simp only
      have := long_le r t (i + 1) (if t = 0 then i + 1 else w) (by split <;> omega)
      simp; omega
end Go.Proofs.YtgiemhooeoakmaaDoor

namespace Go.Proofs.YtgiemhooeoakmaaDoor
open Go.RowKit
set_option linter.unusedVariables false
set_option linter.unusedSimpArgs false

/-- The bytes of a code point. -/
def putL (c : Nat) : List UInt8 :=
  if c < 128 then [UInt8.ofNat c]
  else if c < 2048 then [UInt8.ofNat (192 + c / 64), UInt8.ofNat (128 + c % 64)]
  else if c < 65536 then [UInt8.ofNat (224 + c / 4096), UInt8.ofNat (128 + c / 64 % 64), UInt8.ofNat (128 + c % 64)]
  else [UInt8.ofNat (240 + c / 262144), UInt8.ofNat (128 + c / 4096 % 64), UInt8.ofNat (128 + c / 64 % 64), UInt8.ofNat (128 + c % 64)]

set_option maxRecDepth 100000 in
theorem put_any (c : Nat) (w : World) (hc : c ≤ 1114111) :
    Calls Tryd.prog 137 #[.int .i64 c] w fun e w' => e = .returned (.string ⟨(putL c).toArray⟩) ∧ Below w.heap.size w w' := by
  refine cps fun R HR => ?_
  by_cases h1 : c < 128
  · have hp : putL c = [(c : Int)].map fun z => UInt8.ofNat z.toNat := by rw [putL, if_pos h1]; simp
    have hcv := conv_ints (P := Tryd.prog) w 208 9 5 Tryd.underlying208 Tryd.underlying5 Tryd.underlying9 [(c : Int)] (by intro z hz; simp at hz; omega) (by simp)
    rw [← hp] at hcv
    clear hp
    simp only [List.map, List.length] at hcv
    go_enter Tryd.func137, Tryd.ntmps137
    go_wp2
    exact HR.out _ _ ⟨rfl, (Below.refl _ _).alloc (Nat.le_refl _) _⟩
  · by_cases h2 : c < 2048
    · have hp : putL c = [192 + (c : Int) / 64, 128 + (c : Int) % 64].map fun z => UInt8.ofNat z.toNat := by
        have e0 : (192 + (c : Int) / 64).toNat = 192 + c / 64 := by omega
        have e1 : (128 + (c : Int) % 64).toNat = 128 + c % 64 := by omega
        rw [putL, if_neg h1, if_pos h2]
        simp only [List.map, e0, e1]
      have hcv := conv_ints (P := Tryd.prog) w 208 9 5 Tryd.underlying208 Tryd.underlying5 Tryd.underlying9 [192 + (c : Int) / 64, 128 + (c : Int) % 64] (by intro z hz; simp at hz; omega) (by simp)
      rw [← hp] at hcv
      clear hp
      simp only [List.map, List.length] at hcv
      go_enter Tryd.func137, Tryd.ntmps137
      go_wp2
      exact HR.out _ _ ⟨by simp, (Below.refl _ _).alloc (Nat.le_refl _) _⟩
    · by_cases h3 : c < 65536
      · have hp : putL c = [224 + (c : Int) / 4096, 128 + (c : Int) / 64 % 64, 128 + (c : Int) % 64].map fun z => UInt8.ofNat z.toNat := by
          have e0 : (224 + (c : Int) / 4096).toNat = 224 + c / 4096 := by omega
          have e1 : (128 + (c : Int) / 64 % 64).toNat = 128 + c / 64 % 64 := by omega
          have e2 : (128 + (c : Int) % 64).toNat = 128 + c % 64 := by omega
          rw [putL, if_neg h1, if_neg h2, if_pos h3]
          simp only [List.map, e0, e1, e2]
        have hcv := conv_ints (P := Tryd.prog) w 208 9 5 Tryd.underlying208 Tryd.underlying5 Tryd.underlying9 [224 + (c : Int) / 4096, 128 + (c : Int) / 64 % 64, 128 + (c : Int) % 64] (by intro z hz; simp at hz; omega) (by simp)
        rw [← hp] at hcv
        clear hp
        simp only [List.map, List.length] at hcv
        have d1 : decide ((c : Int) < 128) = false := by simp; omega
        have d2 : decide ((c : Int) < 2048) = false := by simp; omega
        have d3 : decide ((c : Int) < 65536) = true := decide_eq_true (by omega)
        have q1 : (c : Int) / 4096 ≤ 15 := by omega
        have q2 : 0 ≤ (c : Int) / 4096 := by omega
        clear h1 h2 h3 hc
        go_enter Tryd.func137, Tryd.ntmps137
        go_wp2
        exact HR.out _ _ ⟨by simp, (Below.refl _ _).alloc (Nat.le_refl _) _⟩
      · have hp : putL c = [240 + (c : Int) / 262144, 128 + (c : Int) / 4096 % 64, 128 + (c : Int) / 64 % 64, 128 + (c : Int) % 64].map fun z => UInt8.ofNat z.toNat := by
          have e0 : (240 + (c : Int) / 262144).toNat = 240 + c / 262144 := by omega
          have e1 : (128 + (c : Int) / 4096 % 64).toNat = 128 + c / 4096 % 64 := by omega
          have e2 : (128 + (c : Int) / 64 % 64).toNat = 128 + c / 64 % 64 := by omega
          have e3 : (128 + (c : Int) % 64).toNat = 128 + c % 64 := by omega
          rw [putL, if_neg h1, if_neg h2, if_neg h3]
          simp only [List.map, e0, e1, e2, e3]
        have hcv := conv_ints (P := Tryd.prog) w 208 9 5 Tryd.underlying208 Tryd.underlying5 Tryd.underlying9 [240 + (c : Int) / 262144, 128 + (c : Int) / 4096 % 64, 128 + (c : Int) / 64 % 64, 128 + (c : Int) % 64] (by intro z hz; simp at hz; omega) (by simp)
        rw [← hp] at hcv
        clear hp
        simp only [List.map, List.length] at hcv
        have d1 : decide ((c : Int) < 128) = false := by simp; omega
        have d2 : decide ((c : Int) < 2048) = false := by simp; omega
        have d3 : decide ((c : Int) < 65536) = false := decide_eq_false (by omega)
        have q1 : (c : Int) / 262144 ≤ 4 := by omega
        have q2 : 0 ≤ (c : Int) / 262144 := by omega
        clear h1 h2 h3 hc
        go_enter Tryd.func137, Tryd.ntmps137
        go_wp2
        exact HR.out _ _ ⟨by simp, (Below.refl _ _).alloc (Nat.le_refl _) _⟩

/-- Is the head of a text a sequence of so many bytes? -/
def isSeq (n : Nat) (s : List UInt8) : Bool :=
  match n, s.map (·.toNat) with
  | 1, a :: _ => decide (a < 128)
  | 2, a :: b :: _ => decide (194 ≤ a ∧ a ≤ 223 ∧ 128 ≤ b ∧ b ≤ 191)
  | 3, a :: b :: c :: _ => decide ((a = 224 ∧ 160 ≤ b ∧ b ≤ 191 ∨ (225 ≤ a ∧ a ≤ 236 ∨ 238 ≤ a ∧ a ≤ 239) ∧ 128 ≤ b ∧ b ≤ 191 ∨ a = 237 ∧ 128 ≤ b ∧ b ≤ 159) ∧ 128 ≤ c ∧ c ≤ 191)
  | 4, a :: b :: c :: d :: _ => decide ((a = 240 ∧ 144 ≤ b ∧ b ≤ 191 ∨ 241 ≤ a ∧ a ≤ 243 ∧ 128 ≤ b ∧ b ≤ 191 ∨ a = 244 ∧ 128 ≤ b ∧ b ≤ 143) ∧ 128 ≤ c ∧ c ≤ 191 ∧ 128 ≤ d ∧ d ≤ 191)
  | _, _ => false
/-- How many bytes the sequence has that a text begins with; 0: it begins with none. -/
def sizeR (s : List UInt8) : Nat := if isSeq 1 s then 1 else if isSeq 2 s then 2 else if isSeq 3 s then 3 else if isSeq 4 s then 4 else 0

theorem ofNat_eq (n : Nat) (a : UInt8) : UInt8.ofNat n = a ↔ n % 256 = a.toNat := by
  constructor
  · intro h; rw [← h, UInt8.toNat_ofNat']
  · intro h; apply UInt8.toNat_inj.1; rw [UInt8.toNat_ofNat']; exact h

theorem seq1 (a : UInt8) (r : List UInt8) : isSeq 1 (a :: r) = true ↔ putL a.toNat = (a :: r).take 1 := by
  have := a.toNat_lt
  simp only [isSeq, List.map_cons, decide_eq_true_eq, List.take_succ_cons, List.take_zero, putL]
  split
  · simp only [List.cons.injEq, ofNat_eq, and_true]; omega
  · split
    · simp; omega
    · split <;> simp <;> omega
theorem seq2 (a b : UInt8) (r : List UInt8) (C : Int) (hC : C = (a.toNat - 192) * 64 + b.toNat - 128) :
    isSeq 2 (a :: b :: r) = true ↔ 0 ≤ C ∧ C ≤ 1114111 ∧ (C < 55296 ∨ 57343 < C) ∧ putL C.toNat = (a :: b :: r).take 2 := by
  have := a.toNat_lt
  have := b.toNat_lt
  simp only [isSeq, List.map_cons, decide_eq_true_eq, List.take_succ_cons, List.take_zero, putL]
  split
  · simp; omega
  · split
    · simp only [List.cons.injEq, ofNat_eq, and_true]; omega
    · split <;> simp <;> omega
theorem seq3 (a b c : UInt8) (r : List UInt8) (C : Int) (hC : C = (a.toNat - 224) * 4096 + (b.toNat - 128) * 64 + c.toNat - 128) :
    isSeq 3 (a :: b :: c :: r) = true ↔ 0 ≤ C ∧ C ≤ 1114111 ∧ (C < 55296 ∨ 57343 < C) ∧ putL C.toNat = (a :: b :: c :: r).take 3 := by
  have := a.toNat_lt
  have := b.toNat_lt
  have := c.toNat_lt
  simp only [isSeq, List.map_cons, decide_eq_true_eq, List.take_succ_cons, List.take_zero, putL]
  split
  · simp; omega
  · split
    · simp; omega
    · split
      · simp only [List.cons.injEq, ofNat_eq, and_true]; omega
      · simp; omega
theorem seq4 (a b c d : UInt8) (r : List UInt8) (C : Int) (hC : C = (a.toNat - 240) * 262144 + (b.toNat - 128) * 4096 + (c.toNat - 128) * 64 + d.toNat - 128) :
    isSeq 4 (a :: b :: c :: d :: r) = true ↔ 0 ≤ C ∧ C ≤ 1114111 ∧ (C < 55296 ∨ 57343 < C) ∧ putL C.toNat = (a :: b :: c :: d :: r).take 4 := by
  have := a.toNat_lt
  have := b.toNat_lt
  have := c.toNat_lt
  have := d.toNat_lt
  simp only [isSeq, List.map_cons, decide_eq_true_eq, List.take_succ_cons, List.take_zero, putL]
  split
  · simp; omega
  · split
    · simp; omega
    · split
      · simp; omega
      · simp only [List.cons.injEq, ofNat_eq, and_true]; omega

theorem seqS1 (s : ByteArray) (k : Nat) (hk : k < s.size) : s.data.toList.drop k = s[k] :: s.data.toList.drop (k + 1) := by
  rw [List.drop_eq_getElem_cons (by rw [Array.length_toList]; exact hk), Array.getElem_toList]; rfl

theorem step_bad {l : List UInt8} {k : Nat} (hN : ∀ j, 1 ≤ j → j < k → isSeq j l = false) (h : isSeq k l = false) : ∀ j, 1 ≤ j → j < k + 1 → isSeq j l = false := fun j h1 h2 => by
  by_cases hj : j < k
  · exact hN j h1 hj
  · obtain rfl : j = k := by omega
    exact h
theorem size_at {l : List UInt8} {k : Nat} (hk : 1 ≤ k) (h4 : k ≤ 4) (hN : ∀ j, 1 ≤ j → j < k → isSeq j l = false) (h : isSeq k l = true) : sizeR l = k := by
  unfold sizeR
  obtain rfl | rfl | rfl | rfl : k = 1 ∨ k = 2 ∨ k = 3 ∨ k = 4 := by omega
  · rw [if_pos h]
  · rw [hN 1 (by omega) (by omega), if_neg (by simp), if_pos h]
  · rw [hN 1 (by omega) (by omega), hN 2 (by omega) (by omega), if_neg (by simp), if_neg (by simp), if_pos h]
  · rw [hN 1 (by omega) (by omega), hN 2 (by omega) (by omega), hN 3 (by omega) (by omega), if_neg (by simp), if_neg (by simp), if_neg (by simp), if_pos h]
theorem isSeq_short {l : List UInt8} {k : Nat} (h : l.length < k) : isSeq k l = false := by
  match k, l with
  | 0, _ => omega
  | 1, [] => rfl
  | 1, _ :: _ => simp at h
  | 2, [] => rfl
  | 2, [_] => rfl
  | 2, _ :: _ :: _ => simp at h; omega
  | 3, [] => rfl
  | 3, [_] => rfl
  | 3, [_, _] => rfl
  | 3, _ :: _ :: _ :: _ => simp at h; omega
  | 4, [] => rfl
  | 4, [_] => rfl
  | 4, [_, _] => rfl
  | 4, [_, _, _] => rfl
  | 4, _ :: _ :: _ :: _ :: _ => simp at h; omega
  | k + 5, _ => simp [isSeq]
theorem size_none {l : List UInt8} {k : Nat} (hk : 1 ≤ k) (hN : ∀ j, 1 ≤ j → j < k → isSeq j l = false) (h : 4 < k ∨ l.length < k) : sizeR l = 0 := by
  have hA : ∀ j, 1 ≤ j → j ≤ 4 → isSeq j l = false := fun j h1 h2 => by
    by_cases hj : j < k
    · exact hN j h1 hj
    · exact isSeq_short (by omega)
  unfold sizeR
  rw [hA 1 (by omega) (by omega), hA 2 (by omega) (by omega), hA 3 (by omega) (by omega), hA 4 (by omega) (by omega)]
  rfl

end Go.Proofs.YtgiemhooeoakmaaDoor

namespace Go.Proofs.YtgiemhooeoakmaaDoor
open Go.RowKit
set_option linter.unusedVariables false
set_option linter.unusedSimpArgs false

def cp2 (a b : Int) : Int := (a - 192) * 64 + b - 128
def cp3 (a b c : Int) : Int := (a - 224) * 4096 + (b - 128) * 64 + c - 128
def cp4 (a b c d : Int) : Int := (a - 240) * 262144 + (b - 128) * 4096 + (c - 128) * 64 + d - 128

set_option maxRecDepth 100000 in
set_option maxHeartbeats 16000000 in
theorem size_any (s : ByteArray) (w : World) (hs : s.size ≤ maxLen) :
    Calls Tryd.prog 125 #[.string s] w fun e w' => e = .returned (.int .i64 (sizeR s.data.toList)) ∧ Below w.heap.size w w' := by
  refine cps fun R HR => ?_
  unfold maxLen at hs
  have hz : s.size = s.data.toList.length := by rw [Array.length_toList]; rfl
  have HZ := Lib.hid hz; clear hz
  go_enter Tryd.func125, Tryd.ntmps125
  go_wp2
  go_loopw [3] (fun i wr => ∃ k : Nat, 1 ≤ k ∧ k ≤ 5 ∧ i = .int .i64 k ∧ (∀ j, 1 ≤ j → j < k → isSeq j s.data.toList = false) ∧ Below w.heap.size w wr) (fun i _ => 5 - (intOf i).toNat)
  case atStart => exact ⟨1, by omega, by omega, rfl, fun j h1 h2 => by omega, Below.refl _ _⟩
  case round =>
    obtain ⟨k, hk1, hk5, rfl, hN, hB⟩ := hrel
    have HN := Lib.hid hN; clear hN
    by_cases hlt : k ≤ 4 ∧ k ≤ s.size
    · obtain ⟨h4, hks⟩ := hlt
      obtain rfl | rfl | rfl | rfl : k = 1 ∨ k = 2 ∨ k = 3 ∨ k = 4 := by omega
      · have l0 : 0 < s.size := by omega
        have b0 := s[0].toNat_lt
        have b0' : (s[0].toNat : Int) < 256 := by omega
        clear b0
        have hl : s.data.toList = s[0] :: s.data.toList.drop 1 := by
          have e := seqS1 s 0 (by omega)
          simpa using e
        obtain ⟨C, hC⟩ : ∃ C : Int, C = ((s[0].toNat : Nat) : Int) := ⟨_, rfl⟩
        have hsq : isSeq 1 s.data.toList = true ↔ 0 ≤ C ∧ C ≤ 1114111 ∧ (C < 55296 ∨ 57343 < C) ∧ putL C.toNat = s.data.toList.take 1 := by 
          rw [hl, hC, seq1]
          have := s[0].toNat_lt
          constructor
          · intro h; exact ⟨by omega, by omega, by omega, by simpa using h⟩
          · rintro ⟨_, _, _, h⟩; simpa using h
        have HSQ := Lib.hid hsq
        have HL := Lib.hid hl
        clear hsq hl
        go_wp2
        rw [← hC]
        clear hC
        by_cases g1 : C < 0
        · have d1 : decide (0 ≤ C) = false := decide_eq_false (by omega)
          have hn0 : isSeq 1 s.data.toList = false := by rw [Bool.eq_false_iff]; intro h; have := HSQ.out.1 h; omega
          have hn := step_bad HN.out hn0
          have HNN := Lib.hid hn
          clear hn hn0 g1
          go_quiet (fail)
          go_wp2
          exact ⟨⟨2, by omega, by omega, by go_num, HNN.out, below_drewN hB _⟩, by simp [intOf]⟩
        have d1 : decide (0 ≤ C) = true := decide_eq_true (by omega)
        by_cases g2 : 1114111 < C
        · have d2 : decide (C ≤ 1114111) = false := decide_eq_false (by omega)
          have hn0 : isSeq 1 s.data.toList = false := by rw [Bool.eq_false_iff]; intro h; have := HSQ.out.1 h; omega
          have hn := step_bad HN.out hn0
          have HNN := Lib.hid hn
          clear hn hn0 g1 g2
          go_quiet (fail)
          go_wp2
          exact ⟨⟨2, by omega, by omega, by go_num, HNN.out, below_drewN hB _⟩, by simp [intOf]⟩
        have d2 : decide (C ≤ 1114111) = true := decide_eq_true (by omega)
        by_cases g3 : 55296 ≤ C ∧ C ≤ 57343
        · have d3 : decide (C < 55296) = false := decide_eq_false (by omega)
          have d4 : decide (57343 < C) = false := decide_eq_false (by omega)
          have hn0 : isSeq 1 s.data.toList = false := by rw [Bool.eq_false_iff]; intro h; have := HSQ.out.1 h; omega
          have hn := step_bad HN.out hn0
          have HNN := Lib.hid hn
          clear hn hn0 g1 g2 g3
          go_quiet (fail)
          go_wp2
          exact ⟨⟨2, by omega, by omega, by go_num, HNN.out, below_drewN hB _⟩, by simp [intOf]⟩
        obtain ⟨c, rfl⟩ := Int.eq_ofNat_of_zero_le (a := C) (by omega)
        have he : ((ByteArray.mk (putL c).toArray).toList == (s.extract 0 1).toList) = isSeq 1 s.data.toList := by
          rw [Bool.eq_iff_iff, beq_iff_eq, HSQ.out, ByteArray.toList_eq, Lib.extract_toList]
          constructor
          · intro h; exact ⟨by omega, by omega, by omega, by simpa using h⟩
          · rintro ⟨_, _, _, h⟩; simpa using h
        have hc9 : c ≤ 1114111 := by omega
        obtain ⟨T, hT⟩ : ∃ T : ByteArray, T = ⟨(putL c).toArray⟩ := ⟨_, rfl⟩
        rw [← hT] at he
        have gP : ∀ (v : World) (dn : Nat) (os : Array Obj), Calls Tryd.prog 137 #[.int .i64 c] (Go.Sort.grow (redrawn v dn) os) fun e w'' => e = .returned (.string T) ∧ ∃ p : Regrown, w'' = Go.Sort.grow (redrawn v p.d) p.os := fun v dn os => Calls.regrown_of (by rw [hT]; exact put_any c _ hc9)
        clear hT hc9
        have hge : decide ((c : Int) < 55296) = true ∨ decide ((c : Int) < 55296) = false ∧ decide (57343 < (c : Int)) = true := by
          by_cases g4 : (c : Int) < 55296
          · exact .inl (decide_eq_true g4)
          · exact .inr ⟨decide_eq_false g4, decide_eq_true (by omega)⟩
        clear g1 g2 g3
        cases hq : isSeq 1 s.data.toList
        · rw [hq] at he
          have hn := step_bad HN.out hq
          have HNN := Lib.hid hn
          clear hn hq
          rcases hge with d3 | ⟨d3, d4⟩
          all_goals
            refine wp_region_quiet_below (by kernel_rfl) (by kernel_rfl) ?_
            repeat (go_big_quiet_step ((go_at_call 137; with_reducible exact gP _ _ _)))
            refine wpQuiet_nil ?_
            intro w9 hw9
            have bel2 : Below w.heap.size w w9 := by obtain ⟨p, rfl⟩ := hw9; exact hB.trans ((below_regrown _ p.d p.os).mono hB.size)
            clear hw9 gP
            go_wp2
            exact ⟨⟨2, by omega, by omega, by go_num, HNN.out, bel2⟩, by simp [intOf]⟩
        · rw [hq] at he
          have hsz := size_at (by omega) (by omega) HN.out hq
          have HSZ := Lib.hid hsz
          clear hsz hq
          rcases hge with d3 | ⟨d3, d4⟩
          all_goals
            refine wp_region_quiet_below (by kernel_rfl) (by kernel_rfl) ?_
            repeat (go_big_quiet_step ((go_at_call 137; with_reducible exact gP _ _ _)))
            refine wpQuiet_nil ?_
            intro w9 hw9
            have bel2 : Below w.heap.size w w9 := by obtain ⟨p, rfl⟩ := hw9; exact hB.trans ((below_regrown _ p.d p.os).mono hB.size)
            clear hw9 gP
            go_wp2
            exact HR.out _ _ ⟨by rw [HSZ.out]; rfl, bel2⟩
      · have l0 : 0 < s.size := by omega
        have b0 := s[0].toNat_lt
        have b0' : (s[0].toNat : Int) < 256 := by omega
        clear b0
        have l1 : 1 < s.size := by omega
        have l1' : (1 : Int) < s.size := by omega
        have b1 := s[1].toNat_lt
        have b1' : (s[1].toNat : Int) < 256 := by omega
        clear b1
        have hl : s.data.toList = s[0] :: s[1] :: s.data.toList.drop 2 := by
          have e := seqS1 s 0 (by omega)
          have e1 := seqS1 s 1 (by omega)
          rw [e1] at e
          simpa using e
        obtain ⟨C, hC⟩ : ∃ C : Int, C = cp2 (s[0].toNat : Int) (s[1].toNat : Int) := ⟨_, rfl⟩
        simp only [cp2] at hC
        have hsq : isSeq 2 s.data.toList = true ↔ 0 ≤ C ∧ C ≤ 1114111 ∧ (C < 55296 ∨ 57343 < C) ∧ putL C.toNat = s.data.toList.take 2 := by rw [hl]; exact seq2 s[0] s[1] _ C (by rw [hC])
        have HSQ := Lib.hid hsq
        have HL := Lib.hid hl
        clear hsq hl
        go_wp2
        go_quiet (fail)
        go_wp2
        rw [← hC]
        clear hC
        by_cases g1 : C < 0
        · have d1 : decide (0 ≤ C) = false := decide_eq_false (by omega)
          have hn0 : isSeq 2 s.data.toList = false := by rw [Bool.eq_false_iff]; intro h; have := HSQ.out.1 h; omega
          have hn := step_bad HN.out hn0
          have HNN := Lib.hid hn
          clear hn hn0 g1
          go_quiet (fail)
          go_wp2
          exact ⟨⟨3, by omega, by omega, by go_num, HNN.out, below_drewN hB _⟩, by simp [intOf]⟩
        have d1 : decide (0 ≤ C) = true := decide_eq_true (by omega)
        by_cases g2 : 1114111 < C
        · have d2 : decide (C ≤ 1114111) = false := decide_eq_false (by omega)
          have hn0 : isSeq 2 s.data.toList = false := by rw [Bool.eq_false_iff]; intro h; have := HSQ.out.1 h; omega
          have hn := step_bad HN.out hn0
          have HNN := Lib.hid hn
          clear hn hn0 g1 g2
          go_quiet (fail)
          go_wp2
          exact ⟨⟨3, by omega, by omega, by go_num, HNN.out, below_drewN hB _⟩, by simp [intOf]⟩
        have d2 : decide (C ≤ 1114111) = true := decide_eq_true (by omega)
        by_cases g3 : 55296 ≤ C ∧ C ≤ 57343
        · have d3 : decide (C < 55296) = false := decide_eq_false (by omega)
          have d4 : decide (57343 < C) = false := decide_eq_false (by omega)
          have hn0 : isSeq 2 s.data.toList = false := by rw [Bool.eq_false_iff]; intro h; have := HSQ.out.1 h; omega
          have hn := step_bad HN.out hn0
          have HNN := Lib.hid hn
          clear hn hn0 g1 g2 g3
          go_quiet (fail)
          go_wp2
          exact ⟨⟨3, by omega, by omega, by go_num, HNN.out, below_drewN hB _⟩, by simp [intOf]⟩
        obtain ⟨c, rfl⟩ := Int.eq_ofNat_of_zero_le (a := C) (by omega)
        have he : ((ByteArray.mk (putL c).toArray).toList == (s.extract 0 2).toList) = isSeq 2 s.data.toList := by
          rw [Bool.eq_iff_iff, beq_iff_eq, HSQ.out, ByteArray.toList_eq, Lib.extract_toList]
          constructor
          · intro h; exact ⟨by omega, by omega, by omega, by simpa using h⟩
          · rintro ⟨_, _, _, h⟩; simpa using h
        have hc9 : c ≤ 1114111 := by omega
        obtain ⟨T, hT⟩ : ∃ T : ByteArray, T = ⟨(putL c).toArray⟩ := ⟨_, rfl⟩
        rw [← hT] at he
        have gP : ∀ (v : World) (dn : Nat) (os : Array Obj), Calls Tryd.prog 137 #[.int .i64 c] (Go.Sort.grow (redrawn v dn) os) fun e w'' => e = .returned (.string T) ∧ ∃ p : Regrown, w'' = Go.Sort.grow (redrawn v p.d) p.os := fun v dn os => Calls.regrown_of (by rw [hT]; exact put_any c _ hc9)
        clear hT hc9
        have hge : decide ((c : Int) < 55296) = true ∨ decide ((c : Int) < 55296) = false ∧ decide (57343 < (c : Int)) = true := by
          by_cases g4 : (c : Int) < 55296
          · exact .inl (decide_eq_true g4)
          · exact .inr ⟨decide_eq_false g4, decide_eq_true (by omega)⟩
        clear g1 g2 g3
        cases hq : isSeq 2 s.data.toList
        · rw [hq] at he
          have hn := step_bad HN.out hq
          have HNN := Lib.hid hn
          clear hn hq
          rcases hge with d3 | ⟨d3, d4⟩
          all_goals
            refine wp_region_quiet_below (by kernel_rfl) (by kernel_rfl) ?_
            repeat (go_big_quiet_step ((go_at_call 137; with_reducible exact gP _ _ _)))
            refine wpQuiet_nil ?_
            intro w9 hw9
            have bel2 : Below w.heap.size w w9 := by obtain ⟨p, rfl⟩ := hw9; exact (below_drewN hB _).trans ((below_regrown _ p.d p.os).mono (below_drewN hB _).size)
            clear hw9 gP
            go_wp2
            exact ⟨⟨3, by omega, by omega, by go_num, HNN.out, bel2⟩, by simp [intOf]⟩
        · rw [hq] at he
          have hsz := size_at (by omega) (by omega) HN.out hq
          have HSZ := Lib.hid hsz
          clear hsz hq
          rcases hge with d3 | ⟨d3, d4⟩
          all_goals
            refine wp_region_quiet_below (by kernel_rfl) (by kernel_rfl) ?_
            repeat (go_big_quiet_step ((go_at_call 137; with_reducible exact gP _ _ _)))
            refine wpQuiet_nil ?_
            intro w9 hw9
            have bel2 : Below w.heap.size w w9 := by obtain ⟨p, rfl⟩ := hw9; exact (below_drewN hB _).trans ((below_regrown _ p.d p.os).mono (below_drewN hB _).size)
            clear hw9 gP
            go_wp2
            exact HR.out _ _ ⟨by rw [HSZ.out]; rfl, bel2⟩
      · have l0 : 0 < s.size := by omega
        have b0 := s[0].toNat_lt
        have b0' : (s[0].toNat : Int) < 256 := by omega
        clear b0
        have l1 : 1 < s.size := by omega
        have l1' : (1 : Int) < s.size := by omega
        have b1 := s[1].toNat_lt
        have b1' : (s[1].toNat : Int) < 256 := by omega
        clear b1
        have l2 : 2 < s.size := by omega
        have l2' : (2 : Int) < s.size := by omega
        have b2 := s[2].toNat_lt
        have b2' : (s[2].toNat : Int) < 256 := by omega
        clear b2
        have hl : s.data.toList = s[0] :: s[1] :: s[2] :: s.data.toList.drop 3 := by
          have e := seqS1 s 0 (by omega)
          have e1 := seqS1 s 1 (by omega)
          have e2 := seqS1 s 2 (by omega)
          rw [e1, e2] at e
          simpa using e
        obtain ⟨C, hC⟩ : ∃ C : Int, C = cp3 (s[0].toNat : Int) (s[1].toNat : Int) (s[2].toNat : Int) := ⟨_, rfl⟩
        simp only [cp3] at hC
        have hsq : isSeq 3 s.data.toList = true ↔ 0 ≤ C ∧ C ≤ 1114111 ∧ (C < 55296 ∨ 57343 < C) ∧ putL C.toNat = s.data.toList.take 3 := by rw [hl]; exact seq3 s[0] s[1] s[2] _ C (by rw [hC])
        have HSQ := Lib.hid hsq
        have HL := Lib.hid hl
        clear hsq hl
        go_wp2
        go_quiet (fail)
        go_wp2
        rw [← hC]
        clear hC
        by_cases g1 : C < 0
        · have d1 : decide (0 ≤ C) = false := decide_eq_false (by omega)
          have hn0 : isSeq 3 s.data.toList = false := by rw [Bool.eq_false_iff]; intro h; have := HSQ.out.1 h; omega
          have hn := step_bad HN.out hn0
          have HNN := Lib.hid hn
          clear hn hn0 g1
          go_quiet (fail)
          go_wp2
          exact ⟨⟨4, by omega, by omega, by go_num, HNN.out, below_drewN hB _⟩, by simp [intOf]⟩
        have d1 : decide (0 ≤ C) = true := decide_eq_true (by omega)
        by_cases g2 : 1114111 < C
        · have d2 : decide (C ≤ 1114111) = false := decide_eq_false (by omega)
          have hn0 : isSeq 3 s.data.toList = false := by rw [Bool.eq_false_iff]; intro h; have := HSQ.out.1 h; omega
          have hn := step_bad HN.out hn0
          have HNN := Lib.hid hn
          clear hn hn0 g1 g2
          go_quiet (fail)
          go_wp2
          exact ⟨⟨4, by omega, by omega, by go_num, HNN.out, below_drewN hB _⟩, by simp [intOf]⟩
        have d2 : decide (C ≤ 1114111) = true := decide_eq_true (by omega)
        by_cases g3 : 55296 ≤ C ∧ C ≤ 57343
        · have d3 : decide (C < 55296) = false := decide_eq_false (by omega)
          have d4 : decide (57343 < C) = false := decide_eq_false (by omega)
          have hn0 : isSeq 3 s.data.toList = false := by rw [Bool.eq_false_iff]; intro h; have := HSQ.out.1 h; omega
          have hn := step_bad HN.out hn0
          have HNN := Lib.hid hn
          clear hn hn0 g1 g2 g3
          go_quiet (fail)
          go_wp2
          exact ⟨⟨4, by omega, by omega, by go_num, HNN.out, below_drewN hB _⟩, by simp [intOf]⟩
        obtain ⟨c, rfl⟩ := Int.eq_ofNat_of_zero_le (a := C) (by omega)
        have he : ((ByteArray.mk (putL c).toArray).toList == (s.extract 0 3).toList) = isSeq 3 s.data.toList := by
          rw [Bool.eq_iff_iff, beq_iff_eq, HSQ.out, ByteArray.toList_eq, Lib.extract_toList]
          constructor
          · intro h; exact ⟨by omega, by omega, by omega, by simpa using h⟩
          · rintro ⟨_, _, _, h⟩; simpa using h
        have hc9 : c ≤ 1114111 := by omega
        obtain ⟨T, hT⟩ : ∃ T : ByteArray, T = ⟨(putL c).toArray⟩ := ⟨_, rfl⟩
        rw [← hT] at he
        have gP : ∀ (v : World) (dn : Nat) (os : Array Obj), Calls Tryd.prog 137 #[.int .i64 c] (Go.Sort.grow (redrawn v dn) os) fun e w'' => e = .returned (.string T) ∧ ∃ p : Regrown, w'' = Go.Sort.grow (redrawn v p.d) p.os := fun v dn os => Calls.regrown_of (by rw [hT]; exact put_any c _ hc9)
        clear hT hc9
        have hge : decide ((c : Int) < 55296) = true ∨ decide ((c : Int) < 55296) = false ∧ decide (57343 < (c : Int)) = true := by
          by_cases g4 : (c : Int) < 55296
          · exact .inl (decide_eq_true g4)
          · exact .inr ⟨decide_eq_false g4, decide_eq_true (by omega)⟩
        clear g1 g2 g3
        cases hq : isSeq 3 s.data.toList
        · rw [hq] at he
          have hn := step_bad HN.out hq
          have HNN := Lib.hid hn
          clear hn hq
          rcases hge with d3 | ⟨d3, d4⟩
          all_goals
            refine wp_region_quiet_below (by kernel_rfl) (by kernel_rfl) ?_
            repeat (go_big_quiet_step ((go_at_call 137; with_reducible exact gP _ _ _)))
            refine wpQuiet_nil ?_
            intro w9 hw9
            have bel2 : Below w.heap.size w w9 := by obtain ⟨p, rfl⟩ := hw9; exact (below_drewN hB _).trans ((below_regrown _ p.d p.os).mono (below_drewN hB _).size)
            clear hw9 gP
            go_wp2
            exact ⟨⟨4, by omega, by omega, by go_num, HNN.out, bel2⟩, by simp [intOf]⟩
        · rw [hq] at he
          have hsz := size_at (by omega) (by omega) HN.out hq
          have HSZ := Lib.hid hsz
          clear hsz hq
          rcases hge with d3 | ⟨d3, d4⟩
          all_goals
            refine wp_region_quiet_below (by kernel_rfl) (by kernel_rfl) ?_
            repeat (go_big_quiet_step ((go_at_call 137; with_reducible exact gP _ _ _)))
            refine wpQuiet_nil ?_
            intro w9 hw9
            have bel2 : Below w.heap.size w w9 := by obtain ⟨p, rfl⟩ := hw9; exact (below_drewN hB _).trans ((below_regrown _ p.d p.os).mono (below_drewN hB _).size)
            clear hw9 gP
            go_wp2
            exact HR.out _ _ ⟨by rw [HSZ.out]; rfl, bel2⟩
      · have l0 : 0 < s.size := by omega
        have b0 := s[0].toNat_lt
        have b0' : (s[0].toNat : Int) < 256 := by omega
        clear b0
        have l1 : 1 < s.size := by omega
        have l1' : (1 : Int) < s.size := by omega
        have b1 := s[1].toNat_lt
        have b1' : (s[1].toNat : Int) < 256 := by omega
        clear b1
        have l2 : 2 < s.size := by omega
        have l2' : (2 : Int) < s.size := by omega
        have b2 := s[2].toNat_lt
        have b2' : (s[2].toNat : Int) < 256 := by omega
        clear b2
        have l3 : 3 < s.size := by omega
        have l3' : (3 : Int) < s.size := by omega
        have b3 := s[3].toNat_lt
        have b3' : (s[3].toNat : Int) < 256 := by omega
        clear b3
        have hl : s.data.toList = s[0] :: s[1] :: s[2] :: s[3] :: s.data.toList.drop 4 := by
          have e := seqS1 s 0 (by omega)
          have e1 := seqS1 s 1 (by omega)
          have e2 := seqS1 s 2 (by omega)
          have e3 := seqS1 s 3 (by omega)
          rw [e1, e2, e3] at e
          simpa using e
        obtain ⟨C, hC⟩ : ∃ C : Int, C = cp4 (s[0].toNat : Int) (s[1].toNat : Int) (s[2].toNat : Int) (s[3].toNat : Int) := ⟨_, rfl⟩
        simp only [cp4] at hC
        have hsq : isSeq 4 s.data.toList = true ↔ 0 ≤ C ∧ C ≤ 1114111 ∧ (C < 55296 ∨ 57343 < C) ∧ putL C.toNat = s.data.toList.take 4 := by rw [hl]; exact seq4 s[0] s[1] s[2] s[3] _ C (by rw [hC])
        have HSQ := Lib.hid hsq
        have HL := Lib.hid hl
        clear hsq hl
        go_wp2
        go_quiet (fail)
        go_wp2
        rw [← hC]
        clear hC
        by_cases g1 : C < 0
        · have d1 : decide (0 ≤ C) = false := decide_eq_false (by omega)
          have hn0 : isSeq 4 s.data.toList = false := by rw [Bool.eq_false_iff]; intro h; have := HSQ.out.1 h; omega
          have hn := step_bad HN.out hn0
          have HNN := Lib.hid hn
          clear hn hn0 g1
          go_quiet (fail)
          go_wp2
          exact ⟨⟨5, by omega, by omega, by go_num, HNN.out, below_drewN hB _⟩, by simp [intOf]⟩
        have d1 : decide (0 ≤ C) = true := decide_eq_true (by omega)
        by_cases g2 : 1114111 < C
        · have d2 : decide (C ≤ 1114111) = false := decide_eq_false (by omega)
          have hn0 : isSeq 4 s.data.toList = false := by rw [Bool.eq_false_iff]; intro h; have := HSQ.out.1 h; omega
          have hn := step_bad HN.out hn0
          have HNN := Lib.hid hn
          clear hn hn0 g1 g2
          go_quiet (fail)
          go_wp2
          exact ⟨⟨5, by omega, by omega, by go_num, HNN.out, below_drewN hB _⟩, by simp [intOf]⟩
        have d2 : decide (C ≤ 1114111) = true := decide_eq_true (by omega)
        by_cases g3 : 55296 ≤ C ∧ C ≤ 57343
        · have d3 : decide (C < 55296) = false := decide_eq_false (by omega)
          have d4 : decide (57343 < C) = false := decide_eq_false (by omega)
          have hn0 : isSeq 4 s.data.toList = false := by rw [Bool.eq_false_iff]; intro h; have := HSQ.out.1 h; omega
          have hn := step_bad HN.out hn0
          have HNN := Lib.hid hn
          clear hn hn0 g1 g2 g3
          go_quiet (fail)
          go_wp2
          exact ⟨⟨5, by omega, by omega, by go_num, HNN.out, below_drewN hB _⟩, by simp [intOf]⟩
        obtain ⟨c, rfl⟩ := Int.eq_ofNat_of_zero_le (a := C) (by omega)
        have he : ((ByteArray.mk (putL c).toArray).toList == (s.extract 0 4).toList) = isSeq 4 s.data.toList := by
          rw [Bool.eq_iff_iff, beq_iff_eq, HSQ.out, ByteArray.toList_eq, Lib.extract_toList]
          constructor
          · intro h; exact ⟨by omega, by omega, by omega, by simpa using h⟩
          · rintro ⟨_, _, _, h⟩; simpa using h
        have hc9 : c ≤ 1114111 := by omega
        obtain ⟨T, hT⟩ : ∃ T : ByteArray, T = ⟨(putL c).toArray⟩ := ⟨_, rfl⟩
        rw [← hT] at he
        have gP : ∀ (v : World) (dn : Nat) (os : Array Obj), Calls Tryd.prog 137 #[.int .i64 c] (Go.Sort.grow (redrawn v dn) os) fun e w'' => e = .returned (.string T) ∧ ∃ p : Regrown, w'' = Go.Sort.grow (redrawn v p.d) p.os := fun v dn os => Calls.regrown_of (by rw [hT]; exact put_any c _ hc9)
        clear hT hc9
        have hge : decide ((c : Int) < 55296) = true ∨ decide ((c : Int) < 55296) = false ∧ decide (57343 < (c : Int)) = true := by
          by_cases g4 : (c : Int) < 55296
          · exact .inl (decide_eq_true g4)
          · exact .inr ⟨decide_eq_false g4, decide_eq_true (by omega)⟩
        clear g1 g2 g3
        cases hq : isSeq 4 s.data.toList
        · rw [hq] at he
          have hn := step_bad HN.out hq
          have HNN := Lib.hid hn
          clear hn hq
          rcases hge with d3 | ⟨d3, d4⟩
          all_goals
            refine wp_region_quiet_below (by kernel_rfl) (by kernel_rfl) ?_
            repeat (go_big_quiet_step ((go_at_call 137; with_reducible exact gP _ _ _)))
            refine wpQuiet_nil ?_
            intro w9 hw9
            have bel2 : Below w.heap.size w w9 := by obtain ⟨p, rfl⟩ := hw9; exact (below_drewN hB _).trans ((below_regrown _ p.d p.os).mono (below_drewN hB _).size)
            clear hw9 gP
            go_wp2
            exact ⟨⟨5, by omega, by omega, by go_num, HNN.out, bel2⟩, by simp [intOf]⟩
        · rw [hq] at he
          have hsz := size_at (by omega) (by omega) HN.out hq
          have HSZ := Lib.hid hsz
          clear hsz hq
          rcases hge with d3 | ⟨d3, d4⟩
          all_goals
            refine wp_region_quiet_below (by kernel_rfl) (by kernel_rfl) ?_
            repeat (go_big_quiet_step ((go_at_call 137; with_reducible exact gP _ _ _)))
            refine wpQuiet_nil ?_
            intro w9 hw9
            have bel2 : Below w.heap.size w w9 := by obtain ⟨p, rfl⟩ := hw9; exact (below_drewN hB _).trans ((below_regrown _ p.d p.os).mono (below_drewN hB _).size)
            clear hw9 gP
            go_wp2
            exact HR.out _ _ ⟨by rw [HSZ.out]; rfl, bel2⟩
    · have hsz : sizeR s.data.toList = 0 := size_none hk1 HN.out (by rw [← HZ.out]; omega)
      have HSZ := Lib.hid hsz; clear hsz
      by_cases h5 : k ≤ 4
      · have hks : ¬ k ≤ s.size := fun h => hlt ⟨h5, h⟩
        clear hlt
        go_wp2
        exact HR.out _ _ ⟨by rw [HSZ.out]; rfl, hB⟩
      · clear hlt
        go_wp2
        exact HR.out _ _ ⟨by rw [HSZ.out]; rfl, hB⟩

end Go.Proofs.YtgiemhooeoakmaaDoor

namespace Go.Proofs.YtgiemhooeoakmaaDoor
open Go.RowKit
set_option linter.unusedVariables false
set_option linter.unusedSimpArgs false

theorem size_le (l : List UInt8) : sizeR l ≤ 4 := by
  unfold sizeR
  split
  · omega
  · split
    · omega
    · split
      · omega
      · split <;> omega
theorem isSeq_len {k : Nat} {l : List UInt8} (h : isSeq k l = true) : k ≤ l.length := by
  apply Decidable.byContradiction
  intro hn
  rw [isSeq_short (by omega)] at h
  cases h
theorem size_len (l : List UInt8) : sizeR l ≤ l.length := by
  unfold sizeR
  split
  · rename_i h; exact isSeq_len h
  · split
    · rename_i h; exact isSeq_len h
    · split
      · rename_i h; exact isSeq_len h
      · split
        · rename_i h; exact isSeq_len h
        · omega

/-- How many bytes the longest beginning has that is well formed. -/
def wholeR (l : List UInt8) : Nat :=
  if h : 0 < sizeR l then sizeR l + wholeR (l.drop (sizeR l)) else 0
termination_by l.length
decreasing_by
  rw [List.length_drop]
  have := size_len l
  omega
theorem whole_len (l : List UInt8) : wholeR l ≤ l.length := by
  induction hn : l.length using Nat.strongRecOn generalizing l with
  | ind n ih =>
    subst hn
    rw [wholeR]
    split
    · rename_i h
      have hl := size_len l
      have := ih (l.drop (sizeR l)).length (by rw [List.length_drop]; omega) (l.drop (sizeR l)) rfl
      rw [List.length_drop] at this
      omega
    · omega
theorem ext_rest (s : ByteArray) (k : Nat) : (s.extract k s.size).data.toList = s.data.toList.drop k := by
  rw [ext_list, List.take_of_length_le]
  rw [List.length_drop, Array.length_toList]
  exact Nat.le_refl _
theorem whole_any (s : ByteArray) (w : World) (hs : s.size ≤ maxLen) :
    Calls Tryd.prog 103 #[.string s] w fun e w' => e = .returned (.int .i64 (wholeR s.data.toList)) ∧ Below w.heap.size w w' := by
  refine cps fun R HR => ?_
  have hz : s.size = s.data.toList.length := by rw [Array.length_toList]; rfl
  have HZ := Lib.hid hz; clear hz
  unfold maxLen at hs
  go_enter Tryd.func103, Tryd.ntmps103
  go_wp2
  go_loopw [3] (fun i wr => ∃ k : Nat, k ≤ s.size ∧ i = .int .i64 k ∧ wholeR s.data.toList = k + wholeR (s.data.toList.drop k) ∧ Below w.heap.size w wr) (fun i _ => s.size - (intOf i).toNat)
  case atStart => exact ⟨0, by omega, rfl, by simp, Below.refl _ _⟩
  case round =>
    obtain ⟨k, hk, rfl, hW, hB⟩ := hrel
    have HW := Lib.hid hW; clear hW
    by_cases hlt : k < s.size
    · have hss : (s.extract k s.size).size ≤ maxLen := by rw [ByteArray.size_extract]; unfold maxLen; omega
      obtain ⟨w3, rfl⟩ : ∃ w3 : World, w3 = wr := ⟨_, rfl⟩
      obtain ⟨z, hz⟩ : ∃ z, z = sizeR (s.data.toList.drop k) := ⟨_, rfl⟩
      have hzl : z ≤ s.size - k := by rw [hz, HZ.out, ← List.length_drop]; exact size_len _
      have hc : ∀ v : World, Calls Tryd.prog 125 #[.string (s.extract k s.size)] v fun e w' => e = .returned (.int .i64 z) ∧ Below v.heap.size v w' := fun v => by
        rw [hz, ← ext_rest]
        exact size_any _ v hss
      have HS := Lib.hid hss; have HZZ := Lib.hid hz; have HC := Lib.hid hc
      clear hss hz hc
      go_wp2_with fail
      refine (HC.out _).mono ?_
      rintro e w4 ⟨rfl, b4⟩
      have b04 := hB.trans (b4.mono hB.size)
      by_cases h0 : 0 < z
      · have d0 : decide ((0 : Int) < z) = true := decide_eq_true (by omega)
        go_wp2_with fail
        refine (HC.out _).mono ?_
        rintro e w5 ⟨rfl, b5⟩
        have b05 := b04.trans (b5.mono b04.size)
        have hn : wholeR s.data.toList = (k + z) + wholeR (s.data.toList.drop (k + z)) := by
          rw [HW.out, wholeR, dif_pos (by rw [← HZZ.out]; exact h0), ← HZZ.out, List.drop_drop]
          omega
        have HN := Lib.hid hn; clear hn
        go_wp2
        exact ⟨⟨k + z, by omega, by go_num, HN.out, b05⟩, by simp [intOf]; omega⟩
      · obtain rfl : z = 0 := by omega
        have hn : wholeR s.data.toList = k := by
          rw [HW.out, wholeR, dif_neg (by rw [← HZZ.out]; omega)]
          rfl
        have HN := Lib.hid hn; clear hn
        go_wp2
        exact HR.out _ _ ⟨by rw [HN.out]; rfl, b04⟩
    · have hd : s.data.toList.drop k = [] := List.drop_of_length_le (by rw [← HZ.out]; omega)
      have hn : wholeR s.data.toList = k := by
        rw [HW.out, hd, wholeR, dif_neg (by decide)]
        rfl
      have HN := Lib.hid hn; clear hn hd
      go_wp2
      exact HR.out _ _ ⟨by rw [HN.out]; rfl, hB⟩

end Go.Proofs.YtgiemhooeoakmaaDoor

namespace Go.Proofs.YtgiemhooeoakmaaDoor
set_option linter.unusedVariables false
set_option linter.unusedSimpArgs false

def cont (b : Nat) : Prop := 128 ≤ b ∧ b ≤ 191
def P2 (a : Nat) : Prop := 194 ≤ a ∧ a ≤ 223
def P3 (a b : Nat) : Prop := a = 224 ∧ 160 ≤ b ∧ b ≤ 191 ∨ (225 ≤ a ∧ a ≤ 236 ∨ 238 ≤ a ∧ a ≤ 239) ∧ 128 ≤ b ∧ b ≤ 191 ∨ a = 237 ∧ 128 ≤ b ∧ b ≤ 159
def P4 (a b : Nat) : Prop := a = 240 ∧ 144 ≤ b ∧ b ≤ 191 ∨ 241 ≤ a ∧ a ≤ 243 ∧ 128 ≤ b ∧ b ≤ 191 ∨ a = 244 ∧ 128 ≤ b ∧ b ≤ 143
theorem seq1_iff (a : UInt8) (r : List UInt8) : isSeq 1 (a :: r) = true ↔ a.toNat < 128 := by simp [isSeq]
theorem seq2_iff (a b : UInt8) (r : List UInt8) : isSeq 2 (a :: b :: r) = true ↔ P2 a.toNat ∧ cont b.toNat := by
  simp [isSeq, P2, cont, and_assoc]
theorem seq3_iff (a b c : UInt8) (r : List UInt8) : isSeq 3 (a :: b :: c :: r) = true ↔ P3 a.toNat b.toNat ∧ cont c.toNat := by
  simp [isSeq, P3, cont]
theorem seq4_iff (a b c d : UInt8) (r : List UInt8) : isSeq 4 (a :: b :: c :: d :: r) = true ↔ P4 a.toNat b.toNat ∧ cont c.toNat ∧ cont d.toNat := by
  simp [isSeq, P4, cont, and_assoc]

theorem stepL_cons (f t n : Nat) (r : List (Nat × Nat × Nat)) (b v : Nat) : stepL ((f, t, n) :: r) b = some v ↔ (f ≤ b ∧ b ≤ t ∧ v = n) ∨ (¬ (f ≤ b ∧ b ≤ t) ∧ stepL r b = some v) := by
  rw [stepL]
  split
  · rename_i h
    simp [h, eq_comm]
  · rename_i h
    simp [h]
    intro h1 h2
    exact absurd ⟨h1, h2⟩ h
theorem stepL_nil (b v : Nat) : stepL [] b = some v ↔ False := by simp [stepL]
theorem step0 (b v : Nat) : stepF 0 b = some v ↔ (b ≤ 127 ∧ v = 0) ∨ (194 ≤ b ∧ b ≤ 223 ∧ v = 1) ∨ (b = 224 ∧ v = 4) ∨ ((225 ≤ b ∧ b ≤ 236 ∨ 238 ≤ b ∧ b ≤ 239) ∧ v = 2) ∨ (b = 237 ∧ v = 5) ∨ (b = 240 ∧ v = 6) ∨ (241 ≤ b ∧ b ≤ 243 ∧ v = 3) ∨ (b = 244 ∧ v = 7) := by
  constructor
  · intro h
    simp only [stepF, spans, stepL_cons, stepL_nil, and_false, or_false] at h
    rcases h with h | ⟨_, h | ⟨_, h | ⟨_, h | ⟨_, h | ⟨_, h | ⟨_, h | ⟨_, h | ⟨_, h⟩⟩⟩⟩⟩⟩⟩⟩ <;> omega
  · intro h
    rcases h with ⟨h, rfl⟩ | ⟨h, h', rfl⟩ | ⟨rfl, rfl⟩ | ⟨h | h, rfl⟩ | ⟨rfl, rfl⟩ | ⟨rfl, rfl⟩ | ⟨h, h', rfl⟩ | ⟨rfl, rfl⟩
    all_goals simp only [stepF, spans, stepL]
    all_goals (try rfl)
    all_goals repeat (first | rw [if_pos (by omega)] | rw [if_neg (by omega)])
theorem step1 (b v : Nat) : stepF 1 b = some v ↔ 128 ≤ b ∧ b ≤ 191 ∧ v = 0 := by
  simp only [stepF, spans, stepL_cons, stepL_nil, and_false, or_false]
theorem step2 (b v : Nat) : stepF 2 b = some v ↔ 128 ≤ b ∧ b ≤ 191 ∧ v = 1 := by
  simp only [stepF, spans, stepL_cons, stepL_nil, and_false, or_false]
theorem step3 (b v : Nat) : stepF 3 b = some v ↔ 128 ≤ b ∧ b ≤ 191 ∧ v = 2 := by
  simp only [stepF, spans, stepL_cons, stepL_nil, and_false, or_false]
theorem step4 (b v : Nat) : stepF 4 b = some v ↔ 160 ≤ b ∧ b ≤ 191 ∧ v = 1 := by
  simp only [stepF, spans, stepL_cons, stepL_nil, and_false, or_false]
theorem step5 (b v : Nat) : stepF 5 b = some v ↔ 128 ≤ b ∧ b ≤ 159 ∧ v = 1 := by
  simp only [stepF, spans, stepL_cons, stepL_nil, and_false, or_false]
theorem step6 (b v : Nat) : stepF 6 b = some v ↔ 144 ≤ b ∧ b ≤ 191 ∧ v = 2 := by
  simp only [stepF, spans, stepL_cons, stepL_nil, and_false, or_false]
theorem step7 (b v : Nat) : stepF 7 b = some v ↔ 128 ≤ b ∧ b ≤ 143 ∧ v = 2 := by
  simp only [stepF, spans, stepL_cons, stepL_nil, and_false, or_false]

/-- All bytes go on, and the state behind them is u. -/
def To (st : Nat) (l : List UInt8) (u : Nat) : Prop := runF st l = (u, l.length)
theorem to_nil (st u : Nat) : To st [] u ↔ u = st := by simp [To, runF, eq_comm]
theorem to_cons (st u : Nat) (b : UInt8) (r : List UInt8) : To st (b :: r) u ↔ ∃ t, stepF st b.toNat = some t ∧ To t r u := by
  unfold To
  rw [runF]
  cases h : stepF st b.toNat with
  | none => simp
  | some t =>
    simp only [Option.some.injEq, List.length_cons]
    constructor
    · intro h
      refine ⟨t, rfl, ?_⟩
      injection h with h1 h2
      exact Prod.ext h1 (by simpa using h2)
    · rintro ⟨t', rfl, h⟩
      rw [h]
theorem to1 (a : UInt8) (u : Nat) : To 0 [a] u ↔ stepF 0 a.toNat = some u := by
  rw [to_cons]
  simp only [to_nil]
  constructor
  · rintro ⟨t, h, rfl⟩; exact h
  · intro h; exact ⟨u, h, rfl⟩
theorem two (a b u : Nat) (h : 128 ≤ a) : (∃ t, stepF 0 a = some t ∧ stepF t b = some u) ↔ (P2 a ∧ cont b ∧ u = 0) ∨ (P3 a b ∧ u = 1) ∨ (P4 a b ∧ u = 2) := by
  unfold P2 P3 P4 cont
  constructor
  · rintro ⟨t, h1, h2⟩
    rw [step0] at h1
    obtain ⟨h1, rfl⟩ | ⟨h1, h1', rfl⟩ | ⟨h1, rfl⟩ | ⟨h1, rfl⟩ | ⟨h1, rfl⟩ | ⟨h1, rfl⟩ | ⟨h1, h1', rfl⟩ | ⟨h1, rfl⟩ := h1
    · omega
    · rw [step1] at h2; omega
    · rw [step4] at h2; omega
    · rw [step2] at h2; omega
    · rw [step5] at h2; omega
    · rw [step6] at h2; omega
    · rw [step3] at h2; omega
    · rw [step7] at h2; omega
  · rintro (h1 | h1 | h1)
    · exact ⟨1, (step0 _ _).2 (by omega), (step1 _ _).2 (by omega)⟩
    · obtain ⟨h1 | h1 | h1, rfl⟩ := h1
      · exact ⟨4, (step0 _ _).2 (by omega), (step4 _ _).2 (by omega)⟩
      · exact ⟨2, (step0 _ _).2 (by omega), (step2 _ _).2 (by omega)⟩
      · exact ⟨5, (step0 _ _).2 (by omega), (step5 _ _).2 (by omega)⟩
    · obtain ⟨h1 | h1 | h1, rfl⟩ := h1
      · exact ⟨6, (step0 _ _).2 (by omega), (step6 _ _).2 (by omega)⟩
      · exact ⟨3, (step0 _ _).2 (by omega), (step3 _ _).2 (by omega)⟩
      · exact ⟨7, (step0 _ _).2 (by omega), (step7 _ _).2 (by omega)⟩
theorem to2 (a b : UInt8) (r : List UInt8) (u : Nat) (h : 128 ≤ a.toNat) : To 0 (a :: b :: r) u ↔ (P2 a.toNat ∧ cont b.toNat ∧ To 0 r u) ∨ (P3 a.toNat b.toNat ∧ To 1 r u) ∨ (P4 a.toNat b.toNat ∧ To 2 r u) := by
  rw [to_cons]
  have e : (∃ t, stepF 0 a.toNat = some t ∧ To t (b :: r) u) ↔ ∃ v, (∃ t, stepF 0 a.toNat = some t ∧ stepF t b.toNat = some v) ∧ To v r u := by
    constructor
    · rintro ⟨t, h1, h2⟩
      obtain ⟨v, h3, h4⟩ := (to_cons _ _ _ _).1 h2
      exact ⟨v, ⟨t, h1, h3⟩, h4⟩
    · rintro ⟨v, ⟨t, h1, h3⟩, h4⟩
      exact ⟨t, h1, (to_cons _ _ _ _).2 ⟨v, h3, h4⟩⟩
  rw [e]
  constructor
  · rintro ⟨v, h1, h2⟩
    rcases (two _ _ _ h).1 h1 with ⟨h3, h4, rfl⟩ | ⟨h3, rfl⟩ | ⟨h3, rfl⟩
    · exact .inl ⟨h3, h4, h2⟩
    · exact .inr (.inl ⟨h3, h2⟩)
    · exact .inr (.inr ⟨h3, h2⟩)
  · rintro (⟨h3, h4, h2⟩ | ⟨h3, h2⟩ | ⟨h3, h2⟩)
    · exact ⟨0, (two _ _ _ h).2 (.inl ⟨h3, h4, rfl⟩), h2⟩
    · exact ⟨1, (two _ _ _ h).2 (.inr (.inl ⟨h3, rfl⟩)), h2⟩
    · exact ⟨2, (two _ _ _ h).2 (.inr (.inr ⟨h3, rfl⟩)), h2⟩
theorem toA (a : UInt8) (r : List UInt8) (u : Nat) : To 1 (a :: r) u ↔ cont a.toNat ∧ To 0 r u := by
  rw [to_cons]
  simp only [step1, cont]
  constructor
  · rintro ⟨t, ⟨h1, h2, rfl⟩, h3⟩; exact ⟨⟨h1, h2⟩, h3⟩
  · rintro ⟨⟨h1, h2⟩, h3⟩; exact ⟨0, ⟨h1, h2, rfl⟩, h3⟩
theorem toB (a : UInt8) (r : List UInt8) (u : Nat) : To 2 (a :: r) u ↔ cont a.toNat ∧ To 1 r u := by
  rw [to_cons]
  simp only [step2, cont]
  constructor
  · rintro ⟨t, ⟨h1, h2, rfl⟩, h3⟩; exact ⟨⟨h1, h2⟩, h3⟩
  · rintro ⟨⟨h1, h2⟩, h3⟩; exact ⟨1, ⟨h1, h2, rfl⟩, h3⟩
/-- No sequence at the beginning. -/
theorem none_iff (l : List UInt8) : sizeR l = 0 ↔ isSeq 1 l = false ∧ isSeq 2 l = false ∧ isSeq 3 l = false ∧ isSeq 4 l = false := by
  unfold sizeR
  cases isSeq 1 l <;> cases isSeq 2 l <;> cases isSeq 3 l <;> cases isSeq 4 l <;> simp
theorem size_seq {l : List UInt8} (h : sizeR l ≠ 0) : isSeq (sizeR l) l = true := by
  unfold sizeR at h ⊢
  split
  · assumption
  · split
    · assumption
    · split
      · assumption
      · split
        · assumption
        · rename_i h1 h2 h3 h4
          rw [if_neg h1, if_neg h2, if_neg h3, if_neg h4] at h
          exact absurd rfl h
/-- A sequence goes through to state 0. -/
theorem seq_to {k : Nat} {l : List UInt8} (h : isSeq k l = true) : To 0 (l.take k) 0 := by
  match k, l, h with
  | 1, a :: r, h =>
    rw [seq1_iff] at h
    rw [List.take_succ_cons, List.take_zero, to1, step0]
    omega
  | 2, a :: b :: r, h =>
    rw [seq2_iff] at h
    rw [List.take_succ_cons, List.take_succ_cons, List.take_zero, to2 _ _ _ _ (by have := h.1.1; omega), to_nil]
    exact .inl ⟨h.1, h.2, rfl⟩
  | 3, a :: b :: c :: r, h =>
    rw [seq3_iff] at h
    have ha : 128 ≤ a.toNat := by have := h.1; unfold P3 at this; omega
    rw [List.take_succ_cons, List.take_succ_cons, List.take_succ_cons, List.take_zero, to2 _ _ _ _ ha, toA, to_nil]
    exact .inr (.inl ⟨h.1, h.2, rfl⟩)
  | 4, a :: b :: c :: d :: r, h =>
    rw [seq4_iff] at h
    have ha : 128 ≤ a.toNat := by have := h.1; unfold P4 at this; omega
    rw [List.take_succ_cons, List.take_succ_cons, List.take_succ_cons, List.take_succ_cons, List.take_zero, to2 _ _ _ _ ha]
    exact .inr (.inr ⟨h.1, (toB _ _ _).2 ⟨h.2.1, (toA _ _ _).2 ⟨h.2.2, (to_nil _ _).2 rfl⟩⟩⟩)
/-- Where none begins: at most three bytes go on, and never to state 0. -/
theorem none_to {l : List UInt8} (h : sizeR l = 0) {u : Nat} (ht : To 0 l u) : l = [] ∨ l.length ≤ 3 ∧ u ≠ 0 := by
  obtain ⟨h1, h2, h3, h4⟩ := (none_iff l).1 h
  match l with
  | [] => exact .inl rfl
  | [a] =>
    right
    refine ⟨by simp, fun hu => ?_⟩
    subst hu
    rw [to1, step0] at ht
    have : ¬ a.toNat < 128 := fun hh => by rw [(seq1_iff a []).2 hh] at h1; cases h1
    omega
  | [a, b] =>
    right
    have ha : 128 ≤ a.toNat := by
      have : ¬ a.toNat < 128 := fun hh => by rw [(seq1_iff a _).2 hh] at h1; cases h1
      omega
    refine ⟨by simp, fun hu => ?_⟩
    subst hu
    rw [to2 _ _ _ _ ha] at ht
    simp only [to_nil] at ht
    rcases ht with ⟨h5, h6, _⟩ | ⟨h5, h6⟩ | ⟨h5, h6⟩
    · rw [(seq2_iff a b _).2 ⟨h5, h6⟩] at h2; cases h2
    · cases h6
    · cases h6
  | [a, b, c] =>
    right
    have ha : 128 ≤ a.toNat := by
      have : ¬ a.toNat < 128 := fun hh => by rw [(seq1_iff a _).2 hh] at h1; cases h1
      omega
    refine ⟨by simp, fun hu => ?_⟩
    subst hu
    rw [to2 _ _ _ _ ha, toA, toB] at ht
    simp only [to_nil] at ht
    rcases ht with ⟨h5, h6, _⟩ | ⟨h5, h6, _⟩ | ⟨h5, h6, h7⟩
    · rw [(seq2_iff a b _).2 ⟨h5, h6⟩] at h2; cases h2
    · rw [(seq3_iff a b c _).2 ⟨h5, h6⟩] at h3; cases h3
    · cases h7
  | a :: b :: c :: d :: r =>
    exfalso
    have ha : 128 ≤ a.toNat := by
      have : ¬ a.toNat < 128 := fun hh => by rw [(seq1_iff a _).2 hh] at h1; cases h1
      omega
    rw [to2 _ _ _ _ ha, toA, toB, toA] at ht
    rcases ht with ⟨h5, h6, _⟩ | ⟨h5, h6, _⟩ | ⟨h5, h6, h7, _⟩
    · rw [(seq2_iff a b _).2 ⟨h5, h6⟩] at h2; cases h2
    · rw [(seq3_iff a b c _).2 ⟨h5, h6⟩] at h3; cases h3
    · rw [(seq4_iff a b c d _).2 ⟨h5, h6, h7⟩] at h4; cases h4
theorem to_append {st u v : Nat} {a b : List UInt8} (h1 : To st a u) (h2 : To u b v) : To st (a ++ b) v := by
  unfold To at h1 h2 ⊢
  rw [run_full a b st (by rw [h1]), h1, h2, List.length_append, Nat.add_comm]
theorem whole_split (l : List UInt8) : To 0 (l.take (wholeR l)) 0 ∧ sizeR (l.drop (wholeR l)) = 0 := by
  induction hn : l.length using Nat.strongRecOn generalizing l with
  | ind n ih =>
    subst hn
    rw [wholeR]
    split
    · rename_i h
      have hl := size_len l
      obtain ⟨h1, h2⟩ := ih (l.drop (sizeR l)).length (by rw [List.length_drop]; omega) (l.drop (sizeR l)) rfl
      have h3 := seq_to (size_seq (l := l) (by omega))
      refine ⟨?_, by rw [← List.drop_drop]; exact h2⟩
      rw [List.take_add]
      exact to_append h3 h1
    · refine ⟨by rw [List.take_zero, to_nil], by rw [List.drop_zero]; omega⟩
/-- What the table says is well formed is so by definition. -/
theorem valid_law (l : List UInt8) : validF l = decide (wholeR l = l.length) := by
  obtain ⟨h1, h2⟩ := whole_split l
  have hq := whole_len l
  obtain ⟨q, hqq⟩ : ∃ q, q = wholeR l := ⟨_, rfl⟩
  rw [← hqq] at h1 h2 hq ⊢
  clear hqq
  obtain ⟨p, hp⟩ : ∃ p, p = l.take q := ⟨_, rfl⟩
  obtain ⟨t, ht⟩ : ∃ t, t = l.drop q := ⟨_, rfl⟩
  have hl : l = p ++ t := by rw [hp, ht, List.take_append_drop]
  have hpl : p.length = q := by rw [hp, List.length_take]; omega
  rw [← hp] at h1
  rw [← ht] at h2
  have hr : runF 0 p = (0, q) := by rw [← hpl]; exact h1
  have hrun : runF 0 l = ((runF 0 t).1, (runF 0 t).2 + q) := by rw [hl, run_full p t 0 (by rw [hr, hpl]), hr, hpl]
  have hll : l.length = q + t.length := by rw [hl, List.length_append, hpl]
  have hfull : (runF 0 t).2 = t.length → t = [] ∨ (runF 0 t).1 ≠ 0 := fun he => by
    rcases none_to h2 (u := (runF 0 t).1) (by unfold To; rw [← he]) with h | h
    · exact .inl h
    · exact .inr h.2
  unfold validF
  rw [hrun, Bool.eq_iff_iff, decide_eq_true_iff, decide_eq_true_iff]
  simp only
  constructor
  · rintro ⟨h3, h4⟩
    rcases hfull (by omega) with h | h
    · rw [h] at hll; simpa using hll.symm
    · exact absurd h4 h
  · intro h3
    have : t = [] := by rw [← List.length_eq_zero_iff]; omega
    subst this
    simp [runF]
    omega
end Go.Proofs.YtgiemhooeoakmaaDoor


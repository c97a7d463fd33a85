/- Layer 17: Compare; the library's comparisons. -/
import Derived.Test.YtgiemhooeoakmaaDoorVal
import Derived.Test.YtgiemhooeoakmaaDoorInts
import Derived.Lib.Bytealg
import Derived.Lib.Walk
import Derived.WalkLawsBesides
import Derived.Deep.RegionHeld3
namespace Go.Proofs.YtgiemhooeoakmaaDoor
open Go.RowKit Go.ChangeShapes Go.WideShapes
set_option linter.unusedVariables false
set_option linter.unusedSimpArgs false

def cmpI (a b : Int) : Int := if a < b then -1 else if b < a then 1 else 0
theorem nanI_any (x : Int) (w : World) : Calls Tryd.prog 138 #[.int .i64 x] w fun e w' => e = .returned (.bool false) ∧ w' = w := by
  refine cps fun R HR => ?_
  have d : (x != x) = false := by simp
  go_enter Tryd.func138, Tryd.ntmps138
  go_wp2
  exact HR.out _ _ ⟨rfl, rfl⟩
theorem nanL_any (x : Int) (w : World) : Calls Tryd.prog 140 #[.int .i64 x] w fun e w' => e = .returned (.bool false) ∧ w' = w := by
  refine cps fun R HR => ?_
  have d : (x != x) = false := by simp
  go_enter Tryd.func140, Tryd.ntmps140
  go_wp2
  exact HR.out _ _ ⟨rfl, rfl⟩
theorem cmpI_any (x y : Int) (w : World) : Calls Tryd.prog 127 #[.int .i64 x, .int .i64 y] w fun e w' => e = .returned (.int .i64 (cmpI x y)) ∧ w' = w := by
  refine cps fun R HR => ?_
  unfold cmpI at HR
  go_enter Tryd.func127, Tryd.ntmps127
  go_wp2_with fail
  refine (nanI_any x _).mono ?_
  rintro e w1 ⟨rfl, rfl⟩
  go_wp2_with fail
  refine (nanI_any y _).mono ?_
  rintro e w1 ⟨rfl, rfl⟩
  by_cases h1 : x < y
  · rw [if_pos h1] at HR
    have d : decide (x < y) = true := decide_eq_true h1
    go_wp2
    exact HR.out _ _ ⟨rfl, rfl⟩
  · rw [if_neg h1] at HR
    have d : decide (x < y) = false := decide_eq_false h1
    by_cases h2 : y < x
    · rw [if_pos h2] at HR
      have d2 : decide (y < x) = true := decide_eq_true h2
      clear h1
      go_wp2
      exact HR.out _ _ ⟨rfl, rfl⟩
    · rw [if_neg h2] at HR
      have d2 : decide (y < x) = false := decide_eq_false h2
      clear h1 h2
      go_wp2
      exact HR.out _ _ ⟨rfl, rfl⟩
theorem cmpL_any (x y : Int) (w : World) : Calls Tryd.prog 129 #[.int .i64 x, .int .i64 y] w fun e w' => e = .returned (.int .i64 (cmpI x y)) ∧ w' = w := by
  refine cps fun R HR => ?_
  unfold cmpI at HR
  go_enter Tryd.func129, Tryd.ntmps129
  go_wp2_with fail
  refine (nanL_any x _).mono ?_
  rintro e w1 ⟨rfl, rfl⟩
  go_wp2_with fail
  refine (nanL_any y _).mono ?_
  rintro e w1 ⟨rfl, rfl⟩
  by_cases h1 : x < y
  · rw [if_pos h1] at HR
    have d : decide (x < y) = true := decide_eq_true h1
    go_wp2
    exact HR.out _ _ ⟨rfl, rfl⟩
  · rw [if_neg h1] at HR
    have d : decide (x < y) = false := decide_eq_false h1
    by_cases h2 : y < x
    · rw [if_pos h2] at HR
      have d2 : decide (y < x) = true := decide_eq_true h2
      clear h1
      go_wp2
      exact HR.out _ _ ⟨rfl, rfl⟩
    · rw [if_neg h2] at HR
      have d2 : decide (y < x) = false := decide_eq_false h2
      clear h1 h2
      go_wp2
      exact HR.out _ _ ⟨rfl, rfl⟩
def cmpS (a b : ByteArray) : Int := Lib.compareBytes a.data.toList b.data.toList
set_option maxRecDepth 100000 in
theorem cmpString_any (a b : ByteArray) (w : World) : Calls Tryd.prog 139 #[.string a, .string b] w fun e w' => e = .returned (.int .i64 (cmpS a b)) ∧ w' = w := by
  refine cps fun R HR => ?_
  unfold cmpS at HR
  go_enter Tryd.func139, Tryd.ntmps139
  go_wp2
  rw [run_callFunc_extern Tryd.func144 (by kernel_rfl) (by kernel_rfl) (by kernel_rfl) (e := Extern.BytealgCompare.compare) (by kernel_rfl), Lib.run_compareString]
  simp only [Result.andThen]
  rw [Oper.upon_value]
  go_wp2
  exact HR.out _ _ ⟨rfl, rfl⟩
theorem strCompare_any (a b : ByteArray) (w : World) : Calls Tryd.prog 128 #[.string a, .string b] w fun e w' => e = .returned (.int .i64 (cmpS a b)) ∧ w' = w := by
  refine cps fun R HR => ?_
  go_enter Tryd.func128, Tryd.ntmps128
  go_wp2_with fail
  refine (cmpString_any a b _).mono ?_
  rintro e w1 ⟨rfl, rfl⟩
  go_wp2
  exact HR.out _ _ ⟨rfl, rfl⟩
/-- The first number that isn't 0. -/
def orI : List Int → Int
  | [] => 0
  | a :: r => if a = 0 then orI r else a
theorem orInt_any (v : Value) (l : List Int) (w : World) {B : Nat} (h : RdI w B v l) :
    Calls Tryd.prog 126 #[v] w fun e w' => e = .returned (.int .i64 (orI l)) ∧ w' = w := by
  refine cps fun R HR => ?_
  have h0 := h
  obtain ⟨A, c, rfl, -⟩ := h.is
  have hfew := h.few
  clear h
  go_enter Tryd.func126, Tryd.ntmps126
  go_wp2
  go_loopw [8] (fun i wr => ∃ k : Nat, k ≤ l.length ∧ i = .int .i64 k ∧ orI (l.drop k) = orI l ∧ wr = w) (fun i _ => l.length - (intOf i).toNat)
  case atStart => exact ⟨0, Nat.zero_le _, rfl, rfl, rfl⟩
  case round =>
    obtain ⟨k, hk, rfl, hN, rfl⟩ := hrel
    have HN := Lib.hid hN; clear hN
    by_cases hlt : k < l.length
    · obtain ⟨p, c3, hv, hcp⟩ := h0.at hlt
      injection hv with hA _ hcc
      subst hA
      subst hcc
      have hd : l.drop k = l[k] :: l.drop (k + 1) := List.drop_eq_getElem_cons hlt
      obtain ⟨s, hs⟩ : ∃ s, s = l[k] := ⟨_, rfl⟩
      rw [← hs] at hcp hd
      clear hs
      have dk : decide ((k : Int) < l.length) = true := decide_eq_true (by omega)
      by_cases hb : s = 0
      · have HV := Lib.hid (show orI (l.drop (k + 1)) = orI l by rw [← HN.out, hd, orI, if_pos hb])
        have d : (s != 0) = false := by simp [hb]
        clear hd hb
        go_wp2
        exact ⟨⟨k + 1, by omega, by go_num, HV.out, trivial⟩, by simp [intOf]; omega⟩
      · have HV := Lib.hid (show orI l = s by rw [← HN.out, hd, orI, if_neg hb])
        have d : (s != 0) = true := by rw [bne_iff_ne]; exact hb
        clear hd hb
        go_wp2
        exact HR.out _ _ ⟨by rw [HV.out]; try rfl, rfl⟩
    · have hd : l.drop k = [] := List.drop_of_length_le (by omega)
      have HV := Lib.hid (show orI l = 0 by rw [← HN.out, hd, orI])
      clear hd
      go_wp2
      exact HR.out _ _ ⟨by rw [HV.out]; try rfl, rfl⟩
def cmpB (a b : Bool) : Int := if a = b then 0 else if a then 1 else -1
/-- Which of two values is ahead. -/
def cmpV (a b : Val) : Int := orI [cmpI a.kind b.kind, cmpS a.s b.s, cmpI a.n b.n, cmpB a.b b.b]
theorem cmpI_zero {a b : Int} : cmpI a b = 0 ↔ a = b := by
  unfold cmpI
  split
  · simp; omega
  · split
    · simp; omega
    · simp; omega
theorem compareBytes_zero : ∀ {a b : List UInt8}, Lib.compareBytes a b = 0 ↔ a = b
  | [], [] => by simp [Lib.compareBytes]
  | [], _ :: _ => by simp [Lib.compareBytes]
  | _ :: _, [] => by simp [Lib.compareBytes]
  | a :: r, b :: q => by
    rw [Lib.compareBytes]
    split
    · rename_i h
      constructor
      · intro hh; cases hh
      · intro hh; injection hh with h1; rw [h1] at h; exact absurd h (UInt8.lt_irrefl _)
    · split
      · rename_i h
        constructor
        · intro hh; cases hh
        · intro hh; injection hh with h1; rw [h1] at h; exact absurd h (UInt8.lt_irrefl _)
      · rename_i h1 h2
        have hab : a = b := UInt8.le_antisymm (UInt8.not_lt.1 h2) (UInt8.not_lt.1 h1)
        rw [compareBytes_zero]
        simp [hab]
theorem cmpS_zero {a b : ByteArray} : cmpS a b = 0 ↔ a = b := by
  unfold cmpS
  rw [compareBytes_zero]
  constructor
  · intro h
    exact ByteArray.ext (Array.toList_inj.1 h)
  · intro h; rw [h]
theorem cmpB_zero {a b : Bool} : cmpB a b = 0 ↔ a = b := by cases a <;> cases b <;> simp [cmpB]
theorem orI_zero4 (a b c d : Int) : orI [a, b, c, d] = 0 ↔ a = 0 ∧ b = 0 ∧ c = 0 ∧ d = 0 := by
  by_cases h1 : a = 0 <;> by_cases h2 : b = 0 <;> by_cases h3 : c = 0 <;> by_cases h4 : d = 0 <;> simp [orI, h1, h2, h3, h4]
theorem cmpV_zero {a b : Val} : cmpV a b = 0 ↔ a = b := by
  unfold cmpV
  rw [orI_zero4, cmpI_zero, cmpS_zero, cmpI_zero, cmpB_zero, Val.ext_iff']
end Go.Proofs.YtgiemhooeoakmaaDoor

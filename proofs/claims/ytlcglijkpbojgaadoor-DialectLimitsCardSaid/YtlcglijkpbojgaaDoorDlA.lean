/- Layer 1: plain, Check, End, pair, Text; the reference's. -/
import Derived.Test.YtlcglijkpbojgaaDoorMem
import Derived.Lib.Strings
import Derived.Lib.QuietBelow
namespace Go.Proofs.YtlcglijkpbojgaaDoor
open Go.RowKit
set_option linter.unusedVariables false
set_option linter.unusedSimpArgs false

def plainD (b : Nat) : Bool := decide (b < 128 ∧ b ≠ 13 ∧ b ≠ 10)
def rightD (d q : Nat) (e : Int) : Bool := plainD d && plainD q && decide (d ≠ q) && decide (1 ≤ e) && decide (e ≤ 3)
def checkD (d q : Nat) (e : Int) : Nat := if rightD d q e then 0 else 1
theorem plain_any (b : Nat) (w : World) :
    Calls Tryd.prog 33 #[.int .u8 b] w fun e w' => e = .returned (.bool (plainD b)) ∧ w' = w := by
  refine cps fun R HR => ?_
  have hv : plainD b = (decide ((b : Int) < 128) && ((b : Int) != 13) && ((b : Int) != 10)) := by
    unfold plainD
    rw [Bool.eq_iff_iff]
    simp
    omega
  have HV := Lib.hid hv; clear hv
  by_cases h1 : b < 128
  · have d1 : decide ((b : Int) < 128) = true := decide_eq_true (by omega)
    by_cases h2 : b = 13
    · subst h2
      go_enter Tryd.func33, Tryd.ntmps33
      go_wp2
      exact HR.out _ _ ⟨by rw [HV.out]; rfl, rfl⟩
    · have d2 : ((b : Int) != 13) = true := by rw [bne_iff_ne]; omega
      clear h1 h2
      go_enter Tryd.func33, Tryd.ntmps33
      go_wp2
      all_goals exact HR.out _ _ ⟨by rw [HV.out, d1, d2]; simp [*], rfl⟩
  · have d1 : decide ((b : Int) < 128) = false := decide_eq_false (by omega)
    clear h1
    go_enter Tryd.func33, Tryd.ntmps33
    go_wp2
    exact HR.out _ _ ⟨by rw [HV.out, d1]; rfl, rfl⟩
theorem check_any (d q : Nat) (e : Int) (w : World) :
    Calls Tryd.prog 12 #[.agg #[.int .u8 d, .int .u8 q, .int .i64 e]] w fun r w' => r = .returned (.int .i64 (checkD d q e)) ∧ Below w.heap.size w w' := by
  refine cps fun R HR => ?_
  go_enter Tryd.func12, Tryd.ntmps12
  go_wp2_with fail
  refine (plain_any d _).mono ?_
  rintro e w1 ⟨rfl, rfl⟩
  cases hd' : plainD d
  · have HC := Lib.hid (show checkD d q e = 1 by simp [checkD, rightD, hd'])
    go_wp2
    exact HR.out _ _ ⟨by rw [HC.out]; rfl, (Below.refl _ _).alloc (Nat.le_refl _) _⟩
  · go_wp2_with fail
    refine (plain_any q _).mono ?_
    rintro e w1 ⟨rfl, rfl⟩
    cases hq' : plainD q
    · have HC := Lib.hid (show checkD d q e = 1 by simp [checkD, rightD, hd', hq'])
      go_wp2
      exact HR.out _ _ ⟨by rw [HC.out]; rfl, (Below.refl _ _).alloc (Nat.le_refl _) _⟩
    · by_cases h1 : d = q
      · have HC := Lib.hid (show checkD d q e = 1 by simp [checkD, rightD, hd', hq', h1])
        subst h1
        go_wp2
        exact HR.out _ _ ⟨by rw [HC.out]; rfl, (Below.refl _ _).alloc (Nat.le_refl _) _⟩
      have d1 : ((d : Int) == (q : Int)) = false := by rw [beq_eq_false_iff_ne]; omega
      by_cases h2 : e < 1
      · have HC := Lib.hid (show checkD d q e = 1 by simp [checkD, rightD, hd', hq', h1]; omega)
        clear h1
        have d2 : decide (e < 1) = true := decide_eq_true h2
        go_wp2
        exact HR.out _ _ ⟨by rw [HC.out]; rfl, (Below.refl _ _).alloc (Nat.le_refl _) _⟩
      have d2 : decide (e < 1) = false := decide_eq_false h2
      by_cases h3 : 3 < e
      · have HC := Lib.hid (show checkD d q e = 1 by simp [checkD, rightD, hd', hq', h1]; omega)
        clear h1
        have d3 : decide (3 < e) = true := decide_eq_true h3
        clear h2 h3
        go_wp2
        exact HR.out _ _ ⟨by rw [HC.out]; rfl, (Below.refl _ _).alloc (Nat.le_refl _) _⟩
      · have HC := Lib.hid (show checkD d q e = 0 by simp [checkD, rightD, hd', hq', h1]; omega)
        clear h1
        have d3 : decide (3 < e) = false := decide_eq_false h3
        clear h2 h3
        go_wp2
        exact HR.out _ _ ⟨by rw [HC.out]; rfl, (Below.refl _ _).alloc (Nat.le_refl _) _⟩

def crlfB : ByteArray := ⟨#[13, 10]⟩
def lfB : ByteArray := ⟨#[10]⟩
def emptyB : ByteArray := ⟨#[]⟩
def endD (d q : Nat) (e : Int) : ByteArray := if rightD d q e then (if e = 2 then crlfB else lfB) else emptyB
theorem end_any (d q : Nat) (e : Int) (w : World) :
    Calls Tryd.prog 13 #[.agg #[.int .u8 d, .int .u8 q, .int .i64 e]] w fun r w' => r = .returned (.string (endD d q e)) ∧ Below w.heap.size w w' := by
  refine cps fun R HR => ?_
  go_enter Tryd.func13, Tryd.ntmps13
  go_wp2_with fail
  refine (check_any d q e _).mono ?_
  rintro r w1 ⟨rfl, b1⟩
  have hx := ((Box.new w 23 #[.int .u8 d, .int .u8 q, .int .i64 e]).below b1 (by simp))
  have hc0 : w1.cell? ⟨w.heap.size, 2, none⟩ = some (.int .i64 e) := hx.cell 2
  have bel : Below w.heap.size w w1 := by
    have := (Below.refl w.heap.size w).alloc (Nat.le_refl _) (Obj.cells #[.int .u8 d, .int .u8 q, .int .i64 e] 23)
    exact this.trans (b1.mono this.size)
  cases hr : rightD d q e
  · have H0 := Lib.hid (show checkD d q e = 1 by simp [checkD, hr])
    have H1 := Lib.hid (show endD d q e = ⟨#[]⟩ by simp [endD, hr, emptyB])
    rw [H0.out]
    clear hr
    go_wp2
    exact HR.out _ _ ⟨by rw [H1.out]; rfl, bel⟩
  · have H0 := Lib.hid (show checkD d q e = 0 by simp [checkD, hr])
    rw [H0.out]
    by_cases h2 : e = 2
    · have H1 := Lib.hid (show endD d q e = ⟨#[13, 10]⟩ by subst h2; simp [endD, hr, crlfB])
      clear hr
      subst h2
      go_wp2
      exact HR.out _ _ ⟨by rw [H1.out]; rfl, bel⟩
    · have H1 := Lib.hid (show endD d q e = ⟨#[10]⟩ by simp [endD, hr, h2, lfB])
      clear hr
      have d2 : (e == 2) = false := by rw [beq_eq_false_iff_ne]; exact h2
      clear h2
      go_wp2
      exact HR.out _ _ ⟨by rw [H1.out]; rfl, bel⟩

def hexB : ByteArray := ⟨#[48, 49, 50, 51, 52, 53, 54, 55, 56, 57, 97, 98, 99, 100, 101, 102]⟩
def hexD (n : Nat) : UInt8 := if n < 10 then UInt8.ofNat (48 + n) else UInt8.ofNat (87 + n)
def pairB (b : Nat) : ByteArray := ⟨#[hexD (b / 16), hexD (b % 16)]⟩
theorem hex_cut (n : Nat) (h : n < 16) : hexB.extract n (n + 1) = ⟨#[hexD n]⟩ := by
  have : ∀ n : Fin 16, hexB.extract n.1 (n.1 + 1) = ⟨#[hexD n.1]⟩ := by decide +kernel
  exact this ⟨n, h⟩
theorem pair_any (b : Nat) (w : World) (hb : b < 256) :
    Calls Tryd.prog 32 #[.int .u8 b] w fun e w' => e = .returned (.string (pairB b)) ∧ Below w.heap.size w w' := by
  refine cps fun R HR => ?_
  have hv : hexB.extract (b / 16) (b / 16 + 1) ++ hexB.extract (b % 16) (b % 16 + 1) = pairB b := by
    rw [hex_cut _ (by omega), hex_cut _ (by omega)]
    rfl
  have HV := Lib.hid hv; clear hv
  go_enter Tryd.func32, Tryd.ntmps32
  go_wp2
  go_quiet (fail)
  go_wp2
  exact HR.out _ _ ⟨by rw [← HV.out]; rfl, below_drewN (Below.refl _ _) _⟩

/-- The words, as they lie in memory. -/
def wordB : Nat → ByteArray
  | 1 => ⟨#[108, 102]⟩
  | 2 => ⟨#[99, 114, 108, 102]⟩
  | 3 => ⟨#[101, 105, 116, 104, 101, 114]⟩
  | _ => ⟨#[]⟩
def Words (w : World) : Prop := ∀ i, i < 4 → w.cell? ⟨0, i, none⟩ = some (.string (wordB i))
theorem Words.below {w w' : World} (h : Words w) (hb : Below w.heap.size w w') : Words w' := fun i hi => by
  rw [hb.cell (p := ⟨0, i, none⟩) (World.block_lt_of_cell? w _ (h i hi))]
  exact h i hi
def spB : ByteArray := ⟨#[32]⟩
def textD (d q : Nat) (e : Int) : ByteArray := if rightD d q e then pairB d ++ spB ++ pairB q ++ spB ++ wordB e.toNat else emptyB
set_option maxHeartbeats 4000000 in
set_option maxRecDepth 100000 in
theorem text_any (d q : Nat) (e : Int) (w : World) (hd : d < 256) (hq : q < 256) (hW : Words w) :
    Calls Tryd.prog 9 #[.agg #[.int .u8 d, .int .u8 q, .int .i64 e]] w fun r w' => r = .returned (.tuple #[.string (textD d q e), .int .i64 (checkD d q e)]) ∧ Below w.heap.size w w' := by
  refine cps fun R HR => ?_
  go_enter Tryd.func9, Tryd.ntmps9
  go_wp2_with fail
  refine (check_any d q e _).mono ?_
  rintro r w1 ⟨rfl, b1⟩
  have hx := ((Box.new w 23 #[.int .u8 d, .int .u8 q, .int .i64 e]).below b1 (by simp))
  have bel : Below w.heap.size w w1 := by
    have := (Below.refl w.heap.size w).alloc (Nat.le_refl _) (Obj.cells #[.int .u8 d, .int .u8 q, .int .i64 e] 23)
    exact this.trans (b1.mono this.size)
  have hc0 : w1.cell? ⟨w.heap.size, 0, none⟩ = some (.int .u8 d) := hx.cell 0
  have hc1 : w1.cell? ⟨w.heap.size, 1, none⟩ = some (.int .u8 q) := hx.cell 1
  have hc2 : w1.cell? ⟨w.heap.size, 2, none⟩ = some (.int .i64 e) := hx.cell 2
  cases hr : rightD d q e
  · have H0 := Lib.hid (show checkD d q e = 1 by simp [checkD, hr])
    have H1 := Lib.hid (show textD d q e = ⟨#[]⟩ by simp [textD, hr, emptyB])
    rw [H0.out]
    clear hr
    go_wp2
    exact HR.out _ _ ⟨by rw [H1.out, H0.out]; rfl, bel⟩
  · have H0 := Lib.hid (show checkD d q e = 0 by simp [checkD, hr])
    have H1 := Lib.hid (show textD d q e = pairB d ++ spB ++ pairB q ++ spB ++ wordB e.toNat by simp [textD, hr])
    have he : 1 ≤ e ∧ e ≤ 3 := by simp [rightD] at hr; omega
    rw [H0.out]
    clear hr
    obtain ⟨n, rfl⟩ := Int.eq_ofNat_of_zero_le (a := e) (by omega)
    have hn : n < 4 := by omega
    have hg : w1.cell? ⟨0, n, none⟩ = some (.string (wordB n)) := (hW.below bel) n hn
    have hn' : (n : Int) < 4 := by omega
    have z1 : (pairB d).size = 2 := rfl
    have z2 : (pairB q).size = 2 := rfl
    have z3 : (wordB n).size ≤ 6 := by
      obtain rfl | rfl | rfl | rfl : n = 0 ∨ n = 1 ∨ n = 2 ∨ n = 3 := by omega
      all_goals decide
    obtain ⟨P, hP⟩ : ∃ P, P = pairB d := ⟨_, rfl⟩
    obtain ⟨Q, hQ⟩ : ∃ P, P = pairB q := ⟨_, rfl⟩
    obtain ⟨V, hV⟩ : ∃ P, P = wordB n := ⟨_, rfl⟩
    rw [← hP] at z1
    rw [← hQ] at z2
    rw [← hV] at z3 hg
    have HP := Lib.hid hP; have HQ := Lib.hid hQ; have HV := Lib.hid hV
    clear hP hQ hV he
    have n1 : ¬ 9223372036854775807 < P.size + 1 := by omega
    have n2 : ¬ 9223372036854775807 < P.size + 1 + Q.size := by omega
    have n3 : ¬ 9223372036854775807 < P.size + 1 + Q.size + 1 := by omega
    have n4 : ¬ 9223372036854775807 < P.size + 1 + Q.size + 1 + V.size := by omega
    have Z := Lib.hid (And.intro z1 (And.intro z2 z3)); clear z1 z2 z3
    go_wp2
    have k0 := cell_regrown hc0
    have k1 := cell_regrown hc1
    have k2 := cell_regrown hc2
    have kg := cell_regrown hg
    have cP : ∀ v : World, Calls Tryd.prog 32 #[.int .u8 d] v fun e w' => e = .returned (.string P) ∧ Below v.heap.size v w' := fun v => by rw [HP.out]; exact pair_any d v hd
    have cQ : ∀ v : World, Calls Tryd.prog 32 #[.int .u8 q] v fun e w' => e = .returned (.string Q) ∧ Below v.heap.size v w' := fun v => by rw [HQ.out]; exact pair_any q v hq
    have gP : ∀ dn os, Calls Tryd.prog 32 #[.int .u8 d] (Go.Sort.grow (redrawn w1 dn) os) fun e w'' => e = .returned (.string P) ∧ ∃ p : Regrown, w'' = Go.Sort.grow (redrawn w1 p.d) p.os := fun dn os => Calls.regrown_of (cP _)
    have gQ : ∀ dn os, Calls Tryd.prog 32 #[.int .u8 q] (Go.Sort.grow (redrawn w1 dn) os) fun e w'' => e = .returned (.string Q) ∧ ∃ p : Regrown, w'' = Go.Sort.grow (redrawn w1 p.d) p.os := fun dn os => Calls.regrown_of (cQ _)
    clear cP cQ
    refine wp_region_quiet_below (by kernel_rfl) (by kernel_rfl) ?_
    repeat (go_big_quiet_step ((go_at_call 32; first | with_reducible exact gP _ _ | with_reducible exact gQ _ _)))
    refine wpQuiet_nil ?_
    intro w9 hw9
    obtain ⟨p, rfl⟩ := hw9
    have bel2 : Below w.heap.size w (Go.Sort.grow (redrawn w1 p.d) p.os) := bel.trans ((below_regrown w1 p.d p.os).mono bel.size)
    obtain ⟨w2, hw2⟩ : ∃ w2, w2 = Go.Sort.grow (redrawn w1 p.d) p.os := ⟨_, rfl⟩
    rw [← hw2] at bel2 ⊢
    clear hw2
    go_wp2
    exact HR.out _ _ ⟨by rw [H1.out, H0.out, ← HP.out, ← HQ.out]; simp only [Int.toNat_natCast]; rw [← HV.out]; rfl, bel2⟩
end Go.Proofs.YtlcglijkpbojgaaDoor

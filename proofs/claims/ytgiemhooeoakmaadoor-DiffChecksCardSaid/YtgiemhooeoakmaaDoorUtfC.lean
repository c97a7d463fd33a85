/- Layer 2, the reference: Size. -/
import Derived.Test.YtgiemhooeoakmaaDoorUtfB
namespace Go.Proofs.YtgiemhooeoakmaaDoor
open Go.RowKit
set_option linter.unusedVariables false
set_option linter.unusedSimpArgs false

def cp2 (a b : Int) : Int := (a - 192) * 64 + b - 128
def cp3 (a b c : Int) : Int := (a - 224) * 4096 + (b - 128) * 64 + c - 128
def cp4 (a b c d : Int) : Int := (a - 240) * 262144 + (b - 128) * 4096 + (c - 128) * 64 + d - 128

set_option maxRecDepth 100000 in
set_option maxHeartbeats 16000000 in
theorem size_any (s : ByteArray) (w : World) (hs : s.size ≤ maxLen) :
    Calls Tryd.prog 125 #[.string s] w fun e w' => e = .returned (.int .i64 (sizeR s.data.toList)) ∧ Below w.heap.size w w' := by
  refine cps fun R HR => ?_
  unfold maxLen at hs
  have hz : s.size = s.data.toList.length := by rw [Array.length_toList]; rfl
  have HZ := Lib.hid hz; clear hz
  go_enter Tryd.func125, Tryd.ntmps125
  go_wp2
  go_loopw [3] (fun i wr => ∃ k : Nat, 1 ≤ k ∧ k ≤ 5 ∧ i = .int .i64 k ∧ (∀ j, 1 ≤ j → j < k → isSeq j s.data.toList = false) ∧ Below w.heap.size w wr) (fun i _ => 5 - (intOf i).toNat)
  case atStart => exact ⟨1, by omega, by omega, rfl, fun j h1 h2 => by omega, Below.refl _ _⟩
  case round =>
    obtain ⟨k, hk1, hk5, rfl, hN, hB⟩ := hrel
    have HN := Lib.hid hN; clear hN
    by_cases hlt : k ≤ 4 ∧ k ≤ s.size
    · obtain ⟨h4, hks⟩ := hlt
      obtain rfl | rfl | rfl | rfl : k = 1 ∨ k = 2 ∨ k = 3 ∨ k = 4 := by omega
      · have l0 : 0 < s.size := by omega
        have b0 := s[0].toNat_lt
        have b0' : (s[0].toNat : Int) < 256 := by omega
        clear b0
        have hl : s.data.toList = s[0] :: s.data.toList.drop 1 := by
          have e := seqS1 s 0 (by omega)
          simpa using e
        obtain ⟨C, hC⟩ : ∃ C : Int, C = ((s[0].toNat : Nat) : Int) := ⟨_, rfl⟩
        have hsq : isSeq 1 s.data.toList = true ↔ 0 ≤ C ∧ C ≤ 1114111 ∧ (C < 55296 ∨ 57343 < C) ∧ putL C.toNat = s.data.toList.take 1 := by 
          rw [hl, hC, seq1]
          have := s[0].toNat_lt
          constructor
          · intro h; exact ⟨by omega, by omega, by omega, by simpa using h⟩
          · rintro ⟨_, _, _, h⟩; simpa using h
        have HSQ := Lib.hid hsq
        have HL := Lib.hid hl
        clear hsq hl
        go_wp2
        rw [← hC]
        clear hC
        by_cases g1 : C < 0
        · have d1 : decide (0 ≤ C) = false := decide_eq_false (by omega)
          have hn0 : isSeq 1 s.data.toList = false := by rw [Bool.eq_false_iff]; intro h; have := HSQ.out.1 h; omega
          have hn := step_bad HN.out hn0
          have HNN := Lib.hid hn
          clear hn hn0 g1
          go_quiet (fail)
          go_wp2
          exact ⟨⟨2, by omega, by omega, by go_num, HNN.out, below_drewN hB _⟩, by simp [intOf]⟩
        have d1 : decide (0 ≤ C) = true := decide_eq_true (by omega)
        by_cases g2 : 1114111 < C
        · have d2 : decide (C ≤ 1114111) = false := decide_eq_false (by omega)
          have hn0 : isSeq 1 s.data.toList = false := by rw [Bool.eq_false_iff]; intro h; have := HSQ.out.1 h; omega
          have hn := step_bad HN.out hn0
          have HNN := Lib.hid hn
          clear hn hn0 g1 g2
          go_quiet (fail)
          go_wp2
          exact ⟨⟨2, by omega, by omega, by go_num, HNN.out, below_drewN hB _⟩, by simp [intOf]⟩
        have d2 : decide (C ≤ 1114111) = true := decide_eq_true (by omega)
        by_cases g3 : 55296 ≤ C ∧ C ≤ 57343
        · have d3 : decide (C < 55296) = false := decide_eq_false (by omega)
          have d4 : decide (57343 < C) = false := decide_eq_false (by omega)
          have hn0 : isSeq 1 s.data.toList = false := by rw [Bool.eq_false_iff]; intro h; have := HSQ.out.1 h; omega
          have hn := step_bad HN.out hn0
          have HNN := Lib.hid hn
          clear hn hn0 g1 g2 g3
          go_quiet (fail)
          go_wp2
          exact ⟨⟨2, by omega, by omega, by go_num, HNN.out, below_drewN hB _⟩, by simp [intOf]⟩
        obtain ⟨c, rfl⟩ := Int.eq_ofNat_of_zero_le (a := C) (by omega)
        have he : ((ByteArray.mk (putL c).toArray).toList == (s.extract 0 1).toList) = isSeq 1 s.data.toList := by
          rw [Bool.eq_iff_iff, beq_iff_eq, HSQ.out, ByteArray.toList_eq, Lib.extract_toList]
          constructor
          · intro h; exact ⟨by omega, by omega, by omega, by simpa using h⟩
          · rintro ⟨_, _, _, h⟩; simpa using h
        have hc9 : c ≤ 1114111 := by omega
        obtain ⟨T, hT⟩ : ∃ T : ByteArray, T = ⟨(putL c).toArray⟩ := ⟨_, rfl⟩
        rw [← hT] at he
        have gP : ∀ (v : World) (dn : Nat) (os : Array Obj), Calls Tryd.prog 137 #[.int .i64 c] (Go.Sort.grow (redrawn v dn) os) fun e w'' => e = .returned (.string T) ∧ ∃ p : Regrown, w'' = Go.Sort.grow (redrawn v p.d) p.os := fun v dn os => Calls.regrown_of (by rw [hT]; exact put_any c _ hc9)
        clear hT hc9
        have hge : decide ((c : Int) < 55296) = true ∨ decide ((c : Int) < 55296) = false ∧ decide (57343 < (c : Int)) = true := by
          by_cases g4 : (c : Int) < 55296
          · exact .inl (decide_eq_true g4)
          · exact .inr ⟨decide_eq_false g4, decide_eq_true (by omega)⟩
        clear g1 g2 g3
        cases hq : isSeq 1 s.data.toList
        · rw [hq] at he
          have hn := step_bad HN.out hq
          have HNN := Lib.hid hn
          clear hn hq
          rcases hge with d3 | ⟨d3, d4⟩
          all_goals
            refine wp_region_quiet_below (by kernel_rfl) (by kernel_rfl) ?_
            repeat (go_big_quiet_step ((go_at_call 137; with_reducible exact gP _ _ _)))
            refine wpQuiet_nil ?_
            intro w9 hw9
            have bel2 : Below w.heap.size w w9 := by obtain ⟨p, rfl⟩ := hw9; exact hB.trans ((below_regrown _ p.d p.os).mono hB.size)
            clear hw9 gP
            go_wp2
            exact ⟨⟨2, by omega, by omega, by go_num, HNN.out, bel2⟩, by simp [intOf]⟩
        · rw [hq] at he
          have hsz := size_at (by omega) (by omega) HN.out hq
          have HSZ := Lib.hid hsz
          clear hsz hq
          rcases hge with d3 | ⟨d3, d4⟩
          all_goals
            refine wp_region_quiet_below (by kernel_rfl) (by kernel_rfl) ?_
            repeat (go_big_quiet_step ((go_at_call 137; with_reducible exact gP _ _ _)))
            refine wpQuiet_nil ?_
            intro w9 hw9
            have bel2 : Below w.heap.size w w9 := by obtain ⟨p, rfl⟩ := hw9; exact hB.trans ((below_regrown _ p.d p.os).mono hB.size)
            clear hw9 gP
            go_wp2
            exact HR.out _ _ ⟨by rw [HSZ.out]; rfl, bel2⟩
      · have l0 : 0 < s.size := by omega
        have b0 := s[0].toNat_lt
        have b0' : (s[0].toNat : Int) < 256 := by omega
        clear b0
        have l1 : 1 < s.size := by omega
        have l1' : (1 : Int) < s.size := by omega
        have b1 := s[1].toNat_lt
        have b1' : (s[1].toNat : Int) < 256 := by omega
        clear b1
        have hl : s.data.toList = s[0] :: s[1] :: s.data.toList.drop 2 := by
          have e := seqS1 s 0 (by omega)
          have e1 := seqS1 s 1 (by omega)
          rw [e1] at e
          simpa using e
        obtain ⟨C, hC⟩ : ∃ C : Int, C = cp2 (s[0].toNat : Int) (s[1].toNat : Int) := ⟨_, rfl⟩
        simp only [cp2] at hC
        have hsq : isSeq 2 s.data.toList = true ↔ 0 ≤ C ∧ C ≤ 1114111 ∧ (C < 55296 ∨ 57343 < C) ∧ putL C.toNat = s.data.toList.take 2 := by rw [hl]; exact seq2 s[0] s[1] _ C (by rw [hC])
        have HSQ := Lib.hid hsq
        have HL := Lib.hid hl
        clear hsq hl
        go_wp2
        go_quiet (fail)
        go_wp2
        rw [← hC]
        clear hC
        by_cases g1 : C < 0
        · have d1 : decide (0 ≤ C) = false := decide_eq_false (by omega)
          have hn0 : isSeq 2 s.data.toList = false := by rw [Bool.eq_false_iff]; intro h; have := HSQ.out.1 h; omega
          have hn := step_bad HN.out hn0
          have HNN := Lib.hid hn
          clear hn hn0 g1
          go_quiet (fail)
          go_wp2
          exact ⟨⟨3, by omega, by omega, by go_num, HNN.out, below_drewN hB _⟩, by simp [intOf]⟩
        have d1 : decide (0 ≤ C) = true := decide_eq_true (by omega)
        by_cases g2 : 1114111 < C
        · have d2 : decide (C ≤ 1114111) = false := decide_eq_false (by omega)
          have hn0 : isSeq 2 s.data.toList = false := by rw [Bool.eq_false_iff]; intro h; have := HSQ.out.1 h; omega
          have hn := step_bad HN.out hn0
          have HNN := Lib.hid hn
          clear hn hn0 g1 g2
          go_quiet (fail)
          go_wp2
          exact ⟨⟨3, by omega, by omega, by go_num, HNN.out, below_drewN hB _⟩, by simp [intOf]⟩
        have d2 : decide (C ≤ 1114111) = true := decide_eq_true (by omega)
        by_cases g3 : 55296 ≤ C ∧ C ≤ 57343
        · have d3 : decide (C < 55296) = false := decide_eq_false (by omega)
          have d4 : decide (57343 < C) = false := decide_eq_false (by omega)
          have hn0 : isSeq 2 s.data.toList = false := by rw [Bool.eq_false_iff]; intro h; have := HSQ.out.1 h; omega
          have hn := step_bad HN.out hn0
          have HNN := Lib.hid hn
          clear hn hn0 g1 g2 g3
          go_quiet (fail)
          go_wp2
          exact ⟨⟨3, by omega, by omega, by go_num, HNN.out, below_drewN hB _⟩, by simp [intOf]⟩
        obtain ⟨c, rfl⟩ := Int.eq_ofNat_of_zero_le (a := C) (by omega)
        have he : ((ByteArray.mk (putL c).toArray).toList == (s.extract 0 2).toList) = isSeq 2 s.data.toList := by
          rw [Bool.eq_iff_iff, beq_iff_eq, HSQ.out, ByteArray.toList_eq, Lib.extract_toList]
          constructor
          · intro h; exact ⟨by omega, by omega, by omega, by simpa using h⟩
          · rintro ⟨_, _, _, h⟩; simpa using h
        have hc9 : c ≤ 1114111 := by omega
        obtain ⟨T, hT⟩ : ∃ T : ByteArray, T = ⟨(putL c).toArray⟩ := ⟨_, rfl⟩
        rw [← hT] at he
        have gP : ∀ (v : World) (dn : Nat) (os : Array Obj), Calls Tryd.prog 137 #[.int .i64 c] (Go.Sort.grow (redrawn v dn) os) fun e w'' => e = .returned (.string T) ∧ ∃ p : Regrown, w'' = Go.Sort.grow (redrawn v p.d) p.os := fun v dn os => Calls.regrown_of (by rw [hT]; exact put_any c _ hc9)
        clear hT hc9
        have hge : decide ((c : Int) < 55296) = true ∨ decide ((c : Int) < 55296) = false ∧ decide (57343 < (c : Int)) = true := by
          by_cases g4 : (c : Int) < 55296
          · exact .inl (decide_eq_true g4)
          · exact .inr ⟨decide_eq_false g4, decide_eq_true (by omega)⟩
        clear g1 g2 g3
        cases hq : isSeq 2 s.data.toList
        · rw [hq] at he
          have hn := step_bad HN.out hq
          have HNN := Lib.hid hn
          clear hn hq
          rcases hge with d3 | ⟨d3, d4⟩
          all_goals
            refine wp_region_quiet_below (by kernel_rfl) (by kernel_rfl) ?_
            repeat (go_big_quiet_step ((go_at_call 137; with_reducible exact gP _ _ _)))
            refine wpQuiet_nil ?_
            intro w9 hw9
            have bel2 : Below w.heap.size w w9 := by obtain ⟨p, rfl⟩ := hw9; exact (below_drewN hB _).trans ((below_regrown _ p.d p.os).mono (below_drewN hB _).size)
            clear hw9 gP
            go_wp2
            exact ⟨⟨3, by omega, by omega, by go_num, HNN.out, bel2⟩, by simp [intOf]⟩
        · rw [hq] at he
          have hsz := size_at (by omega) (by omega) HN.out hq
          have HSZ := Lib.hid hsz
          clear hsz hq
          rcases hge with d3 | ⟨d3, d4⟩
          all_goals
            refine wp_region_quiet_below (by kernel_rfl) (by kernel_rfl) ?_
            repeat (go_big_quiet_step ((go_at_call 137; with_reducible exact gP _ _ _)))
            refine wpQuiet_nil ?_
            intro w9 hw9
            have bel2 : Below w.heap.size w w9 := by obtain ⟨p, rfl⟩ := hw9; exact (below_drewN hB _).trans ((below_regrown _ p.d p.os).mono (below_drewN hB _).size)
            clear hw9 gP
            go_wp2
            exact HR.out _ _ ⟨by rw [HSZ.out]; rfl, bel2⟩
      · have l0 : 0 < s.size := by omega
        have b0 := s[0].toNat_lt
        have b0' : (s[0].toNat : Int) < 256 := by omega
        clear b0
        have l1 : 1 < s.size := by omega
        have l1' : (1 : Int) < s.size := by omega
        have b1 := s[1].toNat_lt
        have b1' : (s[1].toNat : Int) < 256 := by omega
        clear b1
        have l2 : 2 < s.size := by omega
        have l2' : (2 : Int) < s.size := by omega
        have b2 := s[2].toNat_lt
        have b2' : (s[2].toNat : Int) < 256 := by omega
        clear b2
        have hl : s.data.toList = s[0] :: s[1] :: s[2] :: s.data.toList.drop 3 := by
          have e := seqS1 s 0 (by omega)
          have e1 := seqS1 s 1 (by omega)
          have e2 := seqS1 s 2 (by omega)
          rw [e1, e2] at e
          simpa using e
        obtain ⟨C, hC⟩ : ∃ C : Int, C = cp3 (s[0].toNat : Int) (s[1].toNat : Int) (s[2].toNat : Int) := ⟨_, rfl⟩
        simp only [cp3] at hC
        have hsq : isSeq 3 s.data.toList = true ↔ 0 ≤ C ∧ C ≤ 1114111 ∧ (C < 55296 ∨ 57343 < C) ∧ putL C.toNat = s.data.toList.take 3 := by rw [hl]; exact seq3 s[0] s[1] s[2] _ C (by rw [hC])
        have HSQ := Lib.hid hsq
        have HL := Lib.hid hl
        clear hsq hl
        go_wp2
        go_quiet (fail)
        go_wp2
        rw [← hC]
        clear hC
        by_cases g1 : C < 0
        · have d1 : decide (0 ≤ C) = false := decide_eq_false (by omega)
          have hn0 : isSeq 3 s.data.toList = false := by rw [Bool.eq_false_iff]; intro h; have := HSQ.out.1 h; omega
          have hn := step_bad HN.out hn0
          have HNN := Lib.hid hn
          clear hn hn0 g1
          go_quiet (fail)
          go_wp2
          exact ⟨⟨4, by omega, by omega, by go_num, HNN.out, below_drewN hB _⟩, by simp [intOf]⟩
        have d1 : decide (0 ≤ C) = true := decide_eq_true (by omega)
        by_cases g2 : 1114111 < C
        · have d2 : decide (C ≤ 1114111) = false := decide_eq_false (by omega)
          have hn0 : isSeq 3 s.data.toList = false := by rw [Bool.eq_false_iff]; intro h; have := HSQ.out.1 h; omega
          have hn := step_bad HN.out hn0
          have HNN := Lib.hid hn
          clear hn hn0 g1 g2
          go_quiet (fail)
          go_wp2
          exact ⟨⟨4, by omega, by omega, by go_num, HNN.out, below_drewN hB _⟩, by simp [intOf]⟩
        have d2 : decide (C ≤ 1114111) = true := decide_eq_true (by omega)
        by_cases g3 : 55296 ≤ C ∧ C ≤ 57343
        · have d3 : decide (C < 55296) = false := decide_eq_false (by omega)
          have d4 : decide (57343 < C) = false := decide_eq_false (by omega)
          have hn0 : isSeq 3 s.data.toList = false := by rw [Bool.eq_false_iff]; intro h; have := HSQ.out.1 h; omega
          have hn := step_bad HN.out hn0
          have HNN := Lib.hid hn
          clear hn hn0 g1 g2 g3
          go_quiet (fail)
          go_wp2
          exact ⟨⟨4, by omega, by omega, by go_num, HNN.out, below_drewN hB _⟩, by simp [intOf]⟩
        obtain ⟨c, rfl⟩ := Int.eq_ofNat_of_zero_le (a := C) (by omega)
        have he : ((ByteArray.mk (putL c).toArray).toList == (s.extract 0 3).toList) = isSeq 3 s.data.toList := by
          rw [Bool.eq_iff_iff, beq_iff_eq, HSQ.out, ByteArray.toList_eq, Lib.extract_toList]
          constructor
          · intro h; exact ⟨by omega, by omega, by omega, by simpa using h⟩
          · rintro ⟨_, _, _, h⟩; simpa using h
        have hc9 : c ≤ 1114111 := by omega
        obtain ⟨T, hT⟩ : ∃ T : ByteArray, T = ⟨(putL c).toArray⟩ := ⟨_, rfl⟩
        rw [← hT] at he
        have gP : ∀ (v : World) (dn : Nat) (os : Array Obj), Calls Tryd.prog 137 #[.int .i64 c] (Go.Sort.grow (redrawn v dn) os) fun e w'' => e = .returned (.string T) ∧ ∃ p : Regrown, w'' = Go.Sort.grow (redrawn v p.d) p.os := fun v dn os => Calls.regrown_of (by rw [hT]; exact put_any c _ hc9)
        clear hT hc9
        have hge : decide ((c : Int) < 55296) = true ∨ decide ((c : Int) < 55296) = false ∧ decide (57343 < (c : Int)) = true := by
          by_cases g4 : (c : Int) < 55296
          · exact .inl (decide_eq_true g4)
          · exact .inr ⟨decide_eq_false g4, decide_eq_true (by omega)⟩
        clear g1 g2 g3
        cases hq : isSeq 3 s.data.toList
        · rw [hq] at he
          have hn := step_bad HN.out hq
          have HNN := Lib.hid hn
          clear hn hq
          rcases hge with d3 | ⟨d3, d4⟩
          all_goals
            refine wp_region_quiet_below (by kernel_rfl) (by kernel_rfl) ?_
            repeat (go_big_quiet_step ((go_at_call 137; with_reducible exact gP _ _ _)))
            refine wpQuiet_nil ?_
            intro w9 hw9
            have bel2 : Below w.heap.size w w9 := by obtain ⟨p, rfl⟩ := hw9; exact (below_drewN hB _).trans ((below_regrown _ p.d p.os).mono (below_drewN hB _).size)
            clear hw9 gP
            go_wp2
            exact ⟨⟨4, by omega, by omega, by go_num, HNN.out, bel2⟩, by simp [intOf]⟩
        · rw [hq] at he
          have hsz := size_at (by omega) (by omega) HN.out hq
          have HSZ := Lib.hid hsz
          clear hsz hq
          rcases hge with d3 | ⟨d3, d4⟩
          all_goals
            refine wp_region_quiet_below (by kernel_rfl) (by kernel_rfl) ?_
            repeat (go_big_quiet_step ((go_at_call 137; with_reducible exact gP _ _ _)))
            refine wpQuiet_nil ?_
            intro w9 hw9
            have bel2 : Below w.heap.size w w9 := by obtain ⟨p, rfl⟩ := hw9; exact (below_drewN hB _).trans ((below_regrown _ p.d p.os).mono (below_drewN hB _).size)
            clear hw9 gP
            go_wp2
            exact HR.out _ _ ⟨by rw [HSZ.out]; rfl, bel2⟩
      · have l0 : 0 < s.size := by omega
        have b0 := s[0].toNat_lt
        have b0' : (s[0].toNat : Int) < 256 := by omega
        clear b0
        have l1 : 1 < s.size := by omega
        have l1' : (1 : Int) < s.size := by omega
        have b1 := s[1].toNat_lt
        have b1' : (s[1].toNat : Int) < 256 := by omega
        clear b1
        have l2 : 2 < s.size := by omega
        have l2' : (2 : Int) < s.size := by omega
        have b2 := s[2].toNat_lt
        have b2' : (s[2].toNat : Int) < 256 := by omega
        clear b2
        have l3 : 3 < s.size := by omega
        have l3' : (3 : Int) < s.size := by omega
        have b3 := s[3].toNat_lt
        have b3' : (s[3].toNat : Int) < 256 := by omega
        clear b3
        have hl : s.data.toList = s[0] :: s[1] :: s[2] :: s[3] :: s.data.toList.drop 4 := by
          have e := seqS1 s 0 (by omega)
          have e1 := seqS1 s 1 (by omega)
          have e2 := seqS1 s 2 (by omega)
          have e3 := seqS1 s 3 (by omega)
          rw [e1, e2, e3] at e
          simpa using e
        obtain ⟨C, hC⟩ : ∃ C : Int, C = cp4 (s[0].toNat : Int) (s[1].toNat : Int) (s[2].toNat : Int) (s[3].toNat : Int) := ⟨_, rfl⟩
        simp only [cp4] at hC
        have hsq : isSeq 4 s.data.toList = true ↔ 0 ≤ C ∧ C ≤ 1114111 ∧ (C < 55296 ∨ 57343 < C) ∧ putL C.toNat = s.data.toList.take 4 := by rw [hl]; exact seq4 s[0] s[1] s[2] s[3] _ C (by rw [hC])
        have HSQ := Lib.hid hsq
        have HL := Lib.hid hl
        clear hsq hl
        go_wp2
        go_quiet (fail)
        go_wp2
        rw [← hC]
        clear hC
        by_cases g1 : C < 0
        · have d1 : decide (0 ≤ C) = false := decide_eq_false (by omega)
          have hn0 : isSeq 4 s.data.toList = false := by rw [Bool.eq_false_iff]; intro h; have := HSQ.out.1 h; omega
          have hn := step_bad HN.out hn0
          have HNN := Lib.hid hn
          clear hn hn0 g1
          go_quiet (fail)
          go_wp2
          exact ⟨⟨5, by omega, by omega, by go_num, HNN.out, below_drewN hB _⟩, by simp [intOf]⟩
        have d1 : decide (0 ≤ C) = true := decide_eq_true (by omega)
        by_cases g2 : 1114111 < C
        · have d2 : decide (C ≤ 1114111) = false := decide_eq_false (by omega)
          have hn0 : isSeq 4 s.data.toList = false := by rw [Bool.eq_false_iff]; intro h; have := HSQ.out.1 h; omega
          have hn := step_bad HN.out hn0
          have HNN := Lib.hid hn
          clear hn hn0 g1 g2
          go_quiet (fail)
          go_wp2
          exact ⟨⟨5, by omega, by omega, by go_num, HNN.out, below_drewN hB _⟩, by simp [intOf]⟩
        have d2 : decide (C ≤ 1114111) = true := decide_eq_true (by omega)
        by_cases g3 : 55296 ≤ C ∧ C ≤ 57343
        · have d3 : decide (C < 55296) = false := decide_eq_false (by omega)
          have d4 : decide (57343 < C) = false := decide_eq_false (by omega)
          have hn0 : isSeq 4 s.data.toList = false := by rw [Bool.eq_false_iff]; intro h; have := HSQ.out.1 h; omega
          have hn := step_bad HN.out hn0
          have HNN := Lib.hid hn
          clear hn hn0 g1 g2 g3
          go_quiet (fail)
          go_wp2
          exact ⟨⟨5, by omega, by omega, by go_num, HNN.out, below_drewN hB _⟩, by simp [intOf]⟩
        obtain ⟨c, rfl⟩ := Int.eq_ofNat_of_zero_le (a := C) (by omega)
        have he : ((ByteArray.mk (putL c).toArray).toList == (s.extract 0 4).toList) = isSeq 4 s.data.toList := by
          rw [Bool.eq_iff_iff, beq_iff_eq, HSQ.out, ByteArray.toList_eq, Lib.extract_toList]
          constructor
          · intro h; exact ⟨by omega, by omega, by omega, by simpa using h⟩
          · rintro ⟨_, _, _, h⟩; simpa using h
        have hc9 : c ≤ 1114111 := by omega
        obtain ⟨T, hT⟩ : ∃ T : ByteArray, T = ⟨(putL c).toArray⟩ := ⟨_, rfl⟩
        rw [← hT] at he
        have gP : ∀ (v : World) (dn : Nat) (os : Array Obj), Calls Tryd.prog 137 #[.int .i64 c] (Go.Sort.grow (redrawn v dn) os) fun e w'' => e = .returned (.string T) ∧ ∃ p : Regrown, w'' = Go.Sort.grow (redrawn v p.d) p.os := fun v dn os => Calls.regrown_of (by rw [hT]; exact put_any c _ hc9)
        clear hT hc9
        have hge : decide ((c : Int) < 55296) = true ∨ decide ((c : Int) < 55296) = false ∧ decide (57343 < (c : Int)) = true := by
          by_cases g4 : (c : Int) < 55296
          · exact .inl (decide_eq_true g4)
          · exact .inr ⟨decide_eq_false g4, decide_eq_true (by omega)⟩
        clear g1 g2 g3
        cases hq : isSeq 4 s.data.toList
        · rw [hq] at he
          have hn := step_bad HN.out hq
          have HNN := Lib.hid hn
          clear hn hq
          rcases hge with d3 | ⟨d3, d4⟩
          all_goals
            refine wp_region_quiet_below (by kernel_rfl) (by kernel_rfl) ?_
            repeat (go_big_quiet_step ((go_at_call 137; with_reducible exact gP _ _ _)))
            refine wpQuiet_nil ?_
            intro w9 hw9
            have bel2 : Below w.heap.size w w9 := by obtain ⟨p, rfl⟩ := hw9; exact (below_drewN hB _).trans ((below_regrown _ p.d p.os).mono (below_drewN hB _).size)
            clear hw9 gP
            go_wp2
            exact ⟨⟨5, by omega, by omega, by go_num, HNN.out, bel2⟩, by simp [intOf]⟩
        · rw [hq] at he
          have hsz := size_at (by omega) (by omega) HN.out hq
          have HSZ := Lib.hid hsz
          clear hsz hq
          rcases hge with d3 | ⟨d3, d4⟩
          all_goals
            refine wp_region_quiet_below (by kernel_rfl) (by kernel_rfl) ?_
            repeat (go_big_quiet_step ((go_at_call 137; with_reducible exact gP _ _ _)))
            refine wpQuiet_nil ?_
            intro w9 hw9
            have bel2 : Below w.heap.size w w9 := by obtain ⟨p, rfl⟩ := hw9; exact (below_drewN hB _).trans ((below_regrown _ p.d p.os).mono (below_drewN hB _).size)
            clear hw9 gP
            go_wp2
            exact HR.out _ _ ⟨by rw [HSZ.out]; rfl, bel2⟩
    · have hsz : sizeR s.data.toList = 0 := size_none hk1 HN.out (by rw [← HZ.out]; omega)
      have HSZ := Lib.hid hsz; clear hsz
      by_cases h5 : k ≤ 4
      · have hks : ¬ k ≤ s.size := fun h => hlt ⟨h5, h⟩
        clear hlt
        go_wp2
        exact HR.out _ _ ⟨by rw [HSZ.out]; rfl, hB⟩
      · clear hlt
        go_wp2
        exact HR.out _ _ ⟨by rw [HSZ.out]; rfl, hB⟩

end Go.Proofs.YtgiemhooeoakmaaDoor

/- strings.IndexAny, ContainsAny at "\r\n", of whatever string. -/
import Derived.Test.YtgiemhooeoakmaaIdxA
import Derived.Lib.OthersKept
namespace Go.Proofs.Ytgiemhooeoakmaa
open Go.RowKit
set_option linter.unusedVariables false
set_option linter.unusedSimpArgs false

theorem get!_toNat (s : ByteArray) (i : Nat) (h : i < s.size) : s.get! i = s[i]'h := get_at s i h
theorem decode_bytes (s : ByteArray) (pos : Nat) (h : pos < s.size) (ha : 128 ≤ (s[pos]'h).toNat) : pos + (Utf8.decode s pos).2 ≤ s.size ∧ ∀ j, pos ≤ j → j < pos + (Utf8.decode s pos).2 → ∀ hj : j < s.size, 128 ≤ (s[j]'hj).toNat := by
  have hn : ¬ (s[pos]'h).toNat < 128 := by omega
  have hc : ∀ k, (decide (pos + k < s.size) && ((s.get! (pos + k)).toNat / 64 == 2)) = true → pos + k < s.size ∧ ∀ hj : pos + k < s.size, 128 ≤ (s[pos + k]'hj).toNat := fun k hk => by
    rw [Bool.and_eq_true, decide_eq_true_iff, beq_iff_eq] at hk
    refine ⟨hk.1, fun hj => ?_⟩
    rw [get!_toNat s _ hj] at hk
    omega
  have one : ∀ (c n : Nat), n = 1 → pos + n ≤ s.size ∧ ∀ j, pos ≤ j → j < pos + n → ∀ hj : j < s.size, 128 ≤ (s[j]'hj).toNat := fun c n hn1 => by
    subst hn1
    refine ⟨by omega, fun j h1 h2 hj => ?_⟩
    obtain rfl : j = pos := by omega
    exact ha
  simp only [Utf8.decode, get_at s pos h, hn, if_false]
  split
  · rename_i h2
    rw [Bool.and_eq_true] at h2
    have k1 := hc 1 h2.2
    split
    · refine ⟨by show pos + 2 ≤ s.size; omega, fun j h1 h2 hj => ?_⟩
      have h2 : j < pos + 2 := h2
      rcases (by omega : j = pos ∨ j = pos + 1) with rfl | rfl
      · exact ha
      · exact k1.2 hj
    · exact one 0 _ rfl
  · split
    · rename_i h2
      rw [Bool.and_eq_true, Bool.and_eq_true] at h2
      have k1 := hc 1 h2.1.2
      have k2 := hc 2 h2.2
      split
      · refine ⟨by show pos + 3 ≤ s.size; omega, fun j h1 h2 hj => ?_⟩
        have h2 : j < pos + 3 := h2
        rcases (by omega : j = pos ∨ j = pos + 1 ∨ j = pos + 2) with rfl | rfl | rfl
        · exact ha
        · exact k1.2 hj
        · exact k2.2 hj
      · exact one 0 _ rfl
    · split
      · rename_i h2
        rw [Bool.and_eq_true, Bool.and_eq_true, Bool.and_eq_true] at h2
        have k1 := hc 1 h2.1.1.2
        have k2 := hc 2 h2.1.2
        have k3 := hc 3 h2.2
        split
        · refine ⟨by show pos + 4 ≤ s.size; omega, fun j h1 h2 hj => ?_⟩
          have h2 : j < pos + 4 := h2
          rcases (by omega : j = pos ∨ j = pos + 1 ∨ j = pos + 2 ∨ j = pos + 3) with rfl | rfl | rfl | rfl
          · exact ha
          · exact k1.2 hj
          · exact k2.2 hj
          · exact k3.2 hj
        · exact one 0 _ rfl
      · exact one 0 _ rfl
def crlf : ByteArray := ⟨#[13, 10]⟩
theorem noAny_step {s : ByteArray} {pos d : Nat} (h : Lib.NoAny s.data.toList [13, 10] pos) (hb : ∀ j, pos ≤ j → j < pos + d → ∀ hj : j < s.size, 128 ≤ (s[j]'hj).toNat) : Lib.NoAny s.data.toList [13, 10] (pos + d) := fun j b hj hs => by
  by_cases h1 : j < pos
  · exact h j b h1 hs
  · have hjs : j < s.size := by
      rw [Lib.size_eq]
      exact (List.getElem?_eq_some_iff.1 hs).1
    have h2 := hb j (by omega) hj hjs
    rw [Lib.data_getElem? s j hjs] at hs
    injection hs with hs
    rw [← hs]
    have : s[j].toNat ≠ 13 ∧ s[j].toNat ≠ 10 := by omega
    have h3 : s[j] ≠ 13 := fun e => this.1 (by rw [e]; rfl)
    have h4 : s[j] ≠ 10 := fun e => this.2 (by rw [e]; rfl)
    simp [h3, h4]
set_option maxHeartbeats 4000000 in
set_option maxRecDepth 1000000 in
theorem idxAny_short (s : ByteArray) (w : World) (h8 : s.size ≤ 8) :
    Calls Try.prog 20 #[.string s, .string ⟨#[13, 10]⟩] w fun e w' => e = .returned (.int .i64 (Lib.indexAny s.data.toList [13, 10])) ∧ Below w.heap.size w w' := by
  refine cps fun R HR => ?_
  have h8z : decide ((8 : Int) < (s.size : Int)) = false := decide_eq_false (by omega)
  go_enter Try.func20, Try.ntmps20
  go_wp2_with fail
  refine (Try.strings_shouldUseASCIISet _ _).mono ?_
  rintro e w1 ⟨rfl, rfl⟩
  rw [h8z]
  go_wp2
  go_loopw [] (fun wr => ∃ pos : Nat, pos ≤ s.size ∧ wr.heap[w1.heap.size]? = some (.stringIter s pos) ∧ Below w1.heap.size w1 wr ∧ Lib.NoAny s.data.toList [13, 10] pos) (fun wr => s.size - wr.iterPos w1.heap.size)
  case atStart => exact ⟨0, Nat.zero_le _, World.iter_heap w1 s 0, (Below.refl _ w1).alloc (Nat.le_refl _) _, Lib.NoAny.zero _ _⟩
  case round =>
    obtain ⟨pos, hps, hit, hbw, hno⟩ := hrel
    have HN := Lib.hid hno
    clear hno
    by_cases hp : pos < s.size
    · have hnx : ∀ ty, (Instr.next (.pointer (some ⟨w1.heap.size, 0, none⟩)) true ty).run Try.prog wr = _ := fun ty => Lib.run_next_any_at wr w1.heap.size s pos ty hit hp
      have hit2 := Lib.iterAt_heap wr w1.heap.size s pos (pos + (Utf8.decode s pos).2) hit
      have hbw2 := Lib.below_iterAt hbw (k := w1.heap.size) (Nat.le_refl _) s (pos + (Utf8.decode s pos).2)
      have hd1 := decode_le s pos
      have hszx : w1.heap.size < (wr.iterAt w1.heap.size s (pos + (Utf8.decode s pos).2)).heap.size := (Array.getElem?_eq_some_iff.1 hit2).1
      by_cases ha : (s[pos]'hp).toNat < 128
      · have hde := decode_ascii s pos hp ha
        obtain ⟨x, hx⟩ : ∃ x : UInt8, x = s[pos]'hp := ⟨_, rfl⟩
        have hxl : s.data.toList[pos]? = some x := by rw [hx]; exact Lib.data_getElem? s pos hp
        rw [← hx] at hde ha
        rw [hde] at hnx hit2 hbw2 hd1 hszx
        have hback : ((x.toNat : Int)).toNat.toUInt8 = x := by simp
        have hcon := Lib.contains_iff_indexByte [13, 10] x
        have HXL := Lib.hid hxl
        clear hde hx hxl
        cases hin : ([13, 10] : List UInt8).contains x
        · rw [hin] at hcon
          have hlt : ¬ ((0 : Int) ≤ Lib.indexByte [13, 10] x) := of_decide_eq_false hcon.symm
          have HI := Lib.hid hin
          clear hcon hin
          go_wp2_with fail
          refine (Try.strings_IndexRune_ascii _ _ _ (by omega) (by omega)).mono ?_
          rintro e w2 ⟨rfl, rfl⟩
          rw [hback]
          go_wp2
          go_roundw
          case rel => exact ⟨pos + 1, by omega, hit2, hbw2, HN.out.succ HXL.out HI.out⟩
          case measure =>
            simp only [World.iterPos, hit2, hit]
            omega
        · rw [hin] at hcon
          have hge : (0 : Int) ≤ Lib.indexByte [13, 10] x := of_decide_eq_true hcon.symm
          have HI := Lib.hid hin
          clear hcon hin
          go_wp2_with fail
          refine (Try.strings_IndexRune_ascii _ _ _ (by omega) (by omega)).mono ?_
          rintro e w2 ⟨rfl, rfl⟩
          rw [hback]
          go_wp2
          exact HR.out _ _ ⟨by rw [Lib.indexAny_hit HN.out HXL.out HI.out]; try rfl, hbw2⟩
      · have hde := decode_high s pos hp (by omega)
        have hdb := decode_bytes s pos hp (by omega)
        obtain ⟨c, d, hcd⟩ : ∃ c d, Utf8.decode s pos = (c, d) := ⟨_, _, rfl⟩
        rw [hcd] at hde hdb hnx hit2 hbw2 hd1 hszx
        have HD := Lib.hid hdb
        clear hcd hdb ha
        go_wp2_with fail
        refine (idxRune_crlf _ (by have := hde.1; omega) _).mono ?_
        rintro e w2 ⟨rfl, b2⟩
        have hit3 := b2.block w1.heap.size hszx
        rw [hit2] at hit3
        have hbw3 := hbw2.trans (b2.mono hbw2.size)
        go_wp2
        go_roundw
        case rel => exact ⟨pos + d, HD.out.1, hit3, hbw3, noAny_step HN.out HD.out.2⟩
        case measure =>
          have := hde.2
          simp only [World.iterPos, hit3, hit]
          omega
    · obtain rfl : pos = s.size := by omega
      have hnx : ∀ ty, (Instr.next (.pointer (some ⟨w1.heap.size, 0, none⟩)) true ty).run Try.prog wr = _ := fun ty => Lib.run_next_end_at wr w1.heap.size s s.size ty hit hp
      go_wp2
      exact HR.out _ _ ⟨by rw [Lib.indexAny_none (by rw [← Lib.size_eq]; exact HN.out)]; try rfl, hbw⟩
theorem contAny_crlf (s : ByteArray) (w : World) (hs : s.size ≤ 100000) :
    Calls Try.prog 17 #[.string s, .string ⟨#[13, 10]⟩] w fun e w' => e = .returned (.bool (Lib.containsAny s.data.toList [13, 10])) ∧ Below w.heap.size w w' := by
  refine cps fun R HR => ?_
  have c : ∀ w, Calls Try.prog 20 #[.string s, .string ⟨#[13, 10]⟩] w fun e w' => e = .returned (.int .i64 (Lib.indexAny s.data.toList [13, 10])) ∧ Below w.heap.size w w' := fun w => by
    by_cases h8 : s.size ≤ 8
    · exact idxAny_short s w h8
    · have hi : (Try.prog.info? (Try.lays153_ren.t 116)).map (fun i => (i.zero, i.size)) = some (some (.agg (Array.replicate 256 (.bool false))), 256) := by kernel_rfl
      refine (Any.strings_IndexAny_long Try.lays153 (zero_of_info hi).1 (zero_of_info hi).2 s ⟨#[13, 10]⟩ w (by decide) (by omega) (by omega) (by decide) ?_).mono fun e w' ⟨h1, h2⟩ => ⟨h1, ?_⟩
      · intro j b hj
        match j with
        | 0 => simp at hj; rw [← hj]; decide
        | 1 => simp at hj; rw [← hj]; decide
        | j + 2 => simp at hj
      · rw [h2]
        exact ((Below.refl _ _).alloc (Nat.le_refl _) _).alloc (by simp) _
  go_enter Try.func17, Try.ntmps17
  go_wp2_with fail
  refine (c _).mono ?_
  rintro e w1 ⟨rfl, b1⟩
  go_wp2
  exact HR.out _ _ ⟨rfl, b1⟩
end Go.Proofs.Ytgiemhooeoakmaa

/- strings.IndexRune, IndexAny, ContainsAny at "\r\n", of whatever string. -/
import Derived.Test.YtgiemhooeoakmaaShl
import Derived.Laws.RangeAny
import Derived.Laws.Runes
import Derived.Lib.QuietBelow
import Derived.WalkSmall
import Derived.WalkMore
import Derived.Scope
namespace Go.Proofs.Ytgiemhooeoakmaa
open Go.RowKit
set_option linter.unusedVariables false
set_option linter.unusedSimpArgs false

theorem encode_high (r : Int) (h : 128 ≤ r) : 2 ≤ (Utf8.encode r).size ∧ (Utf8.encode r).size ≤ 4 ∧ ∀ (hs : 1 < (Utf8.encode r).size), 128 ≤ ((Utf8.encode r)[1]'hs).toNat := by
  unfold Utf8.encode
  have hc : 128 ≤ (if Utf8.valid r then r.toNat else Utf8.runeError) := by
    split
    · omega
    · decide
  generalize (if Utf8.valid r then r.toNat else Utf8.runeError) = c at hc
  have hn : ¬ c < 0x80 := by omega
  simp only [hn, if_false]
  repeat' split
  all_goals refine ⟨by simp [ByteArray.size], by simp [ByteArray.size], fun hs => ?_⟩
  all_goals simp [ByteArray.getElem_eq_getElem_data]
  all_goals omega
theorem crlf_next (w : World) (pos : Nat) (ty : TypeId) (h : pos < 2) : (Instr.next (.pointer (some ⟨w.heap.size, 0, none⟩)) true ty).run Try.prog (w.iter ⟨#[13, 10]⟩ pos) = .ok (.tuple #[.bool true, .int .i64 pos, .int .i32 (if pos = 0 then 13 else 10)]) (w.iter ⟨#[13, 10]⟩ (pos + 1)) := by
  rcases (by omega : pos = 0 ∨ pos = 1) with rfl | rfl
  · exact run_next_ascii w ⟨#[13, 10]⟩ 0 ty (by decide) (by decide)
  · exact run_next_ascii w ⟨#[13, 10]⟩ 1 ty (by decide) (by decide)
set_option maxHeartbeats 2000000 in
set_option maxRecDepth 1000000 in
theorem idxRune_crlf (r : Int) (h : 128 ≤ r) (w : World) :
    Calls Try.prog 23 #[.string ⟨#[13, 10]⟩, .int .i32 r] w fun e w' => e = .returned (.int .i64 (-1)) ∧ Below w.heap.size w w' := by
  refine cps fun R HR => ?_
  obtain ⟨h2, h4, hb⟩ := encode_high r h
  have hne : ¬ r < 128 := by omega
  have hz : (0 : Int) ≤ r := by omega
  have H := Lib.hid h; have HB := Lib.hid hb
  clear h hb
  by_cases he : r = 65533
  · subst he
    go_enter Try.func23, Try.ntmps23
    go_wp2
    go_loopw [176] (fun _ wr => ∃ k : Nat, k ≤ 2 ∧ wr = w.iter ⟨#[13, 10]⟩ k) (fun _ wr => 2 - wr.iterPos w.heap.size)
    case atStart => exact ⟨0, by omega, rfl⟩
    case round =>
      obtain ⟨k, hk, rfl⟩ := hrel
      by_cases hlt : k < 2
      · have hnx := fun ty => crlf_next w k ty hlt
        rcases (by omega : k = 0 ∨ k = 1) with rfl | rfl
        · go_wp2
          exact ⟨⟨1, by omega, rfl⟩, by simp⟩
        · go_wp2
          exact ⟨⟨2, by omega, rfl⟩, by simp⟩
      · have hnx := fun ty => run_next_end (P := Try.prog) w ⟨#[13, 10]⟩ k ty (by rw [show (⟨#[13, 10]⟩ : ByteArray).size = 2 from rfl]; omega)
        go_wp2
        exact HR.out _ _ ⟨rfl, by exact (Below.refl _ _).alloc (Nat.le_refl _) _⟩
  · have d : ((r : Int) == 65533) = false := by rw [beq_eq_false_iff_ne]; exact he
    go_enter Try.func23, Try.ntmps23
    go_wp2_with fail
    refine (Try.utf8_ValidRune r _).mono ?_
    rintro e w1 ⟨rfl, rfl⟩
    obtain ⟨vr, hvr⟩ : ∃ vr, vr = Lib.validRune r := ⟨_, rfl⟩
    rw [← hvr]
    clear hvr
    cases vr
    · go_wp2
      exact HR.out _ _ ⟨rfl, Below.refl _ _⟩
    · have hcv : ∀ w', (convert 21 9 (.int .i32 r)).run Try.prog w' = .ok (.string (Utf8.encode r)) w' := fun w' => run_convert_int_string w' _ _ _ _ (by kernel_rfl) Try.underlying9
      by_cases h22 : (Utf8.encode r).size = 2
      · have h1s : 1 < (Utf8.encode r).size := by omega
        have hb1 := HB.out h1s
        obtain ⟨b1, hb⟩ : ∃ b1, b1 = (Utf8.encode r)[1]'h1s := ⟨_, rfl⟩
        rw [← hb] at hb1
        have HBE := Lib.hid hb
        clear hb
        go_wp2; go_step3; go_wp2
        have hs2 : (2 : Int) ≤ ((⟨#[13, 10]⟩ : ByteArray).size : Int) := by decide
        have gI : ∀ (wz : World) dn os, Calls Try.prog 16 #[.string ⟨#[]⟩, .int .u8 (((Utf8.encode r)[1]'h1s).toNat : Int)] (Go.Sort.grow (redrawn wz dn) os) fun e w'' => e = .returned (.int .i64 (-1)) ∧ ∃ p : Regrown, w'' = Go.Sort.grow (redrawn wz p.d) p.os := fun wz dn os => Calls.regrown_of ((Try.strings_IndexByte _ _ _).mono fun e w' ⟨h1, h2⟩ => ⟨by rw [h1]; rfl, by rw [h2]; exact Below.refl _ _⟩)
        have hx1 : ((⟨#[13, 10]⟩ : ByteArray)[1]'(by decide)).toNat = 10 := rfl
        have hneq : (((((⟨#[13, 10]⟩ : ByteArray)[1]'(by decide)).toNat : Nat) : Int) != (((Utf8.encode r)[1]'h1s).toNat : Int)) = true := by
          have := HB.out h1s
          rw [bne_iff_ne]
          omega
        clear hx1
        have hwr : IntKind.i64.wrap 2 = 2 := by decide
        have hsl : ∀ w', (Instr.slice 9 (.string ⟨#[13, 10]⟩) (some (.int .i64 2)) none none).run Try.prog w' = .ok (.string ⟨#[]⟩) w' := fun w' => by rw [run_slice_string_from_if w' _ _ _ _ Try.underlying9, if_pos (by decide)]; rfl
        go_loopw [9, 10] (fun i f wr => i = .int .i64 1 ∧ f = .int .i64 0 ∧ wr = w1) (fun _ _ _ => 0)
        case atStart => exact ⟨rfl, rfl, rfl⟩
        case round =>
          obtain ⟨rfl, rfl, rfl⟩ := hrel
          go_wp2
          go_step3
          go_wp2
          go_quiet (fail)
          go_wp2
          refine wp_region_quiet_below (by kernel_rfl) (by kernel_rfl) ?_
          repeat (go_big_quiet_step ((go_at_call 16; with_reducible exact gI _ _ _)))
          refine wpQuiet_nil ?_
          intro w9 hw9
          have bel : Below wr.heap.size wr w9 := by
            obtain ⟨p, rfl⟩ := hw9
            have b1 := below_drewN (Below.refl wr.heap.size wr) nq
            exact b1.trans ((below_regrown _ p.d p.os).mono b1.size)
          clear hw9 gI
          go_wp2
          exact HR.out _ _ ⟨rfl, bel⟩
      · go_wp2; go_step3; go_wp2
        go_loopw [9, 10] (fun i f wr => i = .int .i64 ((Utf8.encode r).size - 1 : Int) ∧ f = .int .i64 0 ∧ wr = w1) (fun _ _ _ => 0)
        case atStart => exact ⟨rfl, rfl, rfl⟩
        case round =>
          obtain ⟨rfl, rfl, rfl⟩ := hrel
          have dlt : decide (((Utf8.encode r).size - 1 : Int) < 2) = false := decide_eq_false (by omega)
          go_wp2
          exact HR.out _ _ ⟨rfl, Below.refl _ _⟩
end Go.Proofs.Ytgiemhooeoakmaa

/- Whatever the pieces of a text are: what the stripper hands on, piece by piece, and what it keeps back, is what the document says (no condition of ours). -/
import Derived.Test.YtlcglijkpbojgaaBomC
import Derived.Test.YtlcglijkpbojgaaBomL
import Derived.Test.YtlcglijkpbojgaaOpen
import Derived.ProofKit
import Derived.OpenShut
import Derived.ShutString
import Derived.ChangeOld
import Derived.Below
import Derived.Lib.SlBytesConst
namespace Go.Proofs.Ytlcglijkpbojgaa.bomPieces
open Go.ChangeShapes Go.WideShapes Go.ChangeAt Go.RowKit
open Go.ChangeMaps (open_string shut_string)
set_option linter.unusedVariables false
set_option linter.unusedSimpArgs false

set_option maxHeartbeats 4000000 in
theorem walkR (A : Option Addr) (n c : Nat) (l : List (List UInt8)) (w : World) (hl : RdRows w w.heap.size A n c l) :
    Calls Try.prog 4 #[.slice A n c] w fun e w' => e = .returned (.bool true) ∧ Below w.heap.size w w' := by
  refine cps fun R HR => ?_
  obtain ⟨vs, hs, he⟩ := hl.is
  by_cases hbig : (40 : Int) < n
  · go_enter Try.func4, Try.ntmps4
    go_wp2_with fail
    refine (new_any _).mono ?_
    rintro e w0 ⟨rfl, rfl⟩
    go_wp2_with fail
    refine (awake_any _).mono ?_
    rintro e w2 ⟨rfl, hb2⟩
    go_wp2
    exact HR.out _ _ ⟨rfl, ((Below.refl _ _).alloc (Nat.le_refl _) _).trans (hb2.mono (by simp))⟩
  · go_enter Try.func4, Try.ntmps4
    go_wp2_with fail
    refine (new_any _).mono ?_
    rintro e w0 ⟨rfl, hw0⟩
    have hB0 : Below w.heap.size w w0 := by rw [hw0]; exact (Below.refl _ _).alloc (Nat.le_refl _) _
    have hS0 : Box w0 w.heap.size 40 ((⟨0, false, false⟩ : BS).cells false) := by rw [hw0]; exact Box.new _ _ _
    clear hw0
    go_wp2
    go_loopw [4, 5, 27] (fun a t i wr => ∃ (k : Nat) (all told : ByteArray) (st : BS), k ≤ n ∧ i = .int .i64 k ∧ a = .string all ∧ t = .string told ∧ Box wr w.heap.size 40 (st.cells false) ∧ Inv all.data.toList st told.data.toList ∧ all.size ≤ 400 ∧ Below w.heap.size w wr) (fun _ _ i _ => n - (intOf i).toNat)
    case atStart => exact ⟨0, { data := #[] }, { data := #[] }, _, Nat.zero_le _, rfl, rfl, rfl, hS0, Inv.start, by decide, hB0⟩
    case round =>
      obtain ⟨k, all, told, st, hk, rfl, rfl, rfl, hS, hI, h400, hB⟩ := hrel
      by_cases hlt : k < n
      · obtain ⟨a, u, rfl, hal, hx, hcell⟩ := (hs.below hB).at1 hlt
        obtain ⟨d, hd, A', n', c', rfl, hsd⟩ := he.get hx
        have hn' := hsd.few
        have hdl : d.length = n' := by have := hsd.len; simpa [bytesV] using this
        have hds : (ByteArray.mk d.toArray).size = n' := by rw [← hdl]; simp [ByteArray.size]
        have HDL := Lib.hid hdl; clear hdl
        by_cases h4 : (400 : Int) < all.size + n'
        · go_wp2_with fail
          refine (awake_any _).mono ?_
          rintro e w2 ⟨rfl, hb2⟩
          go_wp2
          exact HR.out _ _ ⟨rfl, hB.trans (hb2.mono hB.size)⟩
        · have hsd' := (hsd.below hB).more (B' := wr.heap.size) hB.size
          have hcv := conv_bs (P := Try.prog) wr 22 9 5 Try.underlying22 Try.underlying5 Try.underlying9 _ A' _ c' d hsd'
          go_wp2_with fail
          refine (feed_open _ _ _ _ st d _ hS hsd' hI.held (by omega)).mono ?_
          rintro e w1 ⟨v, rfl, hO, hg, hS1⟩
          obtain ⟨A2, c2, rfl, hs2⟩ := hO.form
          have hI2 := hI.feed d
          have hcv2 := conv_bs (P := Try.prog) w1 22 9 5 Try.underlying22 Try.underlying5 Try.underlying9 _ A2 _ c2 _ hs2
          have hle := hI2.le
          obtain ⟨out, hout⟩ : ∃ x, x = (feedL st d).1 := ⟨_, rfl⟩
          obtain ⟨st2, hst2⟩ : ∃ x, x = (feedL st d).2 := ⟨_, rfl⟩
          rw [← hout] at hI2 hcv2 hO hle hs2 ⊢
          rw [← hst2] at hI2 hS1
          clear hout hst2
          have hal2 : (all ++ { data := d.toArray }).size ≤ 400 := by rw [ByteArray.size_append, hds]; omega
          have hae : (all ++ { data := d.toArray }).data.toList = all.data.toList ++ d := by rw [BA_app]
          obtain ⟨all2, hall2⟩ : ∃ x, x = all ++ ByteArray.mk d.toArray := ⟨_, rfl⟩
          rw [← hall2] at hal2 hae ⊢
          clear hall2
          rw [← hae] at hI2 hle
          have hto : (told ++ { data := out.toArray }).data.toList = told.data.toList ++ out := by rw [BA_app]
          have htz : told.size + (ByteArray.mk out.toArray).size ≤ 400 := by
            have e1 : told.size = told.data.toList.length := by rw [Array.length_toList]; rfl
            have e2 : all2.size = all2.data.toList.length := by rw [Array.length_toList]; rfl
            have e3 : (ByteArray.mk out.toArray).size = out.length := by simp [ByteArray.size]
            rw [List.length_append] at hle
            omega
          have hz2 : all2.size ≤ maxLen := by unfold maxLen; omega
          obtain ⟨told2, htold2⟩ : ∃ x, x = told ++ ByteArray.mk out.toArray := ⟨_, rfl⟩
          rw [← htold2] at hto
          rw [← hto] at hI2
          obtain ⟨r1, r2, r3, r4⟩ := hI2.ref
          have r5 : (st2.had == (wasB all2 == 1)) = true := by rw [r3]; cases st2.had <;> rfl
          have HI2 := Lib.hid hI2; clear hI2 hle hae hto
          have HR1 := Lib.hid r1; clear r1
          have HR2 := Lib.hid r2; clear r2
          clear r3 r4
          have HT := Lib.hid htold2; clear htold2
          have hB1 := below_of_grown hB hg (Nat.le_refl _)
          clear hg hcv hds
          go_wp2_with fail
          refine (refStrip_any all2 _ hz2).mono ?_
          rintro e w2 ⟨rfl, hb2⟩
          have hS2 := hS1.below hb2 hS1.lt
          have hB2 := hB1.trans (hb2.mono hB1.size)
          rw [← HT.out]
          go_wp2_with fail
          refine (refTold_any all2 _ hz2).mono ?_
          rintro e w3 ⟨rfl, hb3⟩
          have hS3 := hS2.below hb3 hS2.lt
          have hB3 := hB2.trans (hb3.mono hB2.size)
          rw [HR1.out]
          go_wp2_with fail
          refine (held_any _ st2 false _ hS3).mono ?_
          rintro e w4 ⟨rfl, rfl⟩
          go_wp2_with fail
          refine (refHeld_any all2 _ hz2).mono ?_
          rintro e w4 ⟨rfl, hb4⟩
          have hS4 := hS3.below hb4 hS3.lt
          have hB4 := hB3.trans (hb4.mono hB3.size)
          rw [HR2.out]
          go_wp2_with fail
          refine (stripped_any _ st2 false _ hS4).mono ?_
          rintro e w5 ⟨rfl, rfl⟩
          go_wp2
          exact ⟨⟨k + 1, all2, told2, st2, by omega, by go_num, rfl, rfl, hS4, HI2.out, hal2, hB4⟩, by simp [intOf]; omega⟩
      · have hkn : k = n := by omega
        have hO := hI.held
        go_wp2_with fail
        refine (close_any _ st false _ hS hI.held).mono ?_
        rintro e w1 ⟨v, rfl, hO, hg, hS1⟩
        obtain ⟨A2, c2, rfl, hs2⟩ := hO.form
        have hcv2 := conv_bs (P := Try.prog) w1 22 9 5 Try.underlying22 Try.underlying5 Try.underlying9 _ A2 _ c2 _ hs2
        obtain ⟨r1, r2, r3, r4⟩ := hI.ref
        have hsz : told.size + (ByteArray.mk (markL.take st.held).toArray).size ≤ 1000 := by
          have hle := hI.le
          have e1 : told.size = told.data.toList.length := by rw [Array.length_toList]; rfl
          have e2 : all.size = all.data.toList.length := by rw [Array.length_toList]; rfl
          have e3 : (ByteArray.mk (markL.take st.held).toArray).size ≤ 3 := by simp [ByteArray.size, markL]; omega
          omega
        have hst : stripB all = told ++ ByteArray.mk (markL.take st.held).toArray := BA_ext (by rw [r4, BA_app])
        have r5 : (st.had == (wasB all == 1)) = true := by rw [r3]; cases st.had <;> rfl
        have HST := Lib.hid hst
        clear hst r1 r2 r3 r4
        have hB1 := below_of_grown hB hg (Nat.le_refl _)
        go_wp2_with fail
        refine (refStrip_any all _ (by unfold maxLen; omega)).mono ?_
        rintro e w2 ⟨rfl, hb2⟩
        have hS2 := hS1.below hb2 hS1.lt
        have hB2 := hB1.trans (hb2.mono hB1.size)
        rw [HST.out]
        clear hcv2
        go_wp2_with fail
        refine (stripped_any _ _ true _ hS2).mono ?_
        rintro e w3 ⟨rfl, rfl⟩
        go_wp2_with fail
        refine (held_any _ _ true _ hS2).mono ?_
        rintro e w3 ⟨rfl, rfl⟩
        go_wp2_with fail
        refine (close_any _ _ true _ hS2 (by simp)).mono ?_
        rintro e w3 ⟨v3, rfl, hO3, hg3, hS3⟩
        obtain ⟨A3, c3, rfl, _⟩ := hO3.form
        have hB3 := below_of_grown hB2 hg3 (Nat.le_refl _)
        have hcc := Lib.run_convert_bytes_const (P := Try.prog) w3 22 5 #[.int .u8 120] 1 1 Try.underlying22 Try.underlying5
        go_wp2_with fail
        refine (feed_closed _ _ _ _ _ _ (hS3.alloc _)).mono ?_
        rintro e w4 ⟨rfl, rfl⟩
        go_wp2_with fail
        refine (awake_any _).mono ?_
        rintro e w5 ⟨rfl, hb5⟩
        go_wp2
        have hB4 := hB3.alloc hB3.size (.cells #[.int .u8 120] 5 (1, 2))
        exact HR.out _ _ ⟨rfl, hB4.trans (hb5.mono hB4.size)⟩

theorem walk (v : Value) (w : World) (h : ∃ A n c l, v = .slice A n c ∧ RdRows w w.heap.size A n c l) :
    Calls Try.prog 4 #[v] w fun e w' => e = .returned (.bool true) ∧ Below w.heap.size w w' := by
  obtain ⟨A, n, c, l, rfl, hl⟩ := h
  exact walkR A n c l w hl

theorem opens {H : Type} {enc : TypeId × Value → H} {W : World} {spare : Nat → Bool} {held : Bool} {v : Value} {d : DataW H} {p : List MemPlace} {base : Nat}
    (hv : Value.okWide Try.prog W .any base 31 v) (h : DataW.Trod enc Try.prog W 0 spare held 31 v d p) (hsz : Sized Try.prog 31 d) : ∃ A n c l, v = .slice A n c ∧ RdRows W W.heap.size A n c l :=
  open_rows Try.underlying31 Try.underlying22 Try.underlying5 (by kernel_rfl) (by kernel_rfl) (of_decide_eq_true (by kernel_rfl)) (of_decide_eq_true (by kernel_rfl)) hv h hsz

theorem own : ownKnob Try.prog.godebug = none := by kernel_rfl
theorem laidOut : laidOutB Try.prog = true := by kernel_rfl

set_option maxRecDepth 100000 in
theorem lifted (os : Os) (started : os.Started) (H : Type) (enc : TypeId × Value → H) :
    ReturnsInHanded {} Try.checked os 4 .any (Rows.bomPiecesSpec.pre6 enc Try.prog Try.f4 Rows.bomPiecesRow.domain false) (Rows.bomPiecesSpec.post enc Try.prog Try.f4 false true false false) := by
  refine returnsInHanded_of_change_sized (C := Try.checked) own started (by kernel_rfl) Try.func4
    (ChangeSpec.witness6 (enc := enc) (C := Try.checked) false ⟨#[], #[.slice none 0 0], []⟩ 8 (by kernel_rfl) (by kernel_rfl) (by kernel_rfl) (by kernel_rfl)) ?_
  intro W base args ds gs before hval0 hW hcnd hsz0 _
  have hval : ∀ (j : Nat) t v, Try.f4.params[j]? = some t → args[j]? = some v → Value.okWide Try.prog W .any base t v := hval0
  have hW' := hW
  obtain ⟨p, q, hA0, hV, rfl, hfz, hnd⟩ := hW
  have hA : DataW.TrodAll enc Try.prog W 0 (fun _ => true) true Try.f4.params.toList args.toList ds p := hA0
  have hsz : (DataW.weightsEach Try.prog (Try.f4.params.toList ++ Rows.bomPiecesSpec.plain.varTypes Try.prog) (ds ++ gs)).all (· ≤ reachBytes) = true := hsz0
  rw [Try.params4] at hA hval hsz
  obtain ⟨v0, vs0, d0, ds0, p0, q0, hargs, rfl, rfl, h0, r0⟩ := trodAll_cons hA
  obtain ⟨rfl, rfl, rfl⟩ := trodAll_nil r0
  obtain rfl : args = #[v0] := by cases args; simp_all
  obtain ⟨rfl, rfl⟩ := trodVars_none hV
  have k0 := h0
  have lt0 : ∀ x ∈ p0, x.block < W.heap.size := by obtain ⟨m, hm⟩ := k0; exact DataW.trod_lt m _ _ _ hm
  have w0 := opens (hval 0 31 v0 rfl rfl) h0 (Sized.arg (j := 0) hsz rfl rfl)
  clear hA0 hval0
  refine (walk v0 W w0).mono fun e W' ⟨he, bel⟩ => ?_
  subst he
  exact ⟨_, rfl, _, _, _, [], _, [], hW', trodAll_mk1 (shut_bool Try.underlying4 _), (trodAll_cons_mk (Below.trod laidOut (by kernel_rfl) (of_decide_eq_true (by kernel_rfl)) k0 bel lt0) trodAll_mk0), rfl, bel.frame _, fun h => by cases h⟩

theorem over : Rows.bomPiecesRow.holds Try.pinned (OpenSpec.ofChange Rows.bomPiecesSpec) :=
  OpenClaim.holds_of_wide 4 Try.f4 rfl rfl rfl rfl rfl rfl rfl ⟨rfl, rfl, rfl, rfl, rfl⟩ rfl rfl rfl rfl rfl (by kernel_rfl) Try.func4 (by kernel_rfl)
    (of_decide_eq_true (by kernel_rfl)) (by unfold Func.isWrapper; first | (rw [if_pos (by decide +kernel)]; kernel_rfl) | (rw [if_neg (by decide +kernel)]; exact ⟨rfl, rfl⟩))
    (fun os started H enc _ => lifted os started H enc)

theorem proved : Rows.BomPiecesSaid := over
#print axioms proved
end Go.Proofs.Ytlcglijkpbojgaa.bomPieces

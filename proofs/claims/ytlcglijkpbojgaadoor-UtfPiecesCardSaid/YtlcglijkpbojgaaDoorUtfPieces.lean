/- In two pieces a text is told as at once. -/
import Derived.Test.YtlcglijkpbojgaaDoorUtfW
import Derived.Test.YtlcglijkpbojgaaDoorCards
import Derived.Test.YtlcglijkpbojgaaDoorTie
import Derived.SizedLaws
import Derived.ProofKit
import Derived.OpenShut
import Derived.ShutString
import Derived.ChangeOld
import Derived.Below
import Derived.Deep.DeepHandedRow
import Derived.Deep.DeepWitnessRowRef
namespace Go.Proofs.YtlcglijkpbojgaaDoor.utfPieces
open Go.ChangeShapes Go.WideShapes Go.ChangeAt Go.RowKit
open Go.ChangeMaps (open_string shut_string)
set_option linter.unusedVariables false
set_option linter.unusedSimpArgs false

theorem walk (s : ByteArray) (hs : s.size ≤ 140737488351232) (c : Int) (hc : (Lit.int .u8 c).wf = true) (w : World) (hT : Tab w) :
    Calls Tryd.prog 6 #[.string s, .int .u8 c] w fun e w' => e = .returned (.bool true) ∧ Below w.heap.size w w' := by
  refine cps fun R HR => ?_
  have hs' : s.size ≤ maxLen := by unfold maxLen; omega
  simp [Lit.wf, IntKind.min, IntKind.max, IntKind.signed, IntKind.bits] at hc
  obtain ⟨c, rfl⟩ := Int.eq_ofNat_of_zero_le hc.1
  have hz : s.size = s.data.toList.length := by rw [Array.length_toList]; rfl
  go_enter Tryd.func6, Tryd.ntmps6
  by_cases h2 : 200 < s.size
  · have HZ := Lib.hid hz; clear hz
    go_wp2_with fail
    refine (awake_any _ hT).mono ?_
    rintro e w1 ⟨rfl, b1⟩
    go_wp2
    exact HR.out _ _ ⟨rfl, b1⟩
  · obtain ⟨k, hk⟩ : ∃ k, k = c % (s.size + 1) := ⟨_, rfl⟩
    have hks : k ≤ s.size := by have := Nat.mod_lt c (y := s.size + 1) (by omega); omega
    have hkI : ((c : Int) % ((s.size : Int) + 1)) = (k : Int) := by rw [hk, Int.natCast_emod, Int.natCast_add]; rfl
    have HS := Lib.hid hs'; clear hs' hs
    have hcut : s.data.toList = (s.extract 0 k).data.toList ++ (s.extract k s.size).data.toList := by
      rw [ext_list, ext_list, List.drop_zero, Nat.sub_zero, hz, List.take_of_length_le (l := List.drop _ _) (by rw [List.length_drop]; omega), List.take_append_drop]
    have hl1 : (s.extract 0 k).data.toList.length = k := by rw [ext_list]; simp; omega
    have hsa : (s.extract 0 k).size ≤ maxLen := by have := HS.out; rw [ByteArray.size_extract]; omega
    have hsb : (s.extract k s.size).size ≤ maxLen := by have := HS.out; rw [ByteArray.size_extract]; omega
    have hm1 : (runF 0 (s.extract 0 k).data.toList).2 ≤ k := by have := runF_le (s.extract 0 k).data.toList 0; omega
    have hr8 : (runF 0 (s.extract 0 k).data.toList).1 < 8 := runF_lt _ 0 (by omega)
    have ALL := Lib.hid hcut; have L1 := Lib.hid hl1; have HK := Lib.hid hk; have HZ := Lib.hid hz
    have SA := Lib.hid hsa; have SB := Lib.hid hsb
    clear hcut hl1 hk hz hsa hsb
    have hk2 : k ≤ 200 := by omega
    go_wp2_with fail
    refine (run_any 0 s _ (by omega) HS.out hT).mono ?_
    rintro e w1 ⟨rfl, b1⟩
    obtain ⟨q, hq⟩ : ∃ q, q = runF 0 s.data.toList := ⟨_, rfl⟩
    rw [← hq]
    have HQ := Lib.hid hq; clear hq
    go_wp2_with fail
    refine (run_any 0 (s.extract 0 k) _ (by omega) SA.out (hT.below b1)).mono ?_
    rintro e w2 ⟨rfl, b2⟩
    have b12 := b1.trans (b2.mono b1.size)
    obtain ⟨p, hp⟩ : ∃ p, p = runF 0 (s.extract 0 k).data.toList := ⟨_, rfl⟩
    rw [← hp] at hm1 hr8 ⊢
    have HP := Lib.hid hp; clear hp
    by_cases hlt : p.2 < k
    · have hqp : q = p := by
        rw [HQ.out, HP.out, ALL.out]
        refine run_short _ _ _ ?_
        rw [← HP.out, L1.out]
        exact hlt
      subst hqp
      go_wp2_with fail
      refine (awake_any _ (hT.below b12)).mono ?_
      rintro e w3 ⟨rfl, b3⟩
      go_wp2
      exact HR.out _ _ ⟨rfl, b12.trans (b3.mono b12.size)⟩
    · have hpk : p.2 = k := by omega
      have hqq : q = ((runF p.1 (s.extract k s.size).data.toList).1, (runF p.1 (s.extract k s.size).data.toList).2 + k) := by
        rw [HQ.out, HP.out, ALL.out, run_full _ _ _ (by rw [← HP.out, L1.out]; exact hpk), L1.out]
      have HQQ := Lib.hid hqq; clear hqq
      have hml := runF_le (s.extract k s.size).data.toList p.1
      have hm2 : (runF p.1 (s.extract k s.size).data.toList).2 ≤ 200 := by
        rw [ext_list] at hml ⊢
        have hz' := HZ.out
        simp at hml ⊢
        omega
      clear hml
      go_wp2_with fail
      refine (run_any p.1 (s.extract k s.size) _ hr8 SB.out (hT.below b12)).mono ?_
      rintro e w3 ⟨rfl, b3⟩
      have b13 := b12.trans (b3.mono b12.size)
      obtain ⟨r, hr⟩ : ∃ r, r = runF p.1 (s.extract k s.size).data.toList := ⟨_, rfl⟩
      have h1 : q.1 = r.1 := by rw [HQQ.out, hr]
      have h2 : q.2 = r.2 + k := by rw [HQQ.out, hr]
      rw [← hr] at hm2 ⊢
      clear hr
      obtain ⟨q1, q2⟩ := q
      obtain ⟨r1, r2⟩ := r
      simp only at h1 h2 hm2
      subst h1
      subst h2
      go_wp2_with fail
      refine (awake_any _ (hT.below b13)).mono ?_
      rintro e w4 ⟨rfl, b4⟩
      go_wp2
      exact HR.out _ _ ⟨rfl, b13.trans (b4.mono b13.size)⟩

theorem own : ownKnob Tryd.prog.godebug = none := by kernel_rfl
theorem laidOut : laidOutB Tryd.prog = true := by kernel_rfl
theorem reads (os : Os) {H : Type} (enc : TypeId × Value → H) : ∃ places, DataW.whole enc Tryd.prog ((laidWorld os).forCall (fun _ _ => 0) ⟨#[], #[.string ByteArray.empty, .int .u8 0], []⟩).memory Tryd.f6.params.toList Rows.utfPiecesSpec.vars false #[.string ByteArray.empty, .int .u8 0].toList 8 = some ([.lit (.string []), .lit (.int .u8 0)], [], places) :=
  ⟨[], by kernel_rfl⟩

theorem contract (H : Type) (enc : TypeId × Value → H) (W : World) (base : Nat) (args : Array Value) (ds gs : List (DataW H)) (before : List MemPlace)
    (hval0 : ∀ (j : Nat) t v, Tryd.f6.params[j]? = some t → args[j]? = some v → Value.okWide Tryd.prog W .any base t v)
    (hW : DataW.Whole enc Tryd.prog Tryd.f6.params.toList Rows.utfPiecesSpec.vars false W args.toList ds gs before)
    (hsz0 : (DataW.weightsEach Tryd.prog (Tryd.f6.params.toList ++ Rows.utfPiecesSpec.plain.varTypes Tryd.prog) (ds ++ gs)).all (· ≤ reachBytes) = true)
    (hL : laidMetH Tryd.prog Rows.utfPiecesRow.laid W) :
    Calls Tryd.prog 6 args W fun e W' => ∃ v, e = .returned v ∧ Rows.utfPiecesSpec.post enc Tryd.prog Tryd.f6 false true false false W args v W' := by
  have hval : ∀ (j : Nat) t v, Tryd.f6.params[j]? = some t → args[j]? = some v → Value.okWide Tryd.prog W .any base t v := hval0
  have hW' := hW
  obtain ⟨p, q, hA0, hV, rfl, hfz, hnd⟩ := hW
  have hA : DataW.TrodAll enc Tryd.prog W 0 (fun _ => true) true Tryd.f6.params.toList args.toList ds p := hA0
  have hsz : (DataW.weightsEach Tryd.prog (Tryd.f6.params.toList ++ Rows.utfPiecesSpec.plain.varTypes Tryd.prog) (ds ++ gs)).all (· ≤ reachBytes) = true := hsz0
  rw [Tryd.params6] at hA hval hsz
  obtain ⟨v0, vs0, d0, ds0, p0, q0, hargs, rfl, rfl, h0, r0⟩ := trodAll_cons hA
  obtain ⟨v1, vs1, d1, ds1, p1, q1, rfl, rfl, rfl, h1, r1⟩ := trodAll_cons r0
  obtain ⟨rfl, rfl, rfl⟩ := trodAll_nil r1
  obtain rfl : args = #[v0, v1] := by cases args; simp_all
  obtain ⟨rfl, rfl⟩ := trodVars_none hV
  have k0 := h0
  have lt0 : ∀ x ∈ p0, x.block < W.heap.size := by obtain ⟨m, hm⟩ := k0; exact DataW.trod_lt m _ _ _ hm
  obtain ⟨a0, rfl, rfl, _, _⟩ := open_string Tryd.underlying9 (hval 0 9 v0 rfl rfl) h0
  have w0 : a0.size ≤ 140737488351232 := (Sized.arg (j := 0) hsz rfl rfl).str
  have k1 := h1
  have lt1 : ∀ x ∈ p1, x.block < W.heap.size := by obtain ⟨m, hm⟩ := k1; exact DataW.trod_lt m _ _ _ hm
  obtain ⟨a1, rfl, _, _, w1⟩ := open_int Tryd.underlying5 (hval 1 5 v1 rfl rfl) h1
  clear hA0 hval0
  refine (walk a0 w0 a1 w1 W (tab_row hL)).mono fun e W' ⟨he, bel⟩ => ?_
  subst he
  exact ⟨_, rfl, _, _, _, [], _, [], hW', trodAll_mk1 (shut_bool Tryd.underlying4 _), (trodAll_cons_mk (Below.trod laidOut (by kernel_rfl) (of_decide_eq_true (by kernel_rfl)) k0 bel lt0) (trodAll_cons_mk (Below.trod laidOut (by kernel_rfl) (of_decide_eq_true (by kernel_rfl)) k1 bel lt1) trodAll_mk0)), rfl, bel.frame _, fun h => by cases h⟩

set_option maxRecDepth 100000 in
theorem lifted (os : Os) (started : os.Started) (H : Type) (enc : TypeId × Value → H) (F : Stop.Interp) :
    ReturnsInHanded {} Tryd.checked os 6 .any ((OpenSpec.ofChange Rows.utfPiecesSpec).preRow enc Tryd.prog Tryd.f6 Rows.utfPiecesRow.domain false Rows.utfPiecesRow.laid) (((OpenSpec.ofChange Rows.utfPiecesSpec).at F).post enc Tryd.prog Tryd.f6 false true false false) := by
  obtain ⟨places, hx⟩ := reads os enc
  refine returnsInHanded_of_row (C := Tryd.checked) (s := OpenSpec.ofChange Rows.utfPiecesSpec) own started (by kernel_rfl) Tryd.func6
    (witness_row_atRef (enc := enc) (C := Tryd.checked) false (laidWorld os) #[.string ByteArray.empty, .int .u8 0] rfl (by kernel_rfl) (by kernel_rfl) (by kernel_rfl)
      (OpenSpec.preRow_of_cond 8 hx (by kernel_rfl) (fun k hk => by cases hk) (by kernel_rfl) (laid_met os _))) ?_
  intro W base args ds gs before hval hW _ _ hsz hL _ _
  exact contract H enc W base args ds gs before hval hW hsz hL

theorem said : Rows.UtfPiecesSaid :=
  OpenClaim.holds_of_cond 6 Tryd.f6 rfl rfl rfl rfl rfl rfl rfl ⟨rfl, rfl, rfl, rfl, rfl⟩ rfl rfl rfl rfl rfl (by kernel_rfl) Tryd.func6 (by kernel_rfl)
    (of_decide_eq_true (by kernel_rfl)) (by unfold Func.isWrapper; first | (rw [if_pos (by decide +kernel)]; kernel_rfl) | (rw [if_neg (by decide +kernel)]; exact ⟨rfl, rfl⟩))
    (fun os started H enc _ F => by rw [OpenClaim.pre_eq_preRow]; exact lifted os started H enc F)

theorem plain (f : FuncId) (fn : Func) (hf : Tryd.pinned.checked.prog.funcNamed "quillpen/quillpenlaw02.UtfPieces" = some f) (hfn : Tryd.pinned.checked.prog.funcs[f]? = some fn) :
    false = Tryd.pinned.checked.prog.looks [] ∧ ∀ (j : Nat) t, fn.params[j]? = some t → Tryd.pinned.checked.prog.wantsStandIn t = false := by
  obtain rfl : f = 6 := Option.some.inj ((show Tryd.prog.funcNamed "quillpen/quillpenlaw02.UtfPieces" = some 6 by kernel_rfl).symm.trans hf) |>.symm
  obtain rfl : fn = Tryd.f6 := (Option.some.inj (Tryd.func6.symm.trans hfn)).symm
  refine ⟨by kernel_rfl, fun j t ht => ?_⟩
  rw [Tryd.params6] at ht
  have hm := Array.mem_of_getElem? ht
  have hall : (#[9, 5] : Array TypeId).toList.all (fun t => Tryd.prog.wantsStandIn t == false) = true := by kernel_rfl
  exact eq_of_beq (List.all_eq_true.1 hall t (by simpa using hm))

theorem proved : Rows.UtfPiecesCardSaid :=
  Claim7.holds_tied_plain_at .later [] _ _ _ _ said (fun _ h => by cases h) (by kernel_rfl) (fun _ h => by cases h) utfPieces_row_tie rfl ⟨rfl, rfl⟩ (by kernel_rfl) rfl plain (by kernel_rfl)
end Go.Proofs.YtlcglijkpbojgaaDoor.utfPieces

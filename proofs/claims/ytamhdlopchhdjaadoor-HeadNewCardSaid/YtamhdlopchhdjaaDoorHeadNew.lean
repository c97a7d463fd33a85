/- Whether any names are a head, or which may not be, and why, is what the document says; its names are these, and its own. The table of UTF-8 is laid as the text lays it; the card ties it. -/
import Derived.Test.YtamhdlopchhdjaaDoorHeadF
import Derived.Test.YtamhdlopchhdjaaDoorCards
import Derived.Test.YtamhdlopchhdjaaDoorTie
import Derived.SizedLaws
import Derived.ProofKit
import Derived.OpenShut
import Derived.ShutString
import Derived.ChangeOld
import Derived.Below
import Derived.Deep.DeepHandedRow
import Derived.Deep.DeepWitnessRowRef
namespace Go.Proofs.YtamhdlopchhdjaaDoor.headNew
open Go.ChangeShapes Go.WideShapes Go.ChangeAt Go.RowKit
open Go.ChangeMaps (open_string shut_string)
set_option linter.unusedVariables false
set_option linter.unusedSimpArgs false

theorem spoilt_sz : (⟨#[115, 112, 111, 105, 108, 116]⟩ : ByteArray).size ≤ 100000 := by decide
set_option maxHeartbeats 2000000 in
theorem walk (v : Value) (W : World) (hT : Tab W) (h0 : ∃ l, RdS W W.heap.size v l) :
    Calls Tryd.prog 3 #[v] W fun e w' => e = .returned (.bool true) ∧ Below W.heap.size W w' := by
  refine cps fun R HR => ?_
  obtain ⟨l, h⟩ := h0
  obtain ⟨i0, hi0, hz0, hz1, hz2⟩ := info_parts str_info
  have h0 := h
  obtain ⟨A, c, rfl, -⟩ := h.is
  have hfew := h.few
  clear h
  have HT := Lib.hid hT
  clear hT
  go_enter Tryd.func3, Tryd.ntmps3
  go_wp2_with fail
  refine (few15_any _ l _ h0).mono ?_
  rintro e w1 ⟨⟨g, rfl, hg⟩, b1⟩
  cases g
  · clear hg
    go_wp2_with fail
    refine (awake15_any _ (HT.out.below b1)).mono ?_
    rintro e w9 ⟨rfl, b9⟩
    go_wp2
    exact HR.out _ _ ⟨rfl, b1.trans (b9.mono b1.size)⟩
  · obtain ⟨q1, q2⟩ := hg rfl
    have Q1 := Lib.hid q1; have Q2 := Lib.hid q2
    clear hg q1 q2
    have hl30 : l.length ≤ 30 := Q1.out
    have hr1 := h0.next b1
    obtain ⟨A', c', e1, hsl⟩ := hr1.is
    injection e1 with eA _ ec
    subst eA
    subst ec
    go_wp2_with (at_builtin; refine wpList_append_Own _ rfl _ _ _ rfl w1.heap.size 9 i0 _ 1 16 Tryd.underlying22 hi0 hz0 hz1 hz2 rfl (by omega) (by omega) (.slice none 0 0) 0 [] rfl (Own.nil_ _ _ _ _) w1.heap.size A l.length c (strV l) rfl hsl (strV_one l) (by simp only [maxLen]; omega) (by omega) (by simp) ?_; intro v2 w2 hown2 hg2 hat2)
    have ho2 : Own w2 w1.heap.size 9 1 v2 l.length (strV l) := by simpa using hown2
    have b2 : Below w1.heap.size w1 w2 := below_grown (Below.refl w1.heap.size w1) hg2 (fun g hg => by simp [Value.ownBlock] at hg) (Nat.le_refl _)
    have bw2 := b1.trans (b2.mono b1.size)
    obtain ⟨A2, c2, rfl, -⟩ := ho2.form
    clear hown2 hg2 hat2 hsl
    have hle : w1.heap.size ≤ w2.heap.size := b2.size
    have hle1 : W.heap.size ≤ w1.heap.size := b1.size
    go_wp2_with fail
    refine (new_any _ l _ (RdS.of_own ho2) (by omega) (fun s hs => by have := le_bytesR hs; have := Q2.out; omega) ((HT.out.below bw2))).mono ?_
    rintro e w3 ⟨u, rfl, hu, hun, b3⟩
    have bw3 := bw2.trans (b3.mono bw2.size)
    have ho3 := ho2.below b3 (Nat.le_refl _)
    go_wp2_with fail
    refine (refNew_any _ l _ (h0.next bw3) (fun s hs => by have := le_bytesR hs; have := Q2.out; omega)).mono ?_
    rintro e w4 ⟨rfl, b4⟩
    have bw4 := bw3.trans (b4.mono bw3.size)
    have ho4 := ho3.below b4 (Nat.le_refl _)
    obtain ⟨yn, hyn⟩ : ∃ yn, yn = (newC l).1 := ⟨_, rfl⟩
    obtain ⟨ye, hye⟩ : ∃ ye, ye = (newC l).2 := ⟨_, rfl⟩
    rw [← hyn, ← hye]
    rw [← hye] at hu hun
    clear hyn hye
    have dn : ((yn : Int) != (yn : Int)) = false := by simp
    by_cases hz : ye = 0
    · subst hz
      have hu3 := hu rfl
      have hu4 := hu3.keep b4
      obtain ⟨gh, bh, vh, rfl, hgh, -⟩ := hu4.is
      have hpos := hu4.pos
      obtain ⟨go, co, hvo, hgo1, hgo2, hob⟩ := ho2.head hpos
      injection hvo with hA _ hcc
      subst hA
      subst hcc
      clear hu hun hu3 ho2 ho3 hob
      go_wp2
      go_loopw [50] (fun i wr => ∃ (k : Nat) (row : Row), k ≤ l.length ∧ i = .int .i64 k ∧ row.length = l.length ∧ Own wr w1.heap.size 9 1 (.slice (some ⟨go, 0, none⟩) l.length c2) l.length (strV row) ∧ HeadAt wr w2.heap.size (.pointer (some ⟨gh, 0, none⟩)) l ∧ Below W.heap.size W wr) (fun i _ => l.length - (intOf i).toNat)
      case atStart => exact ⟨0, l, Nat.zero_le _, rfl, rfl, ho4, hu4, bw4⟩
      case round =>
        obtain ⟨k, row, hk, rfl, hrl, hO, hH, hB⟩ := hrel
        by_cases hlt : k < l.length
        · have hfz := hO.thaw (k := k) (by omega)
          obtain ⟨x, hx⟩ : ∃ x, (strV row)[k]? = some x := ⟨_, List.getElem?_eq_getElem (by rw [strV_len]; omega)⟩
          have hcx : wr.cell? ⟨go, k, none⟩ = some x := by have := hO.sl.cell _ k _ rfl hx; rw [head_add] at this; exact this
          have ho5 := hO.put (k := k) (by omega) (.string ⟨#[115, 112, 111, 105, 108, 116]⟩)
          have he : (strV row).set k (.string ⟨#[115, 112, 111, 105, 108, 116]⟩) = strV (row.set k ⟨#[115, 112, 111, 105, 108, 116]⟩) := by unfold strV; rw [List.map_set]
          rw [he] at ho5
          have hh5 : HeadAt (wr.setCell ⟨go, k, none⟩ (.string ⟨#[115, 112, 111, 105, 108, 116]⟩)) w2.heap.size (.pointer (some ⟨gh, 0, none⟩)) l := hH.agree fun g h1 _ => by
            simp [World.setCell, Array.getElem?_modify]
            intro e
            omega
          have hb5 : Below W.heap.size W (wr.setCell ⟨go, k, none⟩ (.string ⟨#[115, 112, 111, 105, 108, 116]⟩)) := hB.setCell (by simp; omega) _
          have HO5 := Lib.hid ho5; have HH5 := Lib.hid hh5; have HB5 := Lib.hid hb5; have HRL := Lib.hid hrl
          have dk : decide ((k : Int) < l.length) = true := decide_eq_true (by omega)
          clear ho5 hh5 hb5 hrl he hx
          go_wp2
          exact ⟨⟨k + 1, row.set k ⟨#[115, 112, 111, 105, 108, 116]⟩, by omega, by go_num, by rw [List.length_set]; exact HRL.out, HO5.out, HH5.out, HB5.out⟩, by simp [intOf]; omega⟩
        · clear hrl hO
          go_wp2_with fail
          refine (names_any _ l _ hH (by omega)).mono ?_
          rintro e w5 ⟨t, rfl, ht5, b5⟩
          have bw5 := hB.trans (b5.mono hB.size)
          obtain ⟨gt, ct, rfl, hgt1, hgt2, -⟩ := ht5.head hpos
          have hsz0 : ∀ s ∈ l, s.size ≤ 1000 + 0 := fun s hs => by have := le_bytesR hs; have := Q2.out; omega
          obtain ⟨wb, hwb⟩ : ∃ wb : World, wb = wr := ⟨_, rfl⟩
          rw [← hwb] at hH ht5 b5 hgt1 hB
          have hh5 := hH.keep b5
          have HSZ0 := Lib.hid hsz0
          have hB5 : wb.heap.size ≤ w5.heap.size := b5.size
          clear hwb hsz0
          go_wp2
          go_loopw [61] (fun i wr => ∃ (k : Nat) (row : Row), k ≤ l.length ∧ i = .int .i64 k ∧ row.length = l.length ∧ (∀ s ∈ row, s.size ≤ 1000 + k) ∧ Own wr wb.heap.size 9 1 (.slice (some ⟨gt, 0, none⟩) l.length ct) l.length (strV row) ∧ Below wb.heap.size wb wr) (fun i _ => l.length - (intOf i).toNat)
          case atStart => exact ⟨0, l, Nat.zero_le _, rfl, rfl, HSZ0.out, ht5, b5⟩
          case round =>
            obtain ⟨k, row, hk, rfl, hrl, hsz, hO, hB6⟩ := hrel
            by_cases hlt2 : k < l.length
            · have hfz := hO.thaw (k := k) (by omega)
              have hkr : k < row.length := by omega
              obtain ⟨x, hx⟩ : ∃ x, x = row[k] := ⟨_, rfl⟩
              have hxs : (strV row)[k]? = some (.string x) := by unfold strV; rw [List.getElem?_map, List.getElem?_eq_getElem hkr, hx]; rfl
              have hxz : x.size ≤ 1000 + k := by rw [hx]; exact hsz _ (List.getElem_mem hkr)
              have hcx : wr.cell? ⟨gt, k, none⟩ = some (.string x) := by have := hO.sl.cell _ k _ rfl hxs; rw [head_add] at this; exact this
              obtain ⟨y, hy⟩ : ∃ y, y = x ++ (⟨#[120]⟩ : ByteArray) := ⟨_, rfl⟩
              have hyz : y.size ≤ 1000 + (k + 1) := by rw [hy, ByteArray.size_append]; show x.size + 1 ≤ _; omega
              have ho6 := hO.put (k := k) (by omega) (.string y)
              have he : (strV row).set k (.string y) = strV (row.set k y) := by unfold strV; rw [List.map_set]
              rw [he] at ho6
              have hb6 : Below wb.heap.size wb (wr.setCell ⟨gt, k, none⟩ (.string y)) := hB6.setCell (by simp; omega) _
              have hall : ∀ s ∈ row.set k y, s.size ≤ 1000 + (k + 1) := fun s hs => by
                rcases List.mem_or_eq_of_mem_set hs with h | h
                · have := hsz s h; omega
                · rw [h]; exact hyz
              rw [hy] at ho6 hb6 hall
              have HO6 := Lib.hid ho6; have HB6 := Lib.hid hb6; have HRL := Lib.hid hrl; have HALL := Lib.hid hall
              have dk : decide ((k : Int) < l.length) = true := decide_eq_true (by omega)
              have hm2 : x.size + 1 ≤ maxLen := by unfold maxLen; omega
              clear ho6 hb6 hrl hall he hy hyz hx hxs hsz
              go_wp2
              exact ⟨⟨k + 1, row.set k (x ++ ⟨#[120]⟩), by omega, by go_num, by rw [List.length_set]; exact HRL.out, HALL.out, HO6.out, HB6.out⟩, by simp [intOf]; omega⟩
            · clear hsz hrl hO
              have hh6 := hH.keep hB6
              have bw6 := hB.trans (hB6.mono hB.size)
              have S1 := Lib.hid (show sameS l l = true from decide_eq_true rfl)
              go_wp2_with fail
              refine (names_any _ l _ hh6 (by omega)).mono ?_
              rintro e w7 ⟨t7, rfl, ht7, b7⟩
              have bw7 := bw6.trans (b7.mono bw6.size)
              have hh7 := hh6.keep b7
              go_wp2_with fail
              refine (same_any _ _ l l _ (RdS.of_own ht7) (h0.next bw7)).mono ?_
              rintro e w8 ⟨rfl, b8⟩
              rw [S1.out]
              have bw8 := bw7.trans (b8.mono bw7.size)
              go_wp2_with fail
              refine (hlen_any _ l _ (hh7.keep b8)).mono ?_
              rintro e w9 ⟨rfl, rfl⟩
              go_wp2_with fail
              refine (awake15_any _ (HT.out.below bw8)).mono ?_
              rintro e w10 ⟨rfl, b10⟩
              go_wp2
              exact HR.out _ _ ⟨rfl, bw8.trans (b10.mono bw8.size)⟩
    · have hz2 := hun hz
      subst hz2
      have d2 : ((ye : Int) != 0) = true := by rw [bne_iff_ne]; omega
      have d3 : ((ye : Int) != (ye : Int)) = false := by simp
      clear hu hun hz
      go_wp2_with fail
      refine (awake15_any _ (HT.out.below bw4)).mono ?_
      rintro e w9 ⟨rfl, b9⟩
      go_wp2
      exact HR.out _ _ ⟨rfl, bw4.trans (b9.mono bw4.size)⟩

theorem own : ownKnob Tryd.prog.godebug = none := by kernel_rfl
theorem laidOut : laidOutB Tryd.prog = true := by kernel_rfl
theorem reads (os : Os) {H : Type} (enc : TypeId × Value → H) : ∃ places, DataW.whole enc Tryd.prog ((laidWorld os).forCall (fun _ _ => 0) ⟨#[], #[.slice none 0 0], []⟩).memory Tryd.f3.params.toList Rows.headNewSpec.vars false #[.slice none 0 0].toList 8 = some ([.nil], [], places) :=
  ⟨[], by kernel_rfl⟩

theorem contract (H : Type) (enc : TypeId × Value → H) (W : World) (base : Nat) (args : Array Value) (ds gs : List (DataW H)) (before : List MemPlace)
    (hval0 : ∀ (j : Nat) t v, Tryd.f3.params[j]? = some t → args[j]? = some v → Value.okWide Tryd.prog W .any base t v)
    (hW : DataW.Whole enc Tryd.prog Tryd.f3.params.toList Rows.headNewSpec.vars false W args.toList ds gs before)
    (hsz0 : (DataW.weightsEach Tryd.prog (Tryd.f3.params.toList ++ Rows.headNewSpec.plain.varTypes Tryd.prog) (ds ++ gs)).all (· ≤ reachBytes) = true)
    (hL : laidMetH Tryd.prog Rows.headNewRow.laid W) :
    Calls Tryd.prog 3 args W fun e W' => ∃ v, e = .returned v ∧ Rows.headNewSpec.post enc Tryd.prog Tryd.f3 false true false false W args v W' := by
  have hval : ∀ (j : Nat) t v, Tryd.f3.params[j]? = some t → args[j]? = some v → Value.okWide Tryd.prog W .any base t v := hval0
  have hW' := hW
  obtain ⟨p, q, hA0, hV, rfl, hfz, hnd⟩ := hW
  have hA : DataW.TrodAll enc Tryd.prog W 0 (fun _ => true) true Tryd.f3.params.toList args.toList ds p := hA0
  have hsz : (DataW.weightsEach Tryd.prog (Tryd.f3.params.toList ++ Rows.headNewSpec.plain.varTypes Tryd.prog) (ds ++ gs)).all (· ≤ reachBytes) = true := hsz0
  rw [Tryd.params3] at hA hval hsz
  obtain ⟨v0, vs0, d0, ds0, p0, q0, hargs, rfl, rfl, h0, r0⟩ := trodAll_cons hA
  obtain ⟨rfl, rfl, rfl⟩ := trodAll_nil r0
  obtain rfl : args = #[v0] := by cases args; simp_all
  obtain ⟨rfl, rfl⟩ := trodVars_none hV
  have k0 := h0
  have lt0 : ∀ x ∈ p0, x.block < W.heap.size := by obtain ⟨m, hm⟩ := k0; exact DataW.trod_lt m _ _ _ hm
  have w0 := open_strsV (hval 0 22 v0 rfl rfl) h0 (Sized.arg (j := 0) hsz rfl rfl)
  clear hA0 hval0
  refine (walk v0 W (tab_row hL) w0).mono fun e W' ⟨he, bel⟩ => ?_
  subst he
  exact ⟨_, rfl, _, _, _, [], _, [], hW', trodAll_mk1 (shut_bool Tryd.underlying4 _), (trodAll_cons_mk (Below.trod laidOut (by kernel_rfl) (of_decide_eq_true (by kernel_rfl)) k0 bel lt0) trodAll_mk0), rfl, bel.frame _, fun h => by cases h⟩

set_option maxRecDepth 100000 in
theorem lifted (os : Os) (started : os.Started) (H : Type) (enc : TypeId × Value → H) (F : Stop.Interp) :
    ReturnsInHanded {} Tryd.checked os 3 .any ((OpenSpec.ofChange Rows.headNewSpec).preRow enc Tryd.prog Tryd.f3 Rows.headNewRow.domain false Rows.headNewRow.laid) (((OpenSpec.ofChange Rows.headNewSpec).at F).post enc Tryd.prog Tryd.f3 false true false false) := by
  obtain ⟨places, hx⟩ := reads os enc
  refine returnsInHanded_of_row (C := Tryd.checked) (s := OpenSpec.ofChange Rows.headNewSpec) own started (by kernel_rfl) Tryd.func3
    (witness_row_atRef (enc := enc) (C := Tryd.checked) false (laidWorld os) #[.slice none 0 0] rfl (by kernel_rfl) (by kernel_rfl) (by kernel_rfl)
      (OpenSpec.preRow_of_cond 8 hx (by kernel_rfl) (fun k hk => by cases hk) (by kernel_rfl) (laid_met os _))) ?_
  intro W base args ds gs before hval hW _ _ hsz hL _ _
  exact contract H enc W base args ds gs before hval hW hsz hL

theorem said : Rows.HeadNewSaid :=
  OpenClaim.holds_of_cond 3 Tryd.f3 rfl rfl rfl rfl rfl rfl rfl ⟨rfl, rfl, rfl, rfl, rfl⟩ rfl rfl rfl rfl rfl (by kernel_rfl) Tryd.func3 (by kernel_rfl)
    (of_decide_eq_true (by kernel_rfl)) (by unfold Func.isWrapper; first | (rw [if_pos (by decide +kernel)]; kernel_rfl) | (rw [if_neg (by decide +kernel)]; exact ⟨rfl, rfl⟩))
    (fun os started H enc _ F => by rw [OpenClaim.pre_eq_preRow]; exact lifted os started H enc F)

theorem plain (f : FuncId) (fn : Func) (hf : Tryd.pinned.checked.prog.funcNamed "quillpen/quillpenlaw15.HeadNew" = some f) (hfn : Tryd.pinned.checked.prog.funcs[f]? = some fn) :
    false = Tryd.pinned.checked.prog.looks [] ∧ ∀ (j : Nat) t, fn.params[j]? = some t → Tryd.pinned.checked.prog.wantsStandIn t = false := by
  obtain rfl : f = 3 := Option.some.inj ((show Tryd.prog.funcNamed "quillpen/quillpenlaw15.HeadNew" = some 3 by kernel_rfl).symm.trans hf) |>.symm
  obtain rfl : fn = Tryd.f3 := (Option.some.inj (Tryd.func3.symm.trans hfn)).symm
  refine ⟨by kernel_rfl, fun j t ht => ?_⟩
  rw [Tryd.params3] at ht
  have hm := Array.mem_of_getElem? ht
  have hall : (#[22] : Array TypeId).toList.all (fun t => Tryd.prog.wantsStandIn t == false) = true := by kernel_rfl
  exact eq_of_beq (List.all_eq_true.1 hall t (by simpa using hm))

theorem proved : Rows.HeadNewCardSaid :=
  Claim7.holds_tied_plain_at .later [] _ _ _ _ said (fun _ h => by cases h) (by kernel_rfl) (fun _ h => by cases h) headNew_row_tie rfl ⟨rfl, rfl⟩ (by kernel_rfl) rfl plain (by kernel_rfl)
end Go.Proofs.YtamhdlopchhdjaaDoor.headNew

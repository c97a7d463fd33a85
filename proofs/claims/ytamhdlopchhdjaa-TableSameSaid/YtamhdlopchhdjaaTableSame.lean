/- Any two tables are alike, or not; a copy shares nothing. -/
import Derived.Test.YtamhdlopchhdjaaTabV
import Derived.SizedLaws
import Derived.ProofKit
import Derived.OpenShut
import Derived.ShutString
import Derived.ChangeOld
import Derived.Below
namespace Go.Proofs.Ytamhdlopchhdjaa.tableSame
open Go.ChangeShapes Go.WideShapes Go.ChangeAt Go.RowKit
open Go.ChangeMaps (open_string shut_string)
set_option linter.unusedVariables false
set_option linter.unusedSimpArgs false

set_option maxHeartbeats 2000000 in
theorem walk (v1 v2 : Value) (w : World) (h1 : ∃ t, RdT w w.heap.size v1 t) (h2 : ∃ t, RdT w w.heap.size v2 t) :
    Calls Try.prog 7 #[v1, v2] w fun e w' => e = .returned (.bool true) ∧ Below w.heap.size w w' := by
  refine cps fun R HR => ?_
  obtain ⟨a, h1⟩ := h1
  obtain ⟨b, h2⟩ := h2
  go_enter Try.func7, Try.ntmps7
  go_wp2_with fail
  refine (greatLaw_any v1 a _ h1).mono ?_
  rintro e w1 ⟨⟨g, rfl, hg⟩, rfl⟩
  cases g
  · have hgg := Lib.hid (hg rfl)
    clear hg
    go_wp2_with fail
    refine (greatLaw_any v2 b _ h2).mono ?_
    rintro e w2 ⟨⟨g, rfl, hg2⟩, rfl⟩
    clear hg2
    cases g
    · obtain ⟨q1, q2, q3⟩ := hgg.out
      clear hgg
      have Q1 := Lib.hid q1; have Q2 := Lib.hid q2; have Q3 := Lib.hid q3
      clear q1 q2 q3
      have S1 := Lib.hid (show sameT a a = true by unfold sameT; exact decide_eq_true rfl)
      obtain ⟨sb, hsb⟩ : ∃ sb, sb = sameT a b := ⟨_, rfl⟩
      go_wp2_with fail
      refine (tabSame_any v1 v2 a b _ h1 h2).mono ?_
      rintro e w3 ⟨rfl, b3⟩
      rw [← hsb]
      go_wp2_with fail
      refine (sameTable_any v1 v2 a b _ (h1.next b3) (h2.next b3)).mono ?_
      rintro e w4 ⟨rfl, b4⟩
      rw [← hsb]
      clear hsb
      have b24 := b3.trans (b4.mono b3.size)
      have hneq : (sb != sb) = false := by simp
      go_wp2_with fail
      refine (tabSame_any v1 v1 a a _ (h1.next b24) (h1.next b24)).mono ?_
      rintro e w5 ⟨rfl, b5⟩
      rw [S1.out]
      have b25 := b24.trans (b5.mono b24.size)
      have ha5 := h1.next b25
      go_wp2_with fail
      refine (copy_any v1 a _ ha5 (by have := Q1.out; omega) (by have := Q2.out; omega)).mono ?_
      rintro e w6 ⟨c, rfl, hc6, b6⟩
      go_wp2_with fail
      refine (copy_any v1 a _ (ha5.next b6) (by have := Q1.out; omega) (by have := Q2.out; omega)).mono ?_
      rintro e w7 ⟨d, rfl, hd7, b7⟩
      have hc7 := hc6.keep b7
      go_wp2_with fail
      refine (sameTable_any c v1 a a _ hc7.rd ((ha5.next b6).next b7)).mono ?_
      rintro e w8 ⟨rfl, b8⟩
      rw [S1.out]
      have b26 := b25.trans (b6.mono b25.size)
      have b27 := b26.trans (b7.mono b26.size)
      have b28 := b27.trans (b8.mono b27.size)
      have hd8 := hd7.keep b8
      have hle : w5.heap.size ≤ w6.heap.size := b6.size
      have hle7 : w6.heap.size ≤ w7.heap.size := b7.size
      have hle8 : w7.heap.size ≤ w8.heap.size := b8.size
      have b68 := b7.trans (b8.mono hle7)
      obtain ⟨vs, ho, he⟩ := hc6.is
      have hsz : ∀ l ∈ a, ∀ s ∈ l, s.size ≤ 2000 := fun l hl s hs => by
        have h1 : bytesR l ≤ tot bytesR a := le_sum (List.mem_map_of_mem hl)
        have h2 : s.size ≤ bytesR l := le_sum (List.mem_map_of_mem hs)
        have := Q3.out
        omega
      have hrows : Each (fun u l => WRow w8 w5.heap.size w6.heap.size c.ownBlock u l.length 2000) vs a :=
by
        refine ⟨he.len, fun i u l hu hl => ?_⟩
        have hq := he.at_ i u l hu hl
        have hw6 : WRow w6 w5.heap.size w6.heap.size c.ownBlock u l.length 2000 := WRow.of_own (n := 0) hq.1 hq.2 (Nat.le_refl _) (hsz l (List.mem_of_getElem? hl))
        exact hw6.keep fun g hg => b68.block g hg
      have ho8 := ho.below b68 (Nat.le_refl _)
      obtain ⟨A, cc, rfl, hsl⟩ := ho8.form
      have hAn : ∀ p, A = some p → 0 < a.length → (Value.slice A a.length cc).ownBlock = some p.block := fun p hp hn => by
        obtain ⟨g, c', hv, -, -, hw⟩ := ho8.head hn
        injection hv with hA
        rw [hp] at hA
        injection hA with hA
        rw [hw, hA]
      have hlen40 : a.length ≤ 40 := Q1.out
      have HSZ := Lib.hid hsz
      clear ho ho8 he hsz hc6 hc7 h2
      obtain ⟨row, hrow⟩ : ∃ row, row = (Value.slice A a.length cc).ownBlock := ⟨_, rfl⟩
      rw [← hrow] at hrows hAn
      clear hrow
      go_wp2
      go_loopw [39] (fun i wr => ∃ k : Nat, k ≤ a.length ∧ i = .int .i64 k ∧ Sl wr wr.heap.size 1 A a.length cc vs ∧ Each (fun u l => WRow wr w5.heap.size w6.heap.size row u l.length (2000 + tot List.length (a.take k))) vs a ∧ Mid w5.heap.size w6.heap.size w8 wr) (fun i _ => a.length - (intOf i).toNat)
      case atStart => exact ⟨0, Nat.zero_le _, rfl, hsl, hrows, Mid.refl _ _ _⟩
      case round =>
        obtain ⟨k, hk, rfl, hS, hE, hM⟩ := hrel
        by_cases hlt : k < a.length
        · obtain ⟨w9, rfl⟩ : ∃ w9 : World, w9 = wr := ⟨_, rfl⟩
          obtain ⟨p, rfl⟩ := hS.some_ (by omega)
          obtain ⟨u, hu, hru⟩ := hE.got (List.getElem?_eq_getElem hlt)
          have htk := tot_take List.length a hlt
          have hxl : a[k].length ≤ tot List.length a := le_sum (List.mem_map_of_mem (List.getElem_mem hlt))
          have htl : tot List.length (a.take (k + 1)) ≤ 200 := Nat.le_trans (tot_take_le List.length a (k + 1)) Q2.out
          obtain ⟨x, hx⟩ : ∃ x, x = a[k] := ⟨_, rfl⟩
          rw [← hx] at hru htk
          rw [htk] at htl
          obtain ⟨uA, uc, rfl, hxf, -⟩ := hru.is
          have hcu : w9.cell? (p.add k) = some (.slice uA x.length uc) := hS.cell p k _ rfl hu
          have dk : decide ((k : Int) < a.length) = true := decide_eq_true (by omega)
          have HTK := Lib.hid htk; have HU := Lib.hid hu; have HX := Lib.hid hx
          clear htk hx hxl hru hu
          go_wp2
          go_loopw [47] (fun j wr => ∃ m : Nat, m ≤ x.length ∧ j = .int .i64 m ∧ Sl wr wr.heap.size 1 (some p) a.length cc vs ∧ Each (fun u l => WRow wr w5.heap.size w6.heap.size row u l.length (2000 + tot List.length (a.take k) + m)) vs a ∧ Mid w5.heap.size w6.heap.size w8 wr) (fun j _ => x.length - (intOf j).toNat)
          case atStart => exact ⟨0, Nat.zero_le _, rfl, hS, hE, hM⟩
          case round =>
            obtain ⟨m, hm, rfl, hS2, hE2, hM2⟩ := hrel
            by_cases hlt2 : m < x.length
            · have hru := hE2.at_ k _ _ HU.out (List.getElem?_eq_getElem hlt)
              rw [← HX.out] at hru
              obtain ⟨g, uc', s, hvu, hg1, hg2, hg3, hcs, hfz, hss⟩ := hru.at hlt2
              injection hvu with hA _ hcc
              subst hA
              subst hcc
              have hcu2 : wr.cell? (p.add k) = some (.slice (some ⟨g, 0, none⟩) x.length uc) := hS2.cell p k _ rfl HU.out
              have hsz : s.size ≤ 2200 := by omega
              have hsz2 : s.size + 1 ≤ maxLen := by unfold maxLen; omega
              have dm : decide ((m : Int) < x.length) = true := decide_eq_true (by omega)
              have hpg : ∀ q, some p = some q → 0 < a.length → q.block ≠ g := fun q hq hn e => by
                rw [← e] at hg3
                exact hg3 (hAn q hq hn).symm
              have NS := Lib.hid (fun v => sl_put (g := g) (k := m) (u := v) hS2 hpg)
              have NM := Lib.hid (fun v => hM2.put g m v hg1 hg2)
              have hx1 : (s ++ (⟨#[120]⟩ : ByteArray)).size ≤ 2000 + tot List.length (a.take k) + (m + 1) := by rw [ByteArray.size_append]; show s.size + 1 ≤ _; omega
              have NE := Lib.hid (hE2.imp fun u l (h : WRow wr w5.heap.size w6.heap.size row u l.length (2000 + tot List.length (a.take k) + m)) => (h.more (M' := 2000 + tot List.length (a.take k) + (m + 1)) (by omega)).put g m (s ++ ⟨#[120]⟩) hx1)
              clear hru hE2 hM2 hS2 hx1
              go_wp2
              exact ⟨⟨m + 1, by omega, by go_num, NS.out _, NE.out, NM.out _⟩, by simp [intOf]; omega⟩
            · obtain rfl : m = x.length := by omega
              have hE3 : Each (fun u l => WRow wr w5.heap.size w6.heap.size row u l.length (2000 + tot List.length (a.take (k + 1)))) vs a := by
                rw [HTK.out, ← Nat.add_assoc]
                exact hE2
              have HE3 := Lib.hid hE3
              clear hE2 hE3
              go_wp2
              exact ⟨⟨k + 1, by omega, by go_num, hS2, HE3.out, hM2⟩, by simp [intOf]; omega⟩
        · have bm : Below w2.heap.size w2 wr := b28.trans (hM.below.mono b25.size)
          have hd9 : TabOwn wr w6.heap.size d a := hd8.agree fun g hg1 _ => hM.block g (.inr hg1)
          have b58 := b6.trans (b68.mono b6.size)
          have ha9 : RdT wr wr.heap.size v1 a := ((ha5.below b58).below hM.below).more (by rw [hM.size]; omega)
          clear hE hS hM
          go_wp2_with fail
          refine (sameTable_any v1 d a a _ ha9 hd9.rd).mono ?_
          rintro e w9 ⟨rfl, b9⟩
          rw [S1.out]
          have bm9 := bm.trans (b9.mono bm.size)
          go_wp2_with fail
          refine (tabAwake_any _).mono ?_
          rintro e w10 ⟨rfl, b10⟩
          go_wp2
          exact HR.out _ _ ⟨rfl, bm9.trans (b10.mono bm9.size)⟩
    · go_wp2_with fail
      refine (tabAwake_any _).mono ?_
      rintro e w6 ⟨rfl, b6⟩
      go_wp2
      exact HR.out _ _ ⟨rfl, b6⟩
  · clear hg
    go_wp2_with fail
    refine (tabAwake_any _).mono ?_
    rintro e w6 ⟨rfl, b6⟩
    go_wp2
    exact HR.out _ _ ⟨rfl, b6⟩

theorem own : ownKnob Try.prog.godebug = none := by kernel_rfl
theorem laidOut : laidOutB Try.prog = true := by kernel_rfl

set_option maxRecDepth 100000 in
theorem lifted (os : Os) (started : os.Started) (H : Type) (enc : TypeId × Value → H) :
    ReturnsInHanded {} Try.checked os 7 .any (Rows.tableSameSpec.pre6 enc Try.prog Try.f7 Rows.tableSameRow.domain false) (Rows.tableSameSpec.post enc Try.prog Try.f7 false true false false) := by
  refine returnsInHanded_of_change_sized (C := Try.checked) own started (by kernel_rfl) Try.func7
    (ChangeSpec.witness6 (enc := enc) (C := Try.checked) false ⟨#[], #[.slice none 0 0, .slice none 0 0], []⟩ 8 (by kernel_rfl) (by kernel_rfl) (by kernel_rfl) (by kernel_rfl)) ?_
  intro W base args ds gs before hval0 hW hcnd hsz0 _
  have hval : ∀ (j : Nat) t v, Try.f7.params[j]? = some t → args[j]? = some v → Value.okWide Try.prog W .any base t v := hval0
  have hW' := hW
  obtain ⟨p, q, hA0, hV, rfl, hfz, hnd⟩ := hW
  have hA : DataW.TrodAll enc Try.prog W 0 (fun _ => true) true Try.f7.params.toList args.toList ds p := hA0
  have hsz : (DataW.weightsEach Try.prog (Try.f7.params.toList ++ Rows.tableSameSpec.plain.varTypes Try.prog) (ds ++ gs)).all (· ≤ reachBytes) = true := hsz0
  rw [Try.params7] at hA hval hsz
  obtain ⟨v0, vs0, d0, ds0, p0, q0, hargs, rfl, rfl, h0, r0⟩ := trodAll_cons hA
  obtain ⟨v1, vs1, d1, ds1, p1, q1, rfl, rfl, rfl, h1, r1⟩ := trodAll_cons r0
  obtain ⟨rfl, rfl, rfl⟩ := trodAll_nil r1
  obtain rfl : args = #[v0, v1] := by cases args; simp_all
  obtain ⟨rfl, rfl⟩ := trodVars_none hV
  have k0 := h0
  have lt0 : ∀ x ∈ p0, x.block < W.heap.size := by obtain ⟨m, hm⟩ := k0; exact DataW.trod_lt m _ _ _ hm
  have w0 := open_table (hval 0 22 v0 rfl rfl) h0 (Sized.arg (j := 0) hsz rfl rfl)
  have k1 := h1
  have lt1 : ∀ x ∈ p1, x.block < W.heap.size := by obtain ⟨m, hm⟩ := k1; exact DataW.trod_lt m _ _ _ hm
  have w1 := open_table (hval 1 22 v1 rfl rfl) h1 (Sized.arg (j := 1) hsz rfl rfl)
  clear hA0 hval0
  refine (walk v0 v1 W w0 w1).mono fun e W' ⟨he, bel⟩ => ?_
  subst he
  exact ⟨_, rfl, _, _, _, [], _, [], hW', trodAll_mk1 (shut_bool Try.underlying4 _), (trodAll_cons_mk (Below.trod laidOut (by kernel_rfl) (of_decide_eq_true (by kernel_rfl)) k0 bel lt0) (trodAll_cons_mk (Below.trod laidOut (by kernel_rfl) (of_decide_eq_true (by kernel_rfl)) k1 bel lt1) trodAll_mk0)), rfl, bel.frame _, fun h => by cases h⟩

theorem over : Rows.tableSameRow.holds Try.pinned (OpenSpec.ofChange Rows.tableSameSpec) :=
  OpenClaim.holds_of_wide 7 Try.f7 rfl rfl rfl rfl rfl rfl rfl ⟨rfl, rfl, rfl, rfl, rfl⟩ rfl rfl rfl rfl rfl (by kernel_rfl) Try.func7 (by kernel_rfl)
    (of_decide_eq_true (by kernel_rfl)) (by unfold Func.isWrapper; first | (rw [if_pos (by decide +kernel)]; kernel_rfl) | (rw [if_neg (by decide +kernel)]; exact ⟨rfl, rfl⟩))
    (fun os started H enc _ => lifted os started H enc)

theorem proved : Rows.TableSameSaid := over
end Go.Proofs.Ytamhdlopchhdjaa.tableSame

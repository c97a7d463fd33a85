/- What the stripper hands on is its own: writing into it, or into what was handed in, changes nothing of what comes (no condition of ours). -/
import Derived.Test.YtlcglijkpbojgaaBomC
import Derived.Test.YtlcglijkpbojgaaBomL
import Derived.Test.YtlcglijkpbojgaaOpen
import Derived.SizedLaws
import Derived.ProofKit
import Derived.OpenShut
import Derived.ShutString
import Derived.ChangeOld
import Derived.Below
namespace Go.Proofs.Ytlcglijkpbojgaa.bomOwn
open Go.ChangeShapes Go.WideShapes Go.ChangeAt Go.RowKit
open Go.ChangeMaps (open_string shut_string)
set_option linter.unusedVariables false
set_option linter.unusedSimpArgs false

/-- A row whose first k cells were written over. -/
def Over (w : World) (base : Nat) (v : Value) (k : Nat) (l : List UInt8) : Prop := ∃ ys : List Value, ys.length = k ∧ Own w base 5 1 v l.length (ys ++ (bytesV l).drop k)

theorem over_put {w : World} {base g c k : Nat} {l : List UInt8} (h : Over w base (.slice (some ⟨g, 0, none⟩) l.length c) k l) (hk : k < l.length) (u : Value) :
    Over (w.setCell ⟨g, k, none⟩ u) base (.slice (some ⟨g, 0, none⟩) l.length c) (k + 1) l := by
  obtain ⟨ys, hys, hO⟩ := h
  have hl : k < (bytesV l).length := by rw [bytesV_length]; exact hk
  refine ⟨ys ++ [u], by simp [hys], ?_⟩
  have := hO.put (k := k) (by omega) u
  rw [List.set_append_right _ _ (Nat.le_of_eq hys), hys, Nat.sub_self, List.drop_eq_getElem_cons hl, List.set_cons_zero] at this
  simpa using this
theorem over_cell {w : World} {base g c k : Nat} {l : List UInt8} (h : Over w base (.slice (some ⟨g, 0, none⟩) l.length c) k l) (hk : k < l.length) :
    w.cell? ⟨g, k, none⟩ = some (.int .u8 (l[k].toNat : Int)) ∧ w.frozen? ⟨g, k, none⟩ = false := by
  obtain ⟨ys, hys, hO⟩ := h
  have hl : k < (bytesV l).length := by rw [bytesV_length]; exact hk
  refine ⟨?_, hO.thaw (by omega)⟩
  have := hO.sl.cell _ k (byteV l[k]) rfl (by rw [List.getElem?_append_right (Nat.le_of_eq hys), hys, Nat.sub_self, List.drop_eq_getElem_cons hl]; simp [bytesV])
  rw [head_add] at this
  exact this
theorem over_head {w : World} {base k : Nat} {v : Value} {l : List UInt8} (h : Over w base v k l) (hk : k < l.length) : ∃ g c, v = .slice (some ⟨g, 0, none⟩) l.length c ∧ base ≤ g ∧ v.ownBlock = some g := by
  obtain ⟨ys, hys, hO⟩ := h
  obtain ⟨g, c, h1, h2, _, h3⟩ := hO.head (by omega)
  exact ⟨g, c, h1, h2, h3⟩

set_option maxRecDepth 100000 in
set_option maxHeartbeats 4000000 in
theorem walkR (A B : Option Addr) (n c m d : Nat) (a b : List UInt8) (w : World) (ha : Sl w w.heap.size 1 A n c (bytesV a)) (hb : Sl w w.heap.size 1 B m d (bytesV b)) :
    Calls Try.prog 3 #[.slice A n c, .slice B m d] w fun e w' => e = .returned (.bool true) ∧ Below w.heap.size w w' := by
  refine cps fun R HR => ?_
  obtain ⟨i0, hi0, hz0, hz1, hz2⟩ := info_parts byte_info
  by_cases hbig : (100 : Int) < n ∨ (100 : Int) < m
  · have awk : ∀ w0 : World, w0 = w.alloc (.cells ((⟨0, false, false⟩ : BS).cells false) 40) → Below w.heap.size w w0 := fun w0 h => by rw [h]; exact (Below.refl _ _).alloc (Nat.le_refl _) _
    by_cases h1 : (100 : Int) < n
    · go_enter Try.func3, Try.ntmps3
      go_wp2_with fail
      refine (new_any _).mono ?_
      rintro e w0 ⟨rfl, hw0⟩
      have hB0 := awk w0 hw0
      clear hw0
      go_wp2_with fail
      refine (awake_any _).mono ?_
      rintro e w2 ⟨rfl, hb2⟩
      go_wp2
      exact HR.out _ _ ⟨rfl, hB0.trans (hb2.mono hB0.size)⟩
    · have h2 : (100 : Int) < m := by omega
      go_enter Try.func3, Try.ntmps3
      go_wp2_with fail
      refine (new_any _).mono ?_
      rintro e w0 ⟨rfl, hw0⟩
      have hB0 := awk w0 hw0
      clear hw0
      go_wp2_with fail
      refine (awake_any _).mono ?_
      rintro e w2 ⟨rfl, hb2⟩
      go_wp2
      exact HR.out _ _ ⟨rfl, hB0.trans (hb2.mono hB0.size)⟩
  · have h1 : (n : Int) ≤ 100 := by omega
    have h2 : (m : Int) ≤ 100 := by omega
    have HAl : Hid (a.length = n) := by have := ha.len; rw [bytesV_length] at this; show _ = _; omega
    have HBl : Hid (b.length = m) := by have := hb.len; rw [bytesV_length] at this; show _ = _; omega
    have hd1 : decide ((100 : Int) < n) = false := by simp; omega
    have hd2 : decide ((100 : Int) < m) = false := by simp; omega
    clear hbig
    go_enter Try.func3, Try.ntmps3
    go_wp2_with fail
    refine (new_any _).mono ?_
    rintro e w0 ⟨rfl, hw0⟩
    have hB0 : Below w.heap.size w w0 := by rw [hw0]; exact (Below.refl _ _).alloc (Nat.le_refl _) _
    have hS0 : Box w0 w.heap.size 40 ((⟨0, false, false⟩ : BS).cells false) := by rw [hw0]; exact Box.new _ _ _
    clear hw0
    go_wp2_with (at_builtin; refine wpList_append_Own _ rfl _ _ _ rfl w0.heap.size 5 i0 _ 1 1 Try.underlying22 hi0 hz0 hz1 hz2 rfl (by omega) (by omega) (.slice (some ⟨w0.heap.size, 0, none⟩) 0 0) 0 [] rfl (Own.made w0 _ _ _ (Nat.le_refl _)) w.heap.size A n c (bytesV a) rfl ((ha.below hB0).alloc hB0.size _) (bytesV_one _) (by simp only [maxLen]; omega) (by omega) (by simp) ?_; intro v1 w1 hown1 hg1 hat1)
    have hlt0 := hS0.lt
    have hB1 : Below w.heap.size w w1 := (hB0.alloc hB0.size _).grown hg1 (by simp; omega) (fun k hk => by simp [Value.ownBlock] at hk; omega)
    have hS1 := (hS0.alloc (.cells #[] 5)).grown hg1 (by simp [Value.ownBlock]; omega)
    simp only [Nat.zero_add, List.nil_append] at hown1
    obtain ⟨A1, c1, rfl, hsl1⟩ := hown1.form
    have hlt1 : w0.heap.size ≤ w1.heap.size := by have := hg1.size; simp at this; omega
    have hinlt := hown1.lt
    clear hg1 hat1 hlt0
    refine (feed_open _ _ _ _ _ a _ hS1 hsl1 (by simp) (by omega)).mono ?_
    rintro e w2 ⟨v2, rfl, hown2, hg2, hS2⟩
    have hB2 := below_of_grown hB1 hg2 (Nat.le_refl _)
    have hin2 := hown1.far hS0.lt hg2
    generalize hF : feedL ⟨0, false, false⟩ a = F at hown2 hS2
    obtain ⟨out, st⟩ := F
    have HF := Lib.hid hF; clear hF
    simp only at hown2 hS2
    obtain ⟨A2, c2, rfl, hsl2⟩ := hown2.form
    have hcv2 := conv_bs (P := Try.prog) w2 22 9 5 Try.underlying22 Try.underlying5 Try.underlying9 _ A2 _ c2 out hsl2
    clear hsl1 hg2 hown1 hS1 hB1 
    go_wp2
    clear hcv2
    go_loopw [42] (fun i wr => ∃ k : Nat, k ≤ n ∧ i = .int .i64 k ∧ Over wr w0.heap.size (.slice A1 n c1) k a ∧ w2.grownBy wr (Value.slice A1 n c1).ownBlock) (fun i _ => n - (intOf i).toNat)
    case atStart => exact ⟨0, Nat.zero_le _, rfl, ⟨[], rfl, by rw [HAl.out]; simpa using hin2⟩, .refl _ _⟩
    case round =>
      obtain ⟨k, hk, rfl, hO, hg⟩ := hrel
      by_cases hlt : k < n
      · have hka : k < a.length := by rw [HAl.out]; exact hlt
        obtain ⟨g1, c', hv, hgb, hob⟩ := over_head hO hka
        injection hv with hA1 hln hc1
        subst hA1
        subst hc1
        rw [hln] at hO
        obtain ⟨c0, f0⟩ := over_cell hO hka
        have hP := over_put hO hka
        rw [← hln] at hP
        have hgs := fun u => hg.trans (hob ▸ grownBy_setCell wr g1 k u)
        have HP := Lib.hid hP
        have HG := Lib.hid hgs
        clear hP hgs hln hO hg hob
        go_wp2
        exact ⟨⟨k + 1, by omega, by go_num, HP.out _, HG.out _⟩, by simp [intOf]; omega⟩
      · obtain rfl : k = n := by omega
        have hB3 : Below w.heap.size w wr := hB2.grown hg hB2.size (fun g hg' => by have := hin2.lt g hg'; have := hS0.lt; omega)
        have hS3 := hS2.grown hg (fun e => by have := hin2.lt _ e.symm; have := hS0.lt; omega)
        have hx3 := hown2.kept hg (by
          cases h : (Value.slice A2 out.length c2).ownBlock with
          | none => exact .inl rfl
          | some q =>
            refine .inr fun e => ?_
            have := hown2.lt q h
            have := hinlt q e.symm
            omega)
        have hwr := hg.size
        clear hg hO hin2 hB2 hS2 hown2 hsl2 hinlt
        have hsl3 := hx3.sl
        have hcv3 := conv_bs (P := Try.prog) wr 22 9 5 Try.underlying22 Try.underlying5 Try.underlying9 _ A2 _ c2 out hsl3
        have hx0 := hx3.form
        have hfew : out.length ≤ 140737488355328 := hx3.1.2
        clear hsl3 hx0
        go_wp2
        clear hcv3
        obtain ⟨w3, rfl⟩ : ∃ w3 : World, w3 = wr := ⟨_, rfl⟩
        go_loopw [58] (fun i wr => ∃ k : Nat, k ≤ out.length ∧ i = .int .i64 k ∧ Over wr w1.heap.size (.slice A2 out.length c2) k out ∧ w3.grownBy wr (Value.slice A2 out.length c2).ownBlock) (fun i _ => out.length - (intOf i).toNat)
        case atStart => exact ⟨0, Nat.zero_le _, rfl, ⟨[], rfl, by simpa using hx3⟩, .refl _ _⟩
        case round =>
          obtain ⟨j, hj, rfl, hO, hg⟩ := hrel
          by_cases hlt' : j < out.length
          · have hka : j < out.length := by exact hlt'
            obtain ⟨g1, c', hv, hgb, hob⟩ := over_head hO hka
            injection hv with hA1 hln hc1
            subst hA1
            subst hc1
            rw [hln] at hO
            obtain ⟨c0, f0⟩ := over_cell hO hka
            have hP := over_put hO hka
            rw [← hln] at hP
            have hgs := fun u => hg.trans (hob ▸ grownBy_setCell wr g1 j u)
            have HP := Lib.hid hP
            have HG := Lib.hid hgs
            clear hP hgs hln hO hg hob
            go_wp2
            exact ⟨⟨j + 1, by omega, by go_num, HP.out _, HG.out _⟩, by simp [intOf]; omega⟩
          · obtain rfl : j = out.length := by omega
            have hB4 : Below w.heap.size w wr := hB3.grown hg hB3.size (fun g hg' => by have := hx3.lt g hg'; have := hS0.lt; omega)
            have hS4 := hS3.grown hg (fun e => by have := hx3.lt _ e.symm; have := hS0.lt; omega)
            clear hg hO hx3 hB3 hS3
            have hlen := hb.few
            have hst := (Inv.start.feed a)
            rw [HF.out] at hst
            simp only [List.nil_append] at hst
            have hI2 := hst.feed b
            generalize hF2 : feedL st b = F2 at hI2
            obtain ⟨out2, st2⟩ := F2
            have HF2 := Lib.hid hF2; clear hF2
            simp only at hI2
            have hle := hI2.le
            rw [List.length_append, List.length_append, HAl.out, HBl.out] at hle
            have e1 : ∀ l : List UInt8, (ByteArray.mk l.toArray).size = l.length := fun l => by simp [ByteArray.size]
            obtain ⟨S1, hS1⟩ : ∃ x, x = ByteArray.mk out.toArray := ⟨_, rfl⟩
            obtain ⟨S2, hS2⟩ : ∃ x, x = ByteArray.mk out2.toArray := ⟨_, rfl⟩
            obtain ⟨S3, hS3⟩ : ∃ x, x = ByteArray.mk (markL.take st2.held).toArray := ⟨_, rfl⟩
            have z1 : S1.size + S2.size ≤ 1000 := by rw [hS1, hS2, e1, e1]; omega
            have z2 : (S1 ++ S2).size + S3.size ≤ 1000 := by
              rw [ByteArray.size_append, hS1, hS2, hS3, e1, e1, e1]
              have : (markL.take st2.held).length ≤ 3 := by simp [markL]; omega
              omega
            have z3 : S1.size + S2.size + S3.size ≤ 1000 := by rw [ByteArray.size_append] at z2; exact z2
            rw [← hS1]
            have d1 : S1.data.toList = out := by rw [hS1]
            have d2 : S2.data.toList = out2 := by rw [hS2]
            have d3 : S3.data.toList = markL.take st2.held := by rw [hS3]
            obtain ⟨Sa, ea⟩ : ∃ x, x = ByteArray.mk a.toArray := ⟨_, rfl⟩
            obtain ⟨Sb, eb⟩ : ∃ x, x = ByteArray.mk b.toArray := ⟨_, rfl⟩
            have da : Sa.data.toList = a := by rw [ea]
            have db : Sb.data.toList = b := by rw [eb]
            have z4 : Sa.size + Sb.size ≤ 1000 := by
              have h1 := HAl.out
              have h2 := HBl.out
              rw [ea, eb, e1, e1]; omega
            have z5 : (Sa ++ Sb).size ≤ 1000 := by rw [ByteArray.size_append]; exact z4
            have hst : stripB (Sa ++ Sb) = S1 ++ S2 ++ S3 := by
              have hi : Inv (Sa ++ Sb).data.toList st2 (S1 ++ S2).data.toList := by rw [BA_app, BA_app, da, db, d1, d2]; exact hI2
              refine BA_ext ?_
              rw [hi.ref.2.2.2, BA_app, BA_app, BA_app, d3]
            have HST := Lib.hid hst
            have DA := Lib.hid da
            have DB := Lib.hid db
            clear hst da db ea eb
            have D1 := Lib.hid d1
            have D2 := Lib.hid d2
            have D3 := Lib.hid d3
            clear d1 d2 d3 hS1 hS2 hS3 hle e1
            have Hst := Lib.hid hst; clear hst
            have HI2 := Lib.hid hI2; clear hI2
            have hsb := (hb.below hB4).more (B' := wr.heap.size) hB4.size
            go_wp2_with fail
            go_region_with (first
              | (go_at_call 8; refine (feed_open _ _ _ _ st b _ hS4.drew hsb.drew Hst.out.held (by omega)).mono ?_; rintro e w5 ⟨v5, rfl, hO5, hg5, hS5⟩; rw [HF2.out] at hO5 hS5; obtain ⟨A5, c5, rfl, hs5⟩ := hO5.form; have hcv5 := conv_bt (P := Try.prog) w5 22 9 5 Try.underlying22 Try.underlying5 Try.underlying9 _ A5 _ c5 S2 _ D2.out hs5)
              | (go_at_call 9; refine (close_any _ _ _ _ hS5 HI2.out.held).mono ?_; rintro e w6 ⟨v6, rfl, hO6, hg6, hS6⟩; obtain ⟨A6, c6, rfl, hs6⟩ := hO6.form; have hcv6 := conv_bt (P := Try.prog) w6 22 9 5 Try.underlying22 Try.underlying5 Try.underlying9 _ A6 _ c6 S3 _ D3.out hs6; have hcv7 := conv_bt (P := Try.prog) w6 22 9 5 Try.underlying22 Try.underlying5 Try.underlying9 _ A5 _ c5 S2 _ D2.out (hO5.far (by have := hS4.lt; simpa using this) hg6).sl))
            all_goals
              have hB6 : Below w.heap.size w w6 := below_of_grown (below_of_grown hB4.drew hg5 (Nat.le_refl _)) hg6 (Nat.le_refl _)
              have hcA := conv_bt (P := Try.prog) w6 22 9 5 Try.underlying22 Try.underlying5 Try.underlying9 _ A _ c Sa a DA.out (ha.below hB6)
              have hcB := conv_bt (P := Try.prog) w6 22 9 5 Try.underlying22 Try.underlying5 Try.underlying9 _ B _ d Sb b DB.out (hb.below hB6)
              clear hcv5 hcv6 hcv7 hs5 hs6 hO5 hO6 hS5 hS6
              go_wp2_with fail
              refine (refStrip_any (Sa ++ Sb) _ (by unfold maxLen; omega)).mono ?_
              rintro e w7 ⟨rfl, hb7⟩
              rw [HST.out]
              clear hcA hcB
              go_wp2_with fail
              refine (awake_any _).mono ?_
              rintro e w8 ⟨rfl, hb8⟩
              go_wp2
              have hB7 := hB6.trans (hb7.mono hB6.size)
              exact HR.out _ _ ⟨rfl, hB7.trans (hb8.mono hB7.size)⟩

theorem walk (v u : Value) (w : World) (h : ∃ A n c l, v = .slice A n c ∧ Sl w w.heap.size 1 A n c (bytesV l)) (h' : ∃ A n c l, u = .slice A n c ∧ Sl w w.heap.size 1 A n c (bytesV l)) :
    Calls Try.prog 3 #[v, u] w fun e w' => e = .returned (.bool true) ∧ Below w.heap.size w w' := by
  obtain ⟨A, n, c, l, rfl, hl⟩ := h
  obtain ⟨B, m, d, k, rfl, hk⟩ := h'
  exact walkR A B n c m d l k w hl hk

theorem opens {H : Type} {enc : TypeId × Value → H} {W : World} {spare : Nat → Bool} {held : Bool} {v : Value} {d : DataW H} {p : List MemPlace} {base : Nat}
    (hv : Value.okWide Try.prog W .any base 22 v) (h : DataW.Trod enc Try.prog W 0 spare held 22 v d p) (hsz : Sized Try.prog 22 d) : ∃ A n c l, v = .slice A n c ∧ Sl W W.heap.size 1 A n c (bytesV l) :=
  open_text Try.underlying22 Try.underlying5 (by kernel_rfl) (of_decide_eq_true (by kernel_rfl)) hv h hsz

theorem own : ownKnob Try.prog.godebug = none := by kernel_rfl
theorem laidOut : laidOutB Try.prog = true := by kernel_rfl

set_option maxRecDepth 100000 in
theorem lifted (os : Os) (started : os.Started) (H : Type) (enc : TypeId × Value → H) :
    ReturnsInHanded {} Try.checked os 3 .any (Rows.bomOwnSpec.pre6 enc Try.prog Try.f3 Rows.bomOwnRow.domain false) (Rows.bomOwnSpec.post enc Try.prog Try.f3 false true false false) := by
  refine returnsInHanded_of_change_sized (C := Try.checked) own started (by kernel_rfl) Try.func3
    (ChangeSpec.witness6 (enc := enc) (C := Try.checked) false ⟨#[], #[.slice none 0 0, .slice none 0 0], []⟩ 8 (by kernel_rfl) (by kernel_rfl) (by kernel_rfl) (by kernel_rfl)) ?_
  intro W base args ds gs before hval0 hW hcnd hsz0 _
  have hval : ∀ (j : Nat) t v, Try.f3.params[j]? = some t → args[j]? = some v → Value.okWide Try.prog W .any base t v := hval0
  have hW' := hW
  obtain ⟨p, q, hA0, hV, rfl, hfz, hnd⟩ := hW
  have hA : DataW.TrodAll enc Try.prog W 0 (fun _ => true) true Try.f3.params.toList args.toList ds p := hA0
  have hsz : (DataW.weightsEach Try.prog (Try.f3.params.toList ++ Rows.bomOwnSpec.plain.varTypes Try.prog) (ds ++ gs)).all (· ≤ reachBytes) = true := hsz0
  rw [Try.params3] at hA hval hsz
  obtain ⟨v0, vs0, d0, ds0, p0, q0, hargs, rfl, rfl, h0, r0⟩ := trodAll_cons hA
  obtain ⟨v1, vs1, d1, ds1, p1, q1, rfl, rfl, rfl, h1, r1⟩ := trodAll_cons r0
  obtain ⟨rfl, rfl, rfl⟩ := trodAll_nil r1
  obtain rfl : args = #[v0, v1] := by cases args; simp_all
  obtain ⟨rfl, rfl⟩ := trodVars_none hV
  have k0 := h0
  have lt0 : ∀ x ∈ p0, x.block < W.heap.size := by obtain ⟨m, hm⟩ := k0; exact DataW.trod_lt m _ _ _ hm
  have w0 := opens (hval 0 22 v0 rfl rfl) h0 (Sized.arg (j := 0) hsz rfl rfl)
  have k1 := h1
  have lt1 : ∀ x ∈ p1, x.block < W.heap.size := by obtain ⟨m, hm⟩ := k1; exact DataW.trod_lt m _ _ _ hm
  have w1 := opens (hval 1 22 v1 rfl rfl) h1 (Sized.arg (j := 1) hsz rfl rfl)
  clear hA0 hval0
  refine (walk v0 v1 W w0 w1).mono fun e W' ⟨he, bel⟩ => ?_
  subst he
  exact ⟨_, rfl, _, _, _, [], _, [], hW', trodAll_mk1 (shut_bool Try.underlying4 _), (trodAll_cons_mk (Below.trod laidOut (by kernel_rfl) (of_decide_eq_true (by kernel_rfl)) k0 bel lt0) (trodAll_cons_mk (Below.trod laidOut (by kernel_rfl) (of_decide_eq_true (by kernel_rfl)) k1 bel lt1) trodAll_mk0)), rfl, bel.frame _, fun h => by cases h⟩

theorem over : Rows.bomOwnRow.holds Try.pinned (OpenSpec.ofChange Rows.bomOwnSpec) :=
  OpenClaim.holds_of_wide 3 Try.f3 rfl rfl rfl rfl rfl rfl rfl ⟨rfl, rfl, rfl, rfl, rfl⟩ rfl rfl rfl rfl rfl (by kernel_rfl) Try.func3 (by kernel_rfl)
    (of_decide_eq_true (by kernel_rfl)) (by unfold Func.isWrapper; first | (rw [if_pos (by decide +kernel)]; kernel_rfl) | (rw [if_neg (by decide +kernel)]; exact ⟨rfl, rfl⟩))
    (fun os started H enc _ => lifted os started H enc)

theorem proved : Rows.BomOwnSaid := over
#print axioms proved
end Go.Proofs.Ytlcglijkpbojgaa.bomOwn

/- The stripper of layer 3: New, Feed, Close, Held, Stripped. -/
import Derived.Test.YtlcglijkpbojgaaBomA
namespace Go.Proofs.Ytlcglijkpbojgaa
open Go.RowKit
set_option linter.unusedVariables false
set_option linter.unusedSimpArgs false


theorem byte_info : (Try.prog.info? 5).map (fun i => (i.zero, i.size, i.bytes)) = some (some (.int .u8 0), 1, 1) := by kernel_rfl

theorem clone_bytes (A : Option Addr) (n c : Nat) (xs : List Value) (w : World) (hr : Sl w w.heap.size 1 A n c xs) (h1 : ∀ u ∈ xs, u.oneCell' = true) (hn : n ≤ 140737488355328) :
    Calls Try.prog 16 #[.slice A n c] w fun e w' => ∃ v, e = .returned v ∧ Own w' w.heap.size 5 1 v n xs ∧ w.grownBy w' none := by
  refine cps fun R HR => ?_
  obtain ⟨i0, hi0, hz0, hz1, hz2⟩ := info_parts byte_info
  have heq := fun w' => Lib.run_eql_slice_nil (P := Try.prog) w' 22 5 A n c 0 0 Try.underlying22
  cases A with
  | none =>
    obtain rfl := hr.nil rfl
    go_enter Try.func16, Try.ntmps16
    go_wp2
    have hx : xs = [] := List.eq_nil_of_length_eq_zero (by simpa using hr.len)
    subst hx
    exact HR.out _ _ ⟨_, rfl, Own.nil_ _ _ _ _, .refl _ _⟩
  | some ad =>
    go_enter Try.func16, Try.ntmps16
    go_wp2_with (at_builtin; refine wpList_append_Own _ rfl _ _ _ rfl w.heap.size 5 i0 _ 1 1 Try.underlying22 hi0 hz0 hz1 hz2 rfl (by omega) (by omega) (.slice (some ⟨w.heap.size, 0, none⟩) 0 0) 0 [] rfl (Own.made w _ _ _ (Nat.le_refl _)) w.heap.size (some ad) n c xs rfl (hr.alloc (Nat.le_refl _) _) h1 (by simp only [maxLen]; omega) (by omega) (by simp) ?_; intro v1 w1 hown1 hg1 hat1)
    refine HR.out _ _ ⟨v1, rfl, by simpa using hown1, ?_⟩
    exact ⟨hg1.os, hg1.tape, hg1.output, Nat.le_trans (by simp) hg1.size, fun k hk hne => (hg1.block k (by simp; omega) (by simp [Value.ownBlock]; omega)).trans (Below.heap_alloc w _ k hk)⟩

/-- A stripper's fields but 'closed'. -/
structure BS where
  held : Nat
  over : Bool
  had : Bool
def BS.cells (s : BS) (closed : Bool) : Array Value := #[.int .i64 s.held, .bool s.over, .bool s.had, .bool closed]
def markL : List UInt8 := [239, 187, 191]
/-- What Feed does with bytes. -/
def feedL : BS → List UInt8 → List UInt8 × BS
  | st, [] => ([], st)
  | st, c :: r =>
    if st.over = true then (c :: r, st)
    else if c ≠ markL.getD st.held 0 then (markL.take st.held ++ c :: r, ⟨0, true, st.had⟩)
    else if st.held + 1 = 3 then feedL ⟨0, true, true⟩ r
    else feedL ⟨st.held + 1, st.over, st.had⟩ r

theorem feedL_miss (h : Nat) (d : Bool) (c : UInt8) (r : List UInt8) (m : Int) (hm : ((markL.getD h 0).toNat : Int) = m) (hne : ((c.toNat : Int) != m) = true) :
    feedL ⟨h, false, d⟩ (c :: r) = (markL.take h ++ c :: r, ⟨0, true, d⟩) := by
  have : c ≠ markL.getD h 0 := by
    rintro rfl
    rw [hm] at hne
    simp at hne
  simp only [feedL]
  rw [if_neg (by simp), if_pos this]
theorem feedL_hit (h : Nat) (d : Bool) (c : UInt8) (r : List UInt8) (m : Int) (s : BS) (hs : (if h + 1 = 3 then (⟨0, true, true⟩ : BS) else ⟨h + 1, false, d⟩) = s) (hm : ((markL.getD h 0).toNat : Int) = m) (hne : ((c.toNat : Int) != m) = false) :
    feedL ⟨h, false, d⟩ (c :: r) = feedL s r := by
  have : c = markL.getD h 0 := by
    apply UInt8.toNat_inj.1
    have h2 : (c.toNat : Int) = m := by simpa using hne
    rw [← hm] at h2
    exact Int.ofNat.inj h2
  subst hs
  simp only [feedL]
  rw [if_neg (by simp), if_neg (by simpa using this)]
  split <;> rfl

set_option maxHeartbeats 4000000 in
theorem feed_open (g : Nat) (A : Option Addr) (n c : Nat) (st : BS) (b : List UInt8) (w : World)
    (hst : Box w g 40 (st.cells false)) (hb : Sl w w.heap.size 1 A n c (bytesV b)) (hh : st.held ≤ 2) (hn2 : n ≤ 140737488351232) :
    Calls Try.prog 8 #[.pointer (some ⟨g, 0, none⟩), .slice A n c] w fun e w' =>
      ∃ v, e = .returned v ∧ Own w' w.heap.size 5 1 v (feedL st b).1.length (bytesV (feedL st b).1) ∧ w.grownBy w' (some g) ∧ Box w' g 40 ((feedL st b).2.cells false) := by
  have hbl : b.length = n := by have := hb.len; simpa [bytesV] using this
  have hn := hb.cap
  have hc := hb.most
  have hn63 : n ≤ 9223372036854775807 := by omega
  have hfar : ∀ ad, A = some ad → 0 < n → ad.block ≠ g := fun ad hA hn => by
    obtain ⟨ad', u, hA', _, hx, hcell⟩ := hb.at1 hn
    obtain rfl : ad' = ad := by rw [hA] at hA'; injection hA' with h; exact h.symm
    have := hst.apart hcell (fun i => ?_)
    · simpa [add_block] using this
    · simp [bytesV] at hx
      obtain ⟨c, _, rfl⟩ := hx
      match i with
      | 0 => simp [BS.cells, byteV]
      | 1 => simp [BS.cells, byteV]
      | 2 => simp [BS.cells, byteV]
      | 3 => simp [BS.cells, byteV]
      | i + 4 => simp [BS.cells]
  have Hfar := Lib.hid hfar; clear hfar
  obtain ⟨i0, hi0, hz0, hz1, hz2⟩ := info_parts byte_info
  refine cps fun R HR => ?_
  have c0 := hst.cell 0
  have c1 := hst.cell 1
  have c2 := hst.cell 2
  have c3 := hst.cell 3
  simp [BS.cells] at c0 c1 c2 c3
  go_enter Try.func8, Try.ntmps8
  go_wp2
  clear c0 c1 c2 c3
  go_loopw [14] (fun i wr => ∃ (k : Nat) (s' : BS), k ≤ n ∧ i = .int .i64 k ∧ s'.held ≤ 2 ∧ Box wr g 40 (s'.cells false) ∧ feedL s' (b.drop k) = feedL st b ∧ w.grownBy wr (some g)) (fun i _ => n - (intOf i).toNat)
  case atStart => exact ⟨0, st, Nat.zero_le _, rfl, hh, hst, by simp, .refl _ _⟩
  case round =>
    obtain ⟨k, s', hk, rfl, hh', hst', HF, hg⟩ := hrel
    have HF' := Lib.hid HF; clear HF
    by_cases hlt : k < n
    · have hbw : Sl wr w.heap.size 1 A n c (bytesV b) := hb.grown hg (Nat.le_refl _) fun g' e hn a hA => by injection e with e; subst e; exact Hfar.out a hA hn
      obtain ⟨ad, u, rfl, hbk, hx, hcell⟩ := hbw.at1 hlt
      obtain rfl : u = byteV (b[k]'(by omega)) := by simpa [bytesV, hbl, hlt] using hx.symm
      have hdr := List.drop_eq_getElem_cons (l := b) (i := k) (by omega)
      have HD := Lib.hid hdr; clear hdr
      replace hcell : wr.cell? (ad.add k) = some (.int .u8 ((b[k]'(by omega)).toNat : Int)) := hcell
      obtain ⟨h, o, d⟩ := s'
      have c0 := hst'.cell 0
      have c1 := hst'.cell 1
      have c2 := hst'.cell 2
      have f0 := hst'.frozen 0
      have f1 := hst'.frozen 1
      have f2 := hst'.frozen 2
      simp [BS.cells] at c0 c1 c2
      have hcut : Sl wr wr.heap.size 1 (some (ad.add k)) (n - k) (c - k) (bytesV (b.drop k)) := by
        have := (hbw.cut (k := k) (by omega)).more (B' := wr.heap.size) hg.size
        rw [if_neg (by omega)] at this
        simpa [bytesV_drop] using this
      cases o
      · have hm0 : (({ data := #[239, 187, 191] } : ByteArray)[0]'(by decide)).toNat = 239 := rfl
        have hm1 : (({ data := #[239, 187, 191] } : ByteArray)[1]'(by decide)).toNat = 187 := rfl
        have hm2 : (({ data := #[239, 187, 191] } : ByteArray)[2]'(by decide)).toNat = 191 := rfl
        have hck : ¬ c = k := by omega
        have hcv := fun wx s => run_sb (P := Try.prog) wx 9 22 5 s Try.underlying9 Try.underlying22 Try.underlying5
        obtain rfl | rfl | rfl : h = 0 ∨ h = 1 ∨ h = 2 := by simp at hh'; omega
        · go_wp2_with fail
          · have hcutD := hcut.drew
            go_region_law (refine step_append_Own _ rfl _ _ _ rfl w.heap.size 5 i0 _ 1 1 Try.underlying22 hi0 hz0 hz1 hz2 rfl (by omega) (by omega) (sbV _ _ _) _ _ rfl ((sb_own wr.drew 5 _ (by decide)).mono hg.size) wr.heap.size (some (ad.add k)) (n - k) (c - k) (bytesV (b.drop k)) rfl (hcutD.grown (sb_grown wr.drew _ _) (Nat.le_refl _) (fun _ e => by cases e)) (bytesV_one _) (by simp [ByteArray.size, maxLen]; omega) (by simp [ByteArray.size]; omega) (by rw [sb_size]; have := hg.size; simp; omega) ?_; intro v1 w1 hown1 hg1 hat1)
            have hgW' := grownBy_after (sb_grown wr.drew _ _) hg1
            have hgW : wr.grownBy w1 none := ⟨hgW'.os, hgW'.tape, hgW'.output, hgW'.size, hgW'.block⟩
            have hB1 := hst'.grown hgW (by simp)
            clear c0 c1 c2 f0 f1 f2
            have c0 := hB1.cell 0
            have c1 := hB1.cell 1
            have f0 := hB1.frozen 0
            have f1 := hB1.frozen 1
            simp [BS.cells] at c0 c1
            go_wp2
            have HF := HF'.out
            rw [HD.out] at HF
            rw [feedL_miss _ _ _ _ _ (by rfl) ‹_›] at HF
            rw [HD.out] at hown1
            refine HR.out _ _ ⟨v1, rfl, ?_, grownBy_set (grownBy_set (hg.trans (grownBy_weak hgW)) _ _) _ _, ?_⟩
            · rw [← HF]
              exact (hown1.bytes _ (bytesV_append _ _).symm).far hst.lt (grownBy_set (grownBy_set (.refl _ _) _ _) _ _)
            · rw [← HF]; exact (hB1.put 0 (.int .i64 0)).put 1 (.bool true)
          · have HF := HF'.out
            rw [HD.out] at HF
            rw [feedL_hit _ _ _ _ _ ⟨1, false, d⟩ (by rfl) (by rfl) ‹_›] at HF
            exact ⟨⟨k + 1, ⟨1, false, d⟩, by omega, by go_num, by simp, (hst'.put 0 (.int .i64 1)), HF, (grownBy_set hg _ _)⟩, by simp [intOf]; omega⟩
        · go_wp2_with fail
          · have hcutD := hcut.drew
            go_region_law (refine step_append_Own _ rfl _ _ _ rfl w.heap.size 5 i0 _ 1 1 Try.underlying22 hi0 hz0 hz1 hz2 rfl (by omega) (by omega) (sbV _ _ _) _ _ rfl ((sb_own wr.drew 5 _ (by decide)).mono hg.size) wr.heap.size (some (ad.add k)) (n - k) (c - k) (bytesV (b.drop k)) rfl (hcutD.grown (sb_grown wr.drew _ _) (Nat.le_refl _) (fun _ e => by cases e)) (bytesV_one _) (by simp [ByteArray.size, maxLen]; omega) (by simp [ByteArray.size]; omega) (by rw [sb_size]; have := hg.size; simp; omega) ?_; intro v1 w1 hown1 hg1 hat1)
            have hgW' := grownBy_after (sb_grown wr.drew _ _) hg1
            have hgW : wr.grownBy w1 none := ⟨hgW'.os, hgW'.tape, hgW'.output, hgW'.size, hgW'.block⟩
            have hB1 := hst'.grown hgW (by simp)
            clear c0 c1 c2 f0 f1 f2
            have c0 := hB1.cell 0
            have c1 := hB1.cell 1
            have f0 := hB1.frozen 0
            have f1 := hB1.frozen 1
            simp [BS.cells] at c0 c1
            go_wp2
            have HF := HF'.out
            rw [HD.out] at HF
            rw [feedL_miss _ _ _ _ _ (by rfl) ‹_›] at HF
            rw [HD.out] at hown1
            refine HR.out _ _ ⟨v1, rfl, ?_, grownBy_set (grownBy_set (hg.trans (grownBy_weak hgW)) _ _) _ _, ?_⟩
            · rw [← HF]
              exact (hown1.bytes _ (bytesV_append _ _).symm).far hst.lt (grownBy_set (grownBy_set (.refl _ _) _ _) _ _)
            · rw [← HF]; exact (hB1.put 0 (.int .i64 0)).put 1 (.bool true)
          · have HF := HF'.out
            rw [HD.out] at HF
            rw [feedL_hit _ _ _ _ _ ⟨2, false, d⟩ (by rfl) (by rfl) ‹_›] at HF
            exact ⟨⟨k + 1, ⟨2, false, d⟩, by omega, by go_num, by simp, (hst'.put 0 (.int .i64 2)), HF, (grownBy_set hg _ _)⟩, by simp [intOf]; omega⟩
        · go_wp2_with fail
          · have hcutD := hcut.drew
            go_region_law (refine step_append_Own _ rfl _ _ _ rfl w.heap.size 5 i0 _ 1 1 Try.underlying22 hi0 hz0 hz1 hz2 rfl (by omega) (by omega) (sbV _ _ _) _ _ rfl ((sb_own wr.drew 5 _ (by decide)).mono hg.size) wr.heap.size (some (ad.add k)) (n - k) (c - k) (bytesV (b.drop k)) rfl (hcutD.grown (sb_grown wr.drew _ _) (Nat.le_refl _) (fun _ e => by cases e)) (bytesV_one _) (by simp [ByteArray.size, maxLen]; omega) (by simp [ByteArray.size]; omega) (by rw [sb_size]; have := hg.size; simp; omega) ?_; intro v1 w1 hown1 hg1 hat1)
            have hgW' := grownBy_after (sb_grown wr.drew _ _) hg1
            have hgW : wr.grownBy w1 none := ⟨hgW'.os, hgW'.tape, hgW'.output, hgW'.size, hgW'.block⟩
            have hB1 := hst'.grown hgW (by simp)
            clear c0 c1 c2 f0 f1 f2
            have c0 := hB1.cell 0
            have c1 := hB1.cell 1
            have f0 := hB1.frozen 0
            have f1 := hB1.frozen 1
            simp [BS.cells] at c0 c1
            go_wp2
            have HF := HF'.out
            rw [HD.out] at HF
            rw [feedL_miss _ _ _ _ _ (by rfl) ‹_›] at HF
            rw [HD.out] at hown1
            refine HR.out _ _ ⟨v1, rfl, ?_, grownBy_set (grownBy_set (hg.trans (grownBy_weak hgW)) _ _) _ _, ?_⟩
            · rw [← HF]
              exact (hown1.bytes _ (bytesV_append _ _).symm).far hst.lt (grownBy_set (grownBy_set (.refl _ _) _ _) _ _)
            · rw [← HF]; exact (hB1.put 0 (.int .i64 0)).put 1 (.bool true)
          · have HF := HF'.out
            rw [HD.out] at HF
            rw [feedL_hit _ _ _ _ _ ⟨0, true, true⟩ (by rfl) (by rfl) ‹_›] at HF
            exact ⟨⟨k + 1, ⟨0, true, true⟩, by omega, by go_num, by simp, ((((hst'.put 0 (.int .i64 3)).put 0 (.int .i64 0)).put 1 (.bool true)).put 2 (.bool true)), HF, (grownBy_set (grownBy_set (grownBy_set (grownBy_set hg _ _) _ _) _ _) _ _)⟩, by simp [intOf]; omega⟩
      · go_wp2_with ((with_reducible refine (clone_bytes (some (ad.add k)) (n - k) (c - k) _ _ hcut (bytesV_one _) ?_).mono ?_); (omega); rintro e w1 ⟨v, rfl, hown, hg1⟩)
        have HF := HF'.out
        rw [HD.out] at HF
        simp only [feedL, if_true] at HF
        have hown' := hown.mono (base' := w.heap.size) hg.size
        rw [HD.out] at hown'
        refine HR.out _ _ ⟨v, rfl, ?_, hg.trans (grownBy_weak hg1), ?_⟩
        · rw [← HF]
          have hlen : n - k = (b[k] :: b.drop (k + 1)).length := by rw [← HD.out, List.length_drop, hbl]
          rw [hlen] at hown'
          exact hown'
        · rw [← HF]; exact hst'.grown hg1 (by simp)
    · go_wp2
      have hnk : b.drop k = [] := List.drop_of_length_le (by omega)
      have HF := HF'.out
      rw [hnk] at HF
      simp only [feedL] at HF
      refine HR.out _ _ ⟨_, rfl, ?_, hg, ?_⟩
      · rw [← HF]; exact Own.nil_ _ _ _ _
      · rw [← HF]; exact hst'
theorem feed_closed (g : Nat) (A : Option Addr) (n c : Nat) (st : BS) (w : World) (hst : Box w g 40 (st.cells true)) :
    Calls Try.prog 8 #[.pointer (some ⟨g, 0, none⟩), .slice A n c] w fun e w' => e = .returned (.slice none 0 0) ∧ w = w' := by
  have c3 := hst.cell 3
  simp [BS.cells] at c3
  go_enter Try.func8, Try.ntmps8
  go_wp2
  go_ret
  exact ⟨rfl, rfl⟩

theorem close_any (g : Nat) (st : BS) (cl : Bool) (w : World) (hst : Box w g 40 (st.cells cl)) (hh : st.held ≤ 2) :
    Calls Try.prog 9 #[.pointer (some ⟨g, 0, none⟩)] w fun e w' =>
      ∃ v, e = .returned v ∧ Own w' w.heap.size 5 1 v st.held (bytesV (markL.take st.held)) ∧ w.grownBy w' (some g) ∧ Box w' g 40 ((⟨0, true, st.had⟩ : BS).cells true) := by
  refine cps fun R HR => ?_
  obtain ⟨h, o, d⟩ := st
  have hcv := fun wx s => run_sb (P := Try.prog) wx 9 22 5 s Try.underlying9 Try.underlying22 Try.underlying5
  have c0 := hst.cell 0
  simp [BS.cells] at c0
  obtain rfl | rfl | rfl : h = 0 ∨ h = 1 ∨ h = 2 := by simp at hh; omega
  · have hB := hst.grown (sb_grown w 5 ByteArray.empty) (by simp)
    have hO := sb_own w 5 ByteArray.empty (by decide)
    have HO := Lib.hid hO; clear hO
    have d0 := hB.cell 0
    have d1 := hB.cell 1
    have d3 := hB.cell 3
    have f0 := hB.frozen 0
    have f1 := hB.frozen 1
    have f3 := hB.frozen 3
    simp [BS.cells] at d0 d1 d3
    go_enter Try.func9, Try.ntmps9
    go_wp2
    exact HR.out _ _ ⟨_, rfl, HO.out.far hst.lt (grownBy_set (grownBy_set (grownBy_set (.refl _ _) _ _) _ _) _ _), grownBy_set (grownBy_set (grownBy_set (grownBy_weak (sb_grown w _ _)) _ _) _ _) _ _, ((hB.put 0 (.int .i64 0)).put 1 (.bool true)).put 3 (.bool true)⟩
  · have hB := hst.grown (sb_grown w 5 (({ data := #[239, 187, 191] } : ByteArray).extract 0 1)) (by simp)
    have hO := sb_own w 5 (({ data := #[239, 187, 191] } : ByteArray).extract 0 1) (by decide)
    have HO := Lib.hid hO; clear hO
    have d0 := hB.cell 0
    have d1 := hB.cell 1
    have d3 := hB.cell 3
    have f0 := hB.frozen 0
    have f1 := hB.frozen 1
    have f3 := hB.frozen 3
    simp [BS.cells] at d0 d1 d3
    go_enter Try.func9, Try.ntmps9
    go_wp2
    exact HR.out _ _ ⟨_, rfl, HO.out.far hst.lt (grownBy_set (grownBy_set (grownBy_set (.refl _ _) _ _) _ _) _ _), grownBy_set (grownBy_set (grownBy_set (grownBy_weak (sb_grown w _ _)) _ _) _ _) _ _, ((hB.put 0 (.int .i64 0)).put 1 (.bool true)).put 3 (.bool true)⟩
  · have hB := hst.grown (sb_grown w 5 (({ data := #[239, 187, 191] } : ByteArray).extract 0 2)) (by simp)
    have hO := sb_own w 5 (({ data := #[239, 187, 191] } : ByteArray).extract 0 2) (by decide)
    have HO := Lib.hid hO; clear hO
    have d0 := hB.cell 0
    have d1 := hB.cell 1
    have d3 := hB.cell 3
    have f0 := hB.frozen 0
    have f1 := hB.frozen 1
    have f3 := hB.frozen 3
    simp [BS.cells] at d0 d1 d3
    go_enter Try.func9, Try.ntmps9
    go_wp2
    exact HR.out _ _ ⟨_, rfl, HO.out.far hst.lt (grownBy_set (grownBy_set (grownBy_set (.refl _ _) _ _) _ _) _ _), grownBy_set (grownBy_set (grownBy_set (grownBy_weak (sb_grown w _ _)) _ _) _ _) _ _, ((hB.put 0 (.int .i64 0)).put 1 (.bool true)).put 3 (.bool true)⟩

theorem held_any (g : Nat) (st : BS) (cl : Bool) (w : World) (hst : Box w g 40 (st.cells cl)) :
    Calls Try.prog 12 #[.pointer (some ⟨g, 0, none⟩)] w fun e w' => e = .returned (.int .i64 st.held) ∧ w = w' := by
  have c0 := hst.cell 0
  simp [BS.cells] at c0
  go_enter Try.func12, Try.ntmps12
  go_wp2
  go_ret
  exact ⟨rfl, rfl⟩

theorem stripped_any (g : Nat) (st : BS) (cl : Bool) (w : World) (hst : Box w g 40 (st.cells cl)) :
    Calls Try.prog 14 #[.pointer (some ⟨g, 0, none⟩)] w fun e w' => e = .returned (.bool st.had) ∧ w = w' := by
  have c0 := hst.cell 2
  simp [BS.cells] at c0
  go_enter Try.func14, Try.ntmps14
  go_wp2
  go_ret
  exact ⟨rfl, rfl⟩

theorem new_any (w : World) : Calls Try.prog 6 #[] w fun e w' => e = .returned (.pointer (some ⟨w.heap.size, 0, none⟩)) ∧ w' = w.alloc (.cells ((⟨0, false, false⟩ : BS).cells false) 40) := by
  go_enter Try.func6, Try.ntmps6
  go_wp2
  go_ret
  exact ⟨rfl, rfl⟩

end Go.Proofs.Ytlcglijkpbojgaa

/- Layer 13: Copy. -/
import Derived.Test.YtamhdlopchhdjaaTabS
import Derived.Lib.SlBytesConst
namespace Go.Proofs.Ytamhdlopchhdjaa
open Go.RowKit Go.ChangeShapes Go.WideShapes
set_option linter.unusedVariables false
set_option linter.unusedSimpArgs false

theorem strV_one (l : Row) : ∀ u ∈ strV l, u.oneCell' = true := fun u hu => by
  unfold strV at hu
  obtain ⟨s, -, rfl⟩ := List.mem_map.1 hu
  rfl
theorem cloneS_any (v : Value) (l : Row) (w : World) (h : RdS w w.heap.size v l) (hl : l.length ≤ 100000) :
    Calls Try.prog 37 #[v] w fun e w' => ∃ u, e = .returned u ∧ Own w' w.heap.size 9 1 u l.length (strV l) ∧ Below w.heap.size w w' := by
  refine cps fun R HR => ?_
  obtain ⟨A, c, rfl, hr⟩ := h.is
  obtain ⟨i0, hi0, hz0, hz1, hz2⟩ := info_parts str_info
  cases A with
  | none =>
    have hn := hr.nil rfl
    have hx : l = [] := List.eq_nil_of_length_eq_zero hn
    subst hx
    have heq := fun w' => Lib.run_eql_slice_nil (P := Try.prog) w' 33 9 none 0 c 0 0 Try.underlying33
    go_enter Try.func37, Try.ntmps37
    go_wp2
    exact HR.out _ _ ⟨_, rfl, Own.nil_ _ _ _ _, Below.refl _ _⟩
  | some ad =>
    have heq := fun w' => Lib.run_eql_slice_nil (P := Try.prog) w' 33 9 (some ad) l.length c 0 0 Try.underlying33
    go_enter Try.func37, Try.ntmps37
    go_wp2_with (at_builtin; refine wpList_append_Own _ rfl _ _ _ rfl w.heap.size 9 i0 _ 1 16 Try.underlying33 hi0 hz0 hz1 hz2 rfl (by omega) (by omega) (.slice (some ⟨w.heap.size, 0, none⟩) 0 0) 0 [] rfl (Own.made w _ _ _ (Nat.le_refl _)) w.heap.size (some ad) l.length c (strV l) rfl (hr.alloc (Nat.le_refl _) _) (strV_one l) (by simp only [maxLen]; omega) (by omega) (by simp) ?_; intro v1 w1 hown1 hg1 hat1)
    refine HR.out _ _ ⟨v1, rfl, by simpa using hown1, ?_⟩
    exact below_grown ((Below.refl w.heap.size w).alloc (Nat.le_refl _) _) hg1 (fun g hg => by simp [Value.ownBlock] at hg; omega) (by simp)

/-- Own, from another world that holds the same block. -/
theorem Own.agree {w w' : World} {base size n : Nat} {e : TypeId} {v : Value} {xs : List Value} (h : Own w base e size v n xs) (hb : ∀ g, v.ownBlock = some g → w'.heap[g]? = w.heap[g]?) : Own w' base e size v n xs := by
  refine ⟨h.1, ?_⟩
  rcases h.2 with hn | ⟨g, cap, cur, fr, hv, hg, hh, rest⟩
  · exact .inl hn
  · exact .inr ⟨g, cap, cur, fr, hv, hg, by rw [hb g (by rw [hv]; rfl)]; exact hh, rest⟩
/-- A table of the call's own, its rows the call's own too. -/
structure TabOwn (w : World) (base : Nat) (v : Value) (t : Tbl) : Prop where
  is : ∃ vs, Own w base 33 1 v t.length vs ∧ Each (fun u l => Own w base 9 1 u l.length (strV l) ∧ (u.ownBlock = none ∨ u.ownBlock ≠ v.ownBlock)) vs t
theorem TabOwn.none_ (w : World) (base : Nat) : TabOwn w base (.slice none 0 0) [] := ⟨[], Own.nil_ _ _ _ _, Each.nil⟩
theorem TabOwn.agree {w w' : World} {base : Nat} {v : Value} {t : Tbl} (h : TabOwn w base v t) (hb : ∀ g, base ≤ g → g < w.heap.size → w'.heap[g]? = w.heap[g]?) : TabOwn w' base v t := by
  obtain ⟨vs, h1, h2⟩ := h.is
  refine ⟨vs, h1.agree fun g hg => hb g (h1.lt g hg).1 (h1.lt g hg).2, h2.imp fun u l ⟨h3, h4⟩ => ⟨h3.agree fun g hg => hb g (h3.lt g hg).1 (h3.lt g hg).2, h4⟩⟩
theorem TabOwn.keep {w w' : World} {base : Nat} {v : Value} {t : Tbl} (h : TabOwn w base v t) (hb : Below w.heap.size w w') : TabOwn w' base v t := h.agree fun g _ hg => hb.block g hg
theorem TabOwn.rd {w : World} {base : Nat} {v : Value} {t : Tbl} (h : TabOwn w base v t) : RdT w w.heap.size v t := by
  obtain ⟨vs, h1, h2⟩ := h.is
  obtain ⟨A, c, h3, h4⟩ := h1.form
  refine ⟨A, c, vs, h3, h4, h2.imp fun u l ⟨h5, _⟩ => ?_⟩
  obtain ⟨A', c', h6, h7⟩ := h5.form
  exact ⟨A', c', h6, h7⟩
set_option maxHeartbeats 1000000 in
theorem copy_any (v : Value) (t : Tbl) (w : World) (h : RdT w w.heap.size v t) (hb : t.length ≤ 100000) (hr : tot List.length t ≤ 100000) :
    Calls Try.prog 28 #[v] w fun e w' => ∃ u, e = .returned u ∧ TabOwn w' w.heap.size u t ∧ Below w.heap.size w w' := by
  refine cps fun R HR => ?_
  obtain ⟨i0, hi0, hz0, hz1, hz2⟩ := info_parts row_info
  have h0 := h
  obtain ⟨A, c, vs, rfl, -, -⟩ := h.is
  have hfew := h.few
  clear h
  have HRr := Lib.hid hr; clear hr
  go_enter Try.func28, Try.ntmps28
  go_wp2
  go_loopw [3, 8] (fun o i wr => ∃ k : Nat, k ≤ t.length ∧ i = .int .i64 k ∧ TabOwn wr w.heap.size o (t.take k) ∧ Below w.heap.size w wr) (fun _ i _ => t.length - (intOf i).toNat)
  case atStart => exact ⟨0, Nat.zero_le _, rfl, TabOwn.none_ _ _, Below.refl _ _⟩
  case round =>
    obtain ⟨k, hk, rfl, hO, hB⟩ := hrel
    by_cases hlt : k < t.length
    · obtain ⟨p, c3, u, hv, hc, hu⟩ := (h0.next hB).at hlt
      injection hv with hA _ hcc
      subst hA
      subst hcc
      have hs1 : t.take (k + 1) = t.take k ++ [t[k]] := List.take_succ_eq_append_getElem hlt
      have hxl : t[k].length ≤ 100000 := by
        have h1 := HRr.out
        have h2 : t[k].length ≤ tot List.length t := le_sum (List.mem_map_of_mem (List.getElem_mem hlt))
        omega
      obtain ⟨x, hx⟩ : ∃ x, x = t[k] := ⟨_, rfl⟩
      rw [← hx] at hu hs1 hxl
      have S1 := Lib.hid hs1
      clear hx hs1
      have dk : decide ((k : Int) < t.length) = true := decide_eq_true (by omega)
      have hu0 := hu
      obtain ⟨A2, c2, rfl, -⟩ := hu.is
      clear hu
      go_wp2_with fail
      refine (cloneS_any _ x _ hu0 hxl).mono ?_
      rintro e w2 ⟨y, rfl, hy, b2⟩
      have hb2 := hB.trans (b2.mono hB.size)
      have hO2 := hO.keep b2
      obtain ⟨vs2, ho3, he3⟩ := hO2.is
      have hkl : (t.take k).length = k := by rw [List.length_take]; omega
      rw [hkl] at ho3
      have hy0 := hy
      obtain ⟨yA, yc, rfl, -⟩ := hy.form
      go_wp2_with (at_builtin; refine wpList_push rfl _ _ _ rfl w.heap.size 33 i0 _ 24 Try.underlying22 hi0 hz0 hz1 hz2 rfl (by omega) u3 k _ (.slice yA x.length yc) rfl ho3 rfl rfl (by omega) hb2.size ?_; intro v3 w3 hown3 hg3 hat3)
      have hlow : ∀ g, u3.ownBlock = some g → w.heap.size ≤ g ∧ g < wr.heap.size := fun g hg => by
        obtain ⟨vs9, h9, -⟩ := hO.is
        exact h9.lt g hg
      have hn : TabOwn w3 w.heap.size v3 (t.take (k + 1)) := by
        rw [S1.out]
        refine ⟨vs2 ++ [.slice yA x.length yc], by rw [List.length_append, hkl]; exact hown3, ?_⟩
        have tr : ∀ (u : Value) (l : Row), Own w2 w.heap.size 9 1 u l.length (strV l) → (u.ownBlock = none ∨ u.ownBlock ≠ u3.ownBlock) → Own w3 w.heap.size 9 1 u l.length (strV l) ∧ (u.ownBlock = none ∨ u.ownBlock ≠ v3.ownBlock) := fun u l q1 q2 => by
          refine ⟨q1.kept hg3 q2, ?_⟩
          rcases q2 with q2 | q2
          · exact .inl q2
          · rcases hat3 with ha | ⟨g, ha, hge⟩
            · exact .inr (by rw [ha]; exact q2)
            · right
              rw [ha]
              intro hh
              have := (q1.lt g hh).2
              omega
        refine (he3.imp fun u l ⟨q1, q2⟩ => tr u l q1 q2).snoc ?_
        refine tr _ x (hy0.mono hB.size) ?_
        cases hq : (Value.slice yA x.length yc).ownBlock with
        | none => exact .inl rfl
        | some g =>
          right
          intro hh
          have h8 := (hlow g hh.symm).2
          have h7 := (hy0.lt g hq).1
          omega
      exact ⟨⟨k + 1, by omega, by go_num, hn, below_grown hb2 hg3 (fun g hg => (hlow g hg).1) hb2.size⟩, by simp [intOf]; omega⟩
    · obtain rfl : k = t.length := by omega
      rw [List.take_length] at hO
      clear hlt
      go_wp2
      exact HR.out _ _ ⟨_, rfl, hO, hB⟩
end Go.Proofs.Ytamhdlopchhdjaa

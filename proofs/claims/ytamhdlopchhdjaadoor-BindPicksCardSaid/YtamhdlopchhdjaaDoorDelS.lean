/- slices.Delete of one string, out of a row of the call's own. -/
import Derived.Test.YtamhdlopchhdjaaDoorTabD
import Derived.Deep.RegionLaw
import Derived.Lib.SliceRun
namespace Go.Proofs.YtamhdlopchhdjaaDoor
open Go.RowKit Go.ChangeShapes Go.WideShapes
set_option linter.unusedVariables false
set_option linter.unusedSimpArgs false

theorem zeroS (w : World) : (zeroValue 9).run Tryd.prog w = .ok (.string ⟨#[]⟩) w := by kernel_rfl
theorem setCells_grown (g : Nat) (vs : List Value) (o : Nat) (w : World) : w.grownBy (w.drew.setCells g o vs) (some g) := (grownBy_drew (.refl w (some g))).trans (setCells_grownBy g vs o w.drew)
set_option maxHeartbeats 1000000 in
set_option maxRecDepth 100000 in
theorem delete_any (g n c k : Nat) (l : Row) (w : World) {base : Nat} (h : Own w base 9 1 (.slice (some ⟨g, 0, none⟩) n c) n (strV l)) (hk : k < n) :
    Calls Tryd.prog 39 #[.slice (some ⟨g, 0, none⟩) n c, .int .i64 k, .int .i64 ((k : Int) + 1)] w fun e w' => e = .returned (.slice (some ⟨g, 0, none⟩) (k + (n - (k + 1))) c) ∧ Own w' base 9 1 (.slice (some ⟨g, 0, none⟩) (k + (n - (k + 1))) c) (k + (n - (k + 1))) (strV (l.eraseIdx k)) ∧ w.grownBy w' (some g) := by
  refine cps fun R HR => ?_
  obtain ⟨i0, hi0, hz0, hz1, hz2⟩ := info_parts str_info
  have hfew := h.1.2
  have hxl := h.1.1
  rcases h.2 with ⟨hv, _⟩ | ⟨g', c', cur, fr, hv, hbase, hg, hf, hnc, hcm, hcs, hct⟩
  · cases hv
  injection hv with hA _ hc
  injection hA with hA
  injection hA with hA
  subst hA
  subst hc
  rw [Nat.mul_one] at hxl hcs hct
  rw [strV_len] at hxl
  obtain ⟨m, hm⟩ : ∃ m, m = n - (k + 1) := ⟨_, rfl⟩
  rw [← hm] at HR
  obtain ⟨news, hnews⟩ : ∃ news, news = strV (l.drop (k + 1)) := ⟨_, rfl⟩
  have hnl : news.length = m := by rw [hnews, strV_len, List.length_drop]; omega
  have hcell : ∀ j, j < n → w.cell? ⟨g, j, none⟩ = (strV l)[j]? := fun j hj => by
    rw [cell_of_row w g j cur 9 fr hg, ← hct, List.getElem?_take, if_pos hj, Array.getElem?_toList]
  have hfz : ∀ j, j < c → w.frozen? ⟨g, j, none⟩ = false := fun j hj => by
    have := hf j (by omega)
    unfold World.frozen?
    simp [hg]
    omega
  obtain ⟨A, hA, hsrc⟩ : ∃ A : Addr, (if c = k + 1 then some (⟨g, 0, none⟩ : Addr) else some ⟨g, k + 1, none⟩) = some A ∧ Hid (∀ t u, news[t]? = some u → w.drew.cell? (A.add t) = some u) := by
    by_cases h1 : c = k + 1
    · refine ⟨⟨g, 0, none⟩, by simp [h1], fun t u hu => ?_⟩
      have h0 : news.length = 0 := by omega
      rw [List.length_eq_zero_iff.1 h0] at hu
      simp at hu
    · refine ⟨⟨g, k + 1, none⟩, by simp [h1], fun t u hu => ?_⟩
      have ht : t < m := by
        have := (List.getElem?_eq_some_iff.1 hu).1
        omega
      rw [Addr.add_lit]
      show w.cell? _ = _
      rw [hcell _ (by omega)]
      rw [hnews] at hu
      unfold strV at hu ⊢
      rw [List.getElem?_map, List.getElem?_drop] at hu
      rw [List.getElem?_map]
      exact hu
  have s1 : Hid (news.length = m * 1) := by rw [Nat.mul_one]; exact hnl
  have s2 : Hid (∀ u ∈ news, u.oneCell' = true) := by
    intro u hu
    rw [hnews] at hu
    obtain ⟨x, _, rfl⟩ := List.mem_map.1 hu
    rfl
  have s3 : Hid (∀ t, t < news.length → (w.drew.cell? ⟨g, 0 + k * 1 + t, none⟩).isSome = true ∧ w.drew.frozen? ⟨g, 0 + k * 1 + t, none⟩ = false) := by
    intro t ht
    rw [show 0 + k * 1 + t = k + t by omega]
    refine ⟨?_, hfz _ (by omega)⟩
    show (w.cell? _).isSome = true
    rw [hcell _ (by omega), List.getElem?_eq_getElem (by rw [strV_len]; omega)]
    rfl
  obtain ⟨W1, hW1⟩ : ∃ W1, W1 = w.drew.setCells g (0 + k * 1) news := ⟨_, rfl⟩
  have hg1 : W1.heap[g]? = some (.cells (cur.toList.take k ++ news ++ cur.toList.drop (k + news.length)).toArray 9 fr) := by
    rw [hW1, show 0 + k * 1 = k by omega]
    exact setCells_heap g _ fr news k cur w.drew hg (by omega)
  obtain ⟨cur1, hcur1⟩ : ∃ cur1, cur1 = (cur.toList.take k ++ news ++ cur.toList.drop (k + news.length)).toArray := ⟨_, rfl⟩
  rw [← hcur1] at hg1
  have hcl1 : cur.toList.length = c := by rw [Array.length_toList]; omega
  have hcs1 : cur1.size = c := by
    rw [hcur1, List.size_toArray, List.length_append, List.length_append, List.length_take, List.length_drop, hnl, hcl1]
    omega
  have hct1 : cur1.toList.take (k + m) = strV (l.eraseIdx k) := by
    rw [hcur1, List.eraseIdx_eq_take_drop_succ]
    show (cur.toList.take k ++ news ++ cur.toList.drop (k + news.length)).take (k + m) = _
    rw [List.take_append_of_le_length (by rw [List.length_append, List.length_take, hnl, hcl1]; omega), List.take_of_length_le (by rw [List.length_append, List.length_take, hnl]; omega)]
    have h2 : cur.toList.take k = strV (l.take k) := by
      have : (cur.toList.take n).take k = (strV l).take k := by rw [hct]
      rw [List.take_take, Nat.min_eq_left (by omega)] at this
      rw [this]
      unfold strV
      rw [List.map_take]
    rw [h2, hnews]
    unfold strV
    rw [List.map_append]
  have hfz1 : ∀ j, j < c → W1.frozen? ⟨g, j, none⟩ = false := fun j hj => by
    have := hf j (by omega)
    unfold World.frozen?
    simp [hg1]
    omega
  have hcl : ∀ ty, (Builtin.clear_ #[22] ty #[.slice (some ⟨g, k + m, none⟩) (n - (k + m)) (c - (k + m))]).run Tryd.prog W1 = .ok (.tuple #[]) (W1.setCells g (k + m) (List.replicate (n - (k + m)) (.string ⟨#[]⟩))) :=
    fun ty => Lib.run_clear_slice W1 _ _ ty _ Tryd.underlying22 zeroS rfl rfl g (k + m) _ _ (by omega)
      (fun t ht => by rw [cell_of_row W1 g _ cur1 _ fr hg1, Array.getElem?_eq_getElem (by omega)]; rfl)
      (fun t ht => by exact hfz1 _ (by omega))
  have hfin : Own (W1.setCells g (k + m) (List.replicate (n - (k + m)) (.string ⟨#[]⟩))) base 9 1 (.slice (some ⟨g, 0, none⟩) (k + m) c) (k + m) (strV (l.eraseIdx k)) := by
    refine ⟨⟨by rw [← hct1, List.length_take, Array.length_toList]; omega, by omega⟩, .inr ⟨g, c, _, fr, rfl, hbase, setCells_heap g _ fr _ (k + m) cur1 W1 hg1 (by rw [List.length_replicate]; omega), fun j hj => hf j ?_, by omega, hcm, ?_, ?_⟩⟩
    · rw [List.size_toArray, List.length_append, List.length_append, List.length_take, List.length_drop, List.length_replicate, Array.length_toList] at hj
      omega
    · rw [List.size_toArray, List.length_append, List.length_append, List.length_take, List.length_drop, List.length_replicate, Array.length_toList]
      omega
    · rw [Nat.mul_one, ← hct1]
      show (cur1.toList.take (k + m) ++ _ ++ _).take (k + m) = _
      rw [List.append_assoc, List.take_append_of_le_length (by rw [List.length_take, Array.length_toList]; omega), List.take_take, Nat.min_self]
  have hgrow : w.grownBy (W1.setCells g (k + m) (List.replicate (n - (k + m)) (.string ⟨#[]⟩))) (some g) := by
    rw [hW1]
    exact (setCells_grown g news _ w).trans (setCells_grownBy g _ _ _)
  have HFIN := Lib.hid hfin; have HGROW := Lib.hid hgrow; have HW1 := Lib.hid hW1
  have hic : k ≤ c := by omega
  have hjc : k + 1 ≤ c := by omega
  have hmn : k + m ≤ n := by omega
  have hmc : k + m ≤ c := by omega
  have hp0 : (0 : Int) ≤ (k : Int) + 1 := by omega
  have hp1 : (k : Int) + 1 ≤ (n : Int) := by omega
  have hp2 : ((k : Int) + 1).toNat = k + 1 := by omega
  have hp3 : ((k : Int) == (k : Int) + 1) = false := by rw [beq_eq_false_iff_ne]; omega
  subst hm
  clear hfin hgrow hW1 hfz1 hct1 hcs1 hcl1 hcur1 hg1 hfz hcell hnews hct hcs hf hg h hxl hnl
  go_enter Tryd.func39, Tryd.ntmps39
  go_wp2_with fail
  go_region_law (refine step_append_room rfl (.tmp 22) (.tmp 25) 22 rfl 9 i0 1 Tryd.underlying22 hi0 hz1 g 0 k c (by simp [Act.eval, Act.put]) A (n - (k + 1)) (c - (k + 1)) news (by simp [Act.eval, Act.put]) s1.out hsrc.out s2.out (by omega) s3.out ?_; rw [← HW1.out])
  go_wp2
  exact HR.out _ _ ⟨rfl, HFIN.out, HGROW.out⟩
end Go.Proofs.YtamhdlopchhdjaaDoor

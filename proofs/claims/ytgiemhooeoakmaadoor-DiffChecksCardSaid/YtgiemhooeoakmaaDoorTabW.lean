/- slices.Clone of strings. -/
import Derived.Test.YtgiemhooeoakmaaDoorTabD
import Derived.Lib.SlBytesConst
namespace Go.Proofs.YtgiemhooeoakmaaDoor
open Go.RowKit Go.ChangeShapes Go.WideShapes
set_option linter.unusedVariables false
set_option linter.unusedSimpArgs false

theorem strV_one (l : Row) : ∀ u ∈ strV l, u.oneCell' = true := fun u hu => by
  unfold strV at hu
  obtain ⟨s, -, rfl⟩ := List.mem_map.1 hu
  rfl
theorem cloneS_any (v : Value) (l : Row) (w : World) (h : RdS w w.heap.size v l) (hl : l.length ≤ 100000) :
    Calls Tryd.prog 132 #[v] w fun e w' => ∃ u, e = .returned u ∧ Own w' w.heap.size 9 1 u l.length (strV l) ∧ Below w.heap.size w w' := by
  refine cps fun R HR => ?_
  obtain ⟨A, c, rfl, hr⟩ := h.is
  obtain ⟨i0, hi0, hz0, hz1, hz2⟩ := info_parts str_info
  cases A with
  | none =>
    have hn := hr.nil rfl
    have hx : l = [] := List.eq_nil_of_length_eq_zero hn
    subst hx
    have heq := fun w' => Lib.run_eql_slice_nil (P := Tryd.prog) w' 26 9 none 0 c 0 0 Tryd.underlying26
    go_enter Tryd.func132, Tryd.ntmps132
    go_wp2
    exact HR.out _ _ ⟨_, rfl, Own.nil_ _ _ _ _, Below.refl _ _⟩
  | some ad =>
    have heq := fun w' => Lib.run_eql_slice_nil (P := Tryd.prog) w' 26 9 (some ad) l.length c 0 0 Tryd.underlying26
    go_enter Tryd.func132, Tryd.ntmps132
    go_wp2_with (at_builtin; refine wpList_append_Own _ rfl _ _ _ rfl w.heap.size 9 i0 _ 1 16 Tryd.underlying26 hi0 hz0 hz1 hz2 rfl (by omega) (by omega) (.slice (some ⟨w.heap.size, 0, none⟩) 0 0) 0 [] rfl (Own.made w _ _ _ (Nat.le_refl _)) w.heap.size (some ad) l.length c (strV l) rfl (hr.alloc (Nat.le_refl _) _) (strV_one l) (by simp only [maxLen]; omega) (by omega) (by simp) ?_; intro v1 w1 hown1 hg1 hat1)
    refine HR.out _ _ ⟨v1, rfl, by simpa using hown1, ?_⟩
    exact below_grown ((Below.refl w.heap.size w).alloc (Nat.le_refl _) _) hg1 (fun g hg => by simp [Value.ownBlock] at hg; omega) (by simp)
end Go.Proofs.YtgiemhooeoakmaaDoor

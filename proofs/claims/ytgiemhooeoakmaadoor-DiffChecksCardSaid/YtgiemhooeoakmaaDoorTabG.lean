/- How tables that came in are opened. -/
import Derived.Test.YtgiemhooeoakmaaDoorTabD
namespace Go.Proofs.YtgiemhooeoakmaaDoor
open Go.RowKit Go.ChangeShapes Go.WideShapes
set_option linter.unusedVariables false
set_option linter.unusedSimpArgs false
theorem each_strs : ∀ (vs : List Value) (l : Row), Each (fun u s => u = Value.string s) vs l → vs = strV l := by
  intro vs l h
  unfold strV
  apply List.ext_getElem?
  intro i
  rw [List.getElem?_map]
  cases hl : l[i]? with
  | none =>
    have : l.length ≤ i := by simpa using hl
    rw [List.getElem?_eq_none (by have := h.len; omega)]
    rfl
  | some s =>
    obtain ⟨u, hu, hr⟩ := h.got hl
    rw [hu, hr]
    rfl
section
variable {H : Type} {enc : TypeId × Value → H} {w : World} {base : Nat} {spare : Nat → Bool} {held : Bool}
set_option maxRecDepth 100000 in
theorem open_strs {fuel : Nat} {v : Value} {x : DataW H × List MemPlace} (h : DataW.trod enc Tryd.prog w base spare held fuel 26 [v] = some x) (hsz : Sized Tryd.prog 26 x.1) : ∃ l, RdS w w.heap.size v l := by
  obtain ⟨A, n, c, vs, l, hv, hs, hl⟩ := open_ones (R := fun u s => u = Value.string s) Tryd.underlying26 (by kernel_rfl) (of_decide_eq_true (by kernel_rfl)) h hsz (fun u f y hy hz => by
    obtain ⟨s, h1, -, -⟩ := DataW.trod_string Tryd.underlying9 hy
    injection h1 with h1
    exact ⟨s, h1⟩)
  have hvs := each_strs vs l hl
  subst hvs
  have hn : n = l.length := by have := hs.len; rw [strV_len] at this; omega
  subst hn
  exact ⟨l, A, c, hv, hs⟩
end
set_option maxRecDepth 100000 in
theorem open_strsV {H : Type} {enc : TypeId × Value → H} {w : World} {base : Nat} {spare : Nat → Bool} {held : Bool} {v : Value} {d : DataW H} {p : List MemPlace} {r : Reach} {b0 : Nat} (hv : Value.okWide Tryd.prog w r b0 26 v) (h : DataW.Trod enc Tryd.prog w base spare held 26 v d p) (hsz : Sized Tryd.prog 26 d) :
    ∃ l, RdS w w.heap.size v l := by
  obtain ⟨A0, n0, c0, rfl⟩ := okWide_slice Tryd.underlying26 hv
  obtain ⟨fuel, hf⟩ := h
  exact open_strs hf hsz
set_option maxRecDepth 100000 in
theorem open_strsB {H : Type} {enc : TypeId × Value → H} {w : World} {base : Nat} {spare : Nat → Bool} {held : Bool} {v : Value} {d : DataW H} {p : List MemPlace} {r : Reach} {b0 : Nat} (hv : Value.okWide Tryd.prog w r b0 26 v) (h : DataW.Trod enc Tryd.prog w base spare held 26 v d p) (hsz : Sized Tryd.prog 26 d) :
    ∃ l, RdS w w.heap.size v l ∧ ∀ s ∈ l, s.size ≤ 140737488351232 := by
  obtain ⟨A0, n0, c0, rfl⟩ := okWide_slice Tryd.underlying26 hv
  obtain ⟨fuel, hf⟩ := h
  obtain ⟨A, n, c, vs, l, hv, hs, hl⟩ := open_ones (R := fun u s => u = Value.string s ∧ s.size ≤ 140737488351232) Tryd.underlying26 (by kernel_rfl) (of_decide_eq_true (by kernel_rfl)) hf hsz (fun u f y hy hz => by
    obtain ⟨s, h1, h2, -⟩ := DataW.trod_string Tryd.underlying9 hy
    injection h1 with h1
    rw [h2] at hz
    exact ⟨s, h1, hz.str⟩)
  have hvs := each_strs vs l (hl.imp fun _ _ h => h.1)
  subst hvs
  have hn : n = l.length := by have := hs.len; rw [strV_len] at this; omega
  subst hn
  refine ⟨l, ⟨A, c, hv, hs⟩, fun s hm => ?_⟩
  obtain ⟨i, hi, rfl⟩ := List.mem_iff_getElem.1 hm
  obtain ⟨u, hu, hr⟩ := hl.got (List.getElem?_eq_getElem hi)
  exact hr.2
end Go.Proofs.YtgiemhooeoakmaaDoor

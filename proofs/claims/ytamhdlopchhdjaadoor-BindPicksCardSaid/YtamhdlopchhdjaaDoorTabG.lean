/- How tables that came in are opened. -/
import Derived.Test.YtamhdlopchhdjaaDoorTabD
namespace Go.Proofs.YtamhdlopchhdjaaDoor
open Go.RowKit Go.ChangeShapes Go.WideShapes
set_option linter.unusedVariables false
set_option linter.unusedSimpArgs false
theorem each_strs : ∀ (vs : List Value) (l : Row), Each (fun u s => u = Value.string s) vs l → vs = strV l := by
  intro vs l h
  unfold strV
  apply List.ext_getElem?
  intro i
  rw [List.getElem?_map]
  cases hl : l[i]? with
  | none =>
    have : l.length ≤ i := by simpa using hl
    rw [List.getElem?_eq_none (by have := h.len; omega)]
    rfl
  | some s =>
    obtain ⟨u, hu, hr⟩ := h.got hl
    rw [hu, hr]
    rfl
section
variable {H : Type} {enc : TypeId × Value → H} {w : World} {base : Nat} {spare : Nat → Bool} {held : Bool}
theorem open_strs {fuel : Nat} {v : Value} {x : DataW H × List MemPlace} (h : DataW.trod enc Tryd.prog w base spare held fuel 22 [v] = some x) (hsz : Sized Tryd.prog 22 x.1) : ∃ l, RdS w w.heap.size v l := by
  obtain ⟨A, n, c, vs, l, hv, hs, hl⟩ := open_ones (R := fun u s => u = Value.string s) Tryd.underlying22 (by kernel_rfl) (of_decide_eq_true (by kernel_rfl)) h hsz (fun u f y hy hz => by
    obtain ⟨s, h1, -, -⟩ := DataW.trod_string Tryd.underlying9 hy
    injection h1 with h1
    exact ⟨s, h1⟩)
  have hvs := each_strs vs l hl
  subst hvs
  have hn : n = l.length := by have := hs.len; rw [strV_len] at this; omega
  subst hn
  exact ⟨l, A, c, hv, hs⟩
theorem open_table {v : Value} {d : DataW H} {p : List MemPlace} {r : Reach} {b0 : Nat} (hv : Value.okWide Tryd.prog w r b0 65 v) (h : DataW.Trod enc Tryd.prog w base spare held 65 v d p) (hsz : Sized Tryd.prog 65 d) :
    ∃ t, RdT w w.heap.size v t := by
  obtain ⟨A0, n0, c0, rfl⟩ := okWide_slice Tryd.underlying65 hv
  obtain ⟨fuel, hf⟩ := h
  obtain ⟨A, n, c, vs, t, hv, hs, hl⟩ := open_ones (R := fun u r => RdS w w.heap.size u r) Tryd.underlying65 (by kernel_rfl) (of_decide_eq_true (by kernel_rfl)) hf hsz (fun u f y hy hz => open_strs hy hz)
  have hn : n = t.length := by have := hs.len; have := hl.len; omega
  subst hn
  exact ⟨t, A, c, vs, hv, hs, hl⟩
end
end Go.Proofs.YtamhdlopchhdjaaDoor

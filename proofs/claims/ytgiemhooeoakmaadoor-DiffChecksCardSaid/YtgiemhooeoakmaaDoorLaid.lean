/- What the row's list of package variables gives: an array, cell by cell. -/
import Derived.Test.YtgiemhooeoakmaaDoorOpen
import Derived.Deep.Strs
import Derived.Lib.LaidTab
namespace Go.Proofs.YtgiemhooeoakmaaDoor
open Go.RowKit Go.ChangeShapes Go.WideShapes
set_option linter.unusedVariables false
set_option linter.unusedSimpArgs false
section
variable {H : Type} {enc : TypeId × Value → H} {P : Program} {w : World} {base : Nat} {spare : Nat → Bool} {held : Bool}
theorem open_array {t e : TypeId} {n fuel : Nat} {cs : List Value} {x : DataW H × List MemPlace} (ht : P.underlying t = some (.array n e)) (hC : P.cellsOf e = 1) (hct : P.cellsOf t = n) (h : DataW.trod enc P w base spare held fuel t cs = some x) :
    ∃ f parts, x.1 = .agg parts ∧ ∀ i, i < n → ∃ u y, cs[i]? = some u ∧ parts[i]? = some y.1 ∧ DataW.trod enc P w base spare held f e [u] = some y := by
  cases fuel with
  | zero => simp [DataW.trod] at h
  | succ fuel =>
    simp only [DataW.trod, ht, hC, hct, Nat.mul_one] at h
    split at h
    · rename_i hl
      obtain ⟨xs, hm, hx⟩ := Option.map_eq_some_iff.1 h
      refine ⟨fuel, xs.map (·.1), by rw [← hx], fun i hi => ?_⟩
      obtain ⟨b, hb, hf⟩ := Lib.mapM_at hm i i (by simp [hi])
      obtain ⟨u, hu⟩ : ∃ u, cs[i]? = some u := ⟨_, List.getElem?_eq_getElem (by omega)⟩
      refine ⟨u, b, hu, by simp [hb], ?_⟩
      have h1 := (List.getElem?_eq_some_iff.1 hu)
      obtain ⟨h2, h3⟩ := h1
      rw [List.drop_eq_getElem_cons h2, h3] at hf
      simpa using hf
    · cases h
end
theorem laid_array {P : Program} {W : World} {name : String} {d : DataW Unit} {rest : List (String × DataW Unit)} {g : Nat} {t e : TypeId} {n : Nat}
    (hg : P.globalNamed name = some g) (hty : (P.globals[g]?).map (·.type) = some t) (ht : P.underlying t = some (.array n e)) (hC : P.cellsOf e = 1) (hct : P.cellsOf t = n)
    (h : laidMet P ((name, d) :: rest) W) : ∃ f parts, d = .agg parts ∧ ∀ i, i < n → ∃ u y, W.cell? ⟨g, i, none⟩ = some u ∧ parts[i]? = some y.1 ∧ DataW.trod (fun _ => ()) P W 0 (fun _ => true) false f e [u] = some y := by
  obtain ⟨ps, ⟨g', t', cs, fuel, p, q, hg', ht', hvar, hd, _, _⟩, _⟩ := h
  obtain rfl := Option.some.inj (hg.symm.trans hg')
  obtain rfl := Option.some.inj (hty.symm.trans ht')
  obtain ⟨f, parts, h1, h2⟩ := open_array ht hC hct hd
  refine ⟨f, parts, h1, fun i hi => ?_⟩
  obtain ⟨u, y, h3, h4, h5⟩ := h2 i hi
  refine ⟨u, y, ?_, h4, h5⟩
  have := World.var?_cell hg hvar i
  rw [this]
  exact (Array.getElem?_toList ..).symm.trans h3
/-- Cells that are, place by place, an element's. -/
theorem eq_flat {α : Type} {f : α → List Value} {size : Nat} (hf : ∀ a, (f a).length = size) : ∀ (L : List α) (xs : List Value), xs.length = L.length * size → (∀ i a, L[i]? = some a → (xs.drop (i * size)).take size = f a) → xs = L.flatMap f
  | [], xs, hl, _ => by
    simp at hl
    simp [hl]
  | a :: L, xs, hl, h => by
    have h0 := h 0 a rfl
    rw [Nat.zero_mul, List.drop_zero] at h0
    have hx := List.take_append_drop size xs
    rw [h0] at hx
    rw [← hx, List.flatMap_cons]
    congr 1
    refine eq_flat hf L _ (by rw [List.length_drop, hl, List.length_cons, Nat.succ_mul]; omega) fun i b hb => ?_
    have := h (i + 1) b (by simpa using hb)
    rw [List.drop_drop]
    rw [Nat.succ_mul, Nat.add_comm] at this
    exact this
end Go.Proofs.YtgiemhooeoakmaaDoor

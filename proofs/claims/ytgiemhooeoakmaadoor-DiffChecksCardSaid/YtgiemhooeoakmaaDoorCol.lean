/- Columns, as they lie in memory. -/
import Derived.Test.YtgiemhooeoakmaaDoorFlat
import Derived.Test.YtgiemhooeoakmaaDoorInts
namespace Go.Proofs.YtgiemhooeoakmaaDoor
open Go.RowKit Go.ChangeShapes Go.WideShapes
set_option linter.unusedVariables false
set_option linter.unusedSimpArgs false

structure Col where
  name : ByteArray
  kind : Int
  null : Bool
def colV (c : Col) : List Value := [.string c.name, .int .i64 c.kind, .bool c.null]
def nullI (b : Bool) : Int := if b then 1 else 0
/-- .. as the reference has them. -/
def rcolV (c : Col) : List Value := [.string c.name, .int .i64 c.kind, .int .i64 (nullI c.null)]
theorem colV_len (c : Col) : (colV c).length = 3 := rfl
theorem rcolV_len (c : Col) : (rcolV c).length = 3 := rfl
abbrev RdC (w : World) (B : Nat) (v : Value) (l : List Col) : Prop := RdF colV 3 w B v l
abbrev RdRC (w : World) (B : Nat) (v : Value) (l : List Col) : Prop := RdF rcolV 3 w B v l
/-- What a walk reads of a column. -/
theorem RdC.at {w : World} {B : Nat} {v : Value} {l : List Col} (h : RdC w B v l) {k : Nat} (hk : k < l.length) : ∃ a c, v = .slice (some a) l.length c ∧ w.cell? (a.add (k * 3)) = some (.string l[k].name) ∧
    w.cell? ⟨(a.add (k * 3)).block, (a.add (k * 3)).off + 1, none⟩ = some (.int .i64 l[k].kind) ∧ w.cell? ⟨(a.add (k * 3)).block, (a.add (k * 3)).off + 2, none⟩ = some (.bool l[k].null) := by
  obtain ⟨a, c, rfl, h0⟩ := RdF.at0 h colV_len (by omega) hk
  exact ⟨a, c, rfl, h0 _ rfl, RdF.atj h colV_len hk 0 rfl, RdF.atj h colV_len hk 1 rfl⟩
theorem RdRC.at {w : World} {B : Nat} {v : Value} {l : List Col} (h : RdRC w B v l) {k : Nat} (hk : k < l.length) : ∃ a c, v = .slice (some a) l.length c ∧ w.cell? (a.add (k * 3)) = some (.string l[k].name) ∧
    w.cell? ⟨(a.add (k * 3)).block, (a.add (k * 3)).off + 1, none⟩ = some (.int .i64 l[k].kind) ∧ w.cell? ⟨(a.add (k * 3)).block, (a.add (k * 3)).off + 2, none⟩ = some (.int .i64 (nullI l[k].null)) := by
  obtain ⟨a, c, rfl, h0⟩ := RdF.at0 h rcolV_len (by omega) hk
  exact ⟨a, c, rfl, h0 _ rfl, RdF.atj h rcolV_len hk 0 rfl, RdF.atj h rcolV_len hk 1 rfl⟩
def namesC (l : List Col) : Row := l.map (·.name)
theorem namesC_len (l : List Col) : (namesC l).length = l.length := by simp [namesC]
theorem namesC_snoc {l : List Col} {k : Nat} (hk : k < l.length) : namesC (l.take (k + 1)) = namesC (l.take k) ++ [l[k].name] := by
  unfold namesC
  rw [List.take_succ_eq_append_getElem hk, List.map_append]
  rfl
theorem namesC_take (l : List Col) (k : Nat) : namesC (l.take k) = (namesC l).take k := by unfold namesC; rw [List.map_take]
section
variable {H : Type} {enc : TypeId × Value → H} {w : World} {base : Nat} {spare : Nat → Bool} {held : Bool}
set_option maxRecDepth 100000 in
theorem open_col {f : Nat} {cs : List Value} {y : DataW H × List MemPlace} (h : DataW.trod enc Tryd.prog w base spare held f 99 cs = some y) : ∃ c, cs = colV c := by
  obtain ⟨y0, y1, y2, n, rfl, hl, h0, h1, h2⟩ := Go.Deep.trod_struct3 Tryd.underlying99 h
  have hl3 : cs.length = 3 := by rw [hl]; kernel_rfl
  match cs, hl3 with
  | [a, b, c], _ =>
    have c1 : Tryd.prog.cellsOf 9 = 1 := by kernel_rfl
    have c2 : Tryd.prog.cellsOf 3 = 1 := by kernel_rfl
    have c3 : Tryd.prog.cellsOf 4 = 1 := by kernel_rfl
    simp only [c1, c2, c3] at h0 h1 h2
    obtain ⟨s, g0, -, -⟩ := DataW.trod_string Tryd.underlying9 h0
    obtain ⟨z1, g1, -, -⟩ := DataW.trod_int Tryd.underlying3 h1
    obtain ⟨b2, g2, -⟩ := DataW.trod_bool Tryd.underlying4 h2
    simp at g0 g1 g2
    exact ⟨⟨s, z1, b2⟩, by simp [colV, g0, g1, g2]⟩
set_option maxRecDepth 100000 in
theorem open_cols {v : Value} {d : DataW H} {p : List MemPlace} {r : Reach} {b0 : Nat} (hv : Value.okWide Tryd.prog w r b0 22 v) (h : DataW.Trod enc Tryd.prog w base spare held 22 v d p) (hsz : Sized Tryd.prog 22 d) :
    ∃ l, RdC w w.heap.size v l := by
  obtain ⟨A0, n0, c0, rfl⟩ := okWide_slice Tryd.underlying22 hv
  obtain ⟨fuel, hf⟩ := h
  obtain ⟨A, n, c, xs, h1, h2, h3⟩ := open_sl (size := 3) Tryd.underlying22 (by kernel_rfl) (by omega) (of_decide_eq_true (by kernel_rfl)) hf hsz
  obtain ⟨l, hl, rfl⟩ : ∃ l : List Col, l.length = n ∧ xs = l.flatMap colV := by
    have key : ∀ k, k ≤ n → ∃ l : List Col, l.length = k ∧ xs.take (k * 3) = l.flatMap colV := by
      intro k
      induction k with
      | zero => exact fun _ => ⟨[], rfl, by simp⟩
      | succ k ih =>
        intro hk
        obtain ⟨l, hl, he⟩ := ih (by omega)
        obtain ⟨f, y, hy, -⟩ := h3 k (by omega)
        obtain ⟨c, hc⟩ := open_col hy
        refine ⟨l ++ [c], by simp [hl], ?_⟩
        rw [List.flatMap_append, ← he, Nat.succ_mul, List.take_add, hc]
        simp
    obtain ⟨l, hl, he⟩ := key n (Nat.le_refl _)
    exact ⟨l, hl, by rw [← he, List.take_of_length_le (by rw [h2.len]; exact Nat.le_refl _)]⟩
  subst hl
  exact ⟨l, A, c, h1, h2⟩
end
theorem rcol_info : (Tryd.prog.info? 120).map (fun i => (i.zero, i.size, i.bytes)) = some (some (.agg #[.string ⟨#[]⟩, .int .i64 0, .int .i64 0]), 3, 32) := by kernel_rfl
theorem rcol_snoc (l : List Col) (c : Col) : (l ++ [c]).flatMap rcolV = l.flatMap rcolV ++ rcolV c := by simp
theorem rcol_one (c : Col) : ∀ u ∈ rcolV c, u.oneCell' = true := by
  intro u hu
  simp [rcolV] at hu
  rcases hu with rfl | rfl | rfl <;> rfl
end Go.Proofs.YtgiemhooeoakmaaDoor

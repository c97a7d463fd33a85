/- Values, as they lie in memory; rows and tables of them. -/
import Derived.Test.YtgiemhooeoakmaaDoorGen
import Derived.Test.YtgiemhooeoakmaaDoorCol
namespace Go.Proofs.YtgiemhooeoakmaaDoor
open Go.RowKit Go.ChangeShapes Go.WideShapes
set_option linter.unusedVariables false
set_option linter.unusedSimpArgs false

structure Val where
  kind : Int
  s : ByteArray
  n : Int
  b : Bool
abbrev VRow := List Val
abbrev VTab := List (List Val)
def valV (v : Val) : List Value := [.int .i64 v.kind, .string v.s, .int .i64 v.n, .bool v.b]
/-- .. as the reference has them. -/
def rvalV (v : Val) : List Value := [.int .i64 v.kind, .string v.s, .int .i64 v.n, .int .i64 (nullI v.b)]
def valA (v : Val) : Value := .agg #[.int .i64 v.kind, .string v.s, .int .i64 v.n, .bool v.b]
def rvalA (v : Val) : Value := .agg #[.int .i64 v.kind, .string v.s, .int .i64 v.n, .int .i64 (nullI v.b)]
theorem valV_len (v : Val) : (valV v).length = 4 := rfl
theorem rvalV_len (v : Val) : (rvalV v).length = 4 := rfl
theorem nullI_inj {a b : Bool} (h : nullI a = nullI b) : a = b := by cases a <;> cases b <;> first | rfl | cases h
theorem Val.ext_iff' {a b : Val} : a = b ↔ a.kind = b.kind ∧ a.s = b.s ∧ a.n = b.n ∧ a.b = b.b := by
  cases a; cases b; simp
instance : DecidableEq Val := fun a b => decidable_of_iff _ Val.ext_iff'.symm
abbrev RdV (w : World) (B : Nat) (v : Value) (l : VRow) : Prop := RdF valV 4 w B v l
abbrev RdRV (w : World) (B : Nat) (v : Value) (l : VRow) : Prop := RdF rvalV 4 w B v l
abbrev RdVT (w : World) (B : Nat) (v : Value) (t : VTab) : Prop := RdE (RdF valV 4) w B v t
abbrev RdRVT (w : World) (B : Nat) (v : Value) (t : VTab) : Prop := RdE (RdF rvalV 4) w B v t
/-- What a walk reads of a value. -/
theorem RdV.at {w : World} {B : Nat} {v : Value} {l : VRow} (h : RdV w B v l) {k : Nat} (hk : k < l.length) : ∃ a c, v = .slice (some a) l.length c ∧ w.cell? (a.add (k * 4)) = some (.int .i64 l[k].kind) ∧
    w.cell? ⟨(a.add (k * 4)).block, (a.add (k * 4)).off + 1, none⟩ = some (.string l[k].s) ∧ w.cell? ⟨(a.add (k * 4)).block, (a.add (k * 4)).off + 2, none⟩ = some (.int .i64 l[k].n) ∧ w.cell? ⟨(a.add (k * 4)).block, (a.add (k * 4)).off + 3, none⟩ = some (.bool l[k].b) := by
  obtain ⟨a, c, rfl, h0⟩ := RdF.at0 h valV_len (by omega) hk
  exact ⟨a, c, rfl, h0 _ rfl, RdF.atj h valV_len hk 0 rfl, RdF.atj h valV_len hk 1 rfl, RdF.atj h valV_len hk 2 rfl⟩
theorem RdRV.at {w : World} {B : Nat} {v : Value} {l : VRow} (h : RdRV w B v l) {k : Nat} (hk : k < l.length) : ∃ a c, v = .slice (some a) l.length c ∧ w.cell? (a.add (k * 4)) = some (.int .i64 l[k].kind) ∧
    w.cell? ⟨(a.add (k * 4)).block, (a.add (k * 4)).off + 1, none⟩ = some (.string l[k].s) ∧ w.cell? ⟨(a.add (k * 4)).block, (a.add (k * 4)).off + 2, none⟩ = some (.int .i64 l[k].n) ∧ w.cell? ⟨(a.add (k * 4)).block, (a.add (k * 4)).off + 3, none⟩ = some (.int .i64 (nullI l[k].b)) := by
  obtain ⟨a, c, rfl, h0⟩ := RdF.at0 h rvalV_len (by omega) hk
  exact ⟨a, c, rfl, h0 _ rfl, RdF.atj h rvalV_len hk 0 rfl, RdF.atj h rvalV_len hk 1 rfl, RdF.atj h rvalV_len hk 2 rfl⟩
theorem val_one (v : Val) : ∀ u ∈ valV v, u.oneCell' = true := by
  intro u hu
  simp [valV] at hu
  rcases hu with rfl | rfl | rfl | rfl <;> rfl
theorem rval_one (v : Val) : ∀ u ∈ rvalV v, u.oneCell' = true := by
  intro u hu
  simp [rvalV] at hu
  rcases hu with rfl | rfl | rfl | rfl <;> rfl
theorem val_snoc (l : VRow) (v : Val) : (l ++ [v]).flatMap valV = l.flatMap valV ++ valV v := by simp
theorem rval_snoc (l : VRow) (v : Val) : (l ++ [v]).flatMap rvalV = l.flatMap rvalV ++ rvalV v := by simp
theorem rval_info : (Tryd.prog.info? 112).map (fun i => (i.zero, i.size, i.bytes)) = some (some (.agg #[.int .i64 0, .string ⟨#[]⟩, .int .i64 0, .int .i64 0]), 4, 40) := by kernel_rfl
theorem val_info : (Tryd.prog.info? 96).map (fun i => (i.zero, i.size, i.bytes)) = some (some (.agg #[.int .i64 0, .string ⟨#[]⟩, .int .i64 0, .bool false]), 4, 40) := by kernel_rfl
theorem rvrow_info : (Tryd.prog.info? 63).map (fun i => (i.zero, i.size, i.bytes)) = some (some (.slice none 0 0), 1, 24) := by kernel_rfl
theorem vrow_info : (Tryd.prog.info? 61).map (fun i => (i.zero, i.size, i.bytes)) = some (some (.slice none 0 0), 1, 24) := by kernel_rfl
section
variable {H : Type} {enc : TypeId × Value → H} {w : World} {base : Nat} {spare : Nat → Bool} {held : Bool}
set_option maxRecDepth 100000 in
theorem open_val {f : Nat} {cs : List Value} {y : DataW H × List MemPlace} (h : DataW.trod enc Tryd.prog w base spare held f 96 cs = some y) : ∃ c, cs = valV c := by
  obtain ⟨xs, n, _, rfl, hl, hlen, hf⟩ := DataW.trod_struct Tryd.underlying96 h
  have hl4 : cs.length = 4 := by rw [hl]; kernel_rfl
  match cs, hl4 with
  | [a, b, c, d], _ =>
    have c1 : Tryd.prog.cellsOf 9 = 1 := by kernel_rfl
    have c2 : Tryd.prog.cellsOf 3 = 1 := by kernel_rfl
    have c3 : Tryd.prog.cellsOf 4 = 1 := by kernel_rfl
    have c4 : Tryd.prog.cellsOf 2 = 1 := by kernel_rfl
    match xs, hlen with
    | [y0, y1, y2, y3], _ =>
      have h0 := hf 0 _ rfl
      have h1 := hf 1 _ rfl
      have h2 := hf 2 _ rfl
      have h3 := hf 3 _ rfl
      obtain ⟨k, g0, -, -⟩ := DataW.trod_int Tryd.underlying3 h0
      obtain ⟨s, g1, -, -⟩ := DataW.trod_string Tryd.underlying9 h1
      obtain ⟨z, g2, -, -⟩ := DataW.trod_int Tryd.underlying2 h2
      obtain ⟨t, g3, -⟩ := DataW.trod_bool Tryd.underlying4 h3
      simp [c2] at g0
      simp [c1] at g1
      simp [c4] at g2
      simp [c3] at g3
      exact ⟨⟨k, s, z, t⟩, by simp [valV, g0, g1, g2, g3]⟩
set_option maxRecDepth 100000 in
theorem open_vrow {fuel : Nat} {v : Value} {x : DataW H × List MemPlace} (hf : DataW.trod enc Tryd.prog w base spare held fuel 61 [v] = some x) (hsz : Sized Tryd.prog 61 x.1) : ∃ l, RdV w w.heap.size v l := by
  obtain ⟨A, n, c, xs, h1, h2, h3⟩ := open_sl (size := 4) Tryd.underlying61 (by kernel_rfl) (by omega) (of_decide_eq_true (by kernel_rfl)) hf hsz
  obtain ⟨l, hl, rfl⟩ : ∃ l : VRow, l.length = n ∧ xs = l.flatMap valV := by
    have key : ∀ k, k ≤ n → ∃ l : VRow, l.length = k ∧ xs.take (k * 4) = l.flatMap valV := by
      intro k
      induction k with
      | zero => exact fun _ => ⟨[], rfl, by simp⟩
      | succ k ih =>
        intro hk
        obtain ⟨l, hl, he⟩ := ih (by omega)
        obtain ⟨f, y, hy, -⟩ := h3 k (by omega)
        obtain ⟨c, hc⟩ := open_val hy
        refine ⟨l ++ [c], by simp [hl], ?_⟩
        rw [List.flatMap_append, ← he, Nat.succ_mul, List.take_add, hc]
        simp
    obtain ⟨l, hl, he⟩ := key n (Nat.le_refl _)
    exact ⟨l, hl, by rw [← he, List.take_of_length_le (by rw [h2.len]; exact Nat.le_refl _)]⟩
  subst hl
  exact ⟨l, A, c, h1, h2⟩
set_option maxRecDepth 100000 in
theorem open_vtab {fuel : Nat} {v : Value} {x : DataW H × List MemPlace} (hf : DataW.trod enc Tryd.prog w base spare held fuel 23 [v] = some x) (hsz : Sized Tryd.prog 23 x.1) : ∃ t, RdVT w w.heap.size v t := by
  obtain ⟨A, n, c, vs, t, hv, hs, hl⟩ := open_ones (R := fun u r => RdV w w.heap.size u r) Tryd.underlying23 (by kernel_rfl) (of_decide_eq_true (by kernel_rfl)) hf hsz (fun u f y hy hz => open_vrow hy hz)
  have hn : n = t.length := by have := hs.len; have := hl.len; omega
  subst hn
  exact ⟨t, A, c, vs, hv, hs, hl⟩
end
end Go.Proofs.YtgiemhooeoakmaaDoor

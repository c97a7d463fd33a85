/- How what came in is opened: slices of whatever elements, byte texts, slices of them. -/
import Derived.Test.YtgiemhooeoakmaaDoorMem
import Derived.Deep.Slices
import Derived.SizedLaws
import Derived.ProofKit
namespace Go.Proofs.YtgiemhooeoakmaaDoor
open Go.RowKit Go.ChangeShapes Go.WideShapes
set_option linter.unusedVariables false
set_option linter.unusedSimpArgs false

section
variable {H : Type} {enc : TypeId × Value → H} {P : Program} {w : World} {base : Nat} {spare : Nat → Bool} {held : Bool}

/-- What the form's own reach says of a reading. -/
def Sized {H : Type} (P : Program) (t : TypeId) (d : DataW H) : Prop := ∀ x ∈ d.weights P t, x ≤ 140737488351232
theorem Sized.arg {ts : List TypeId} {ds : List (DataW H)} {j : Nat} {t : TypeId} {d : DataW H} (h : (DataW.weightsEach P ts ds).all (· ≤ reachBytes) = true) (ht : ts[j]? = some t) (hd : ds[j]? = some d) : Sized P t d := fun x hx => by
  have := List.all_eq_true.1 h x (DataW.weights_mem_each ht hd x hx)
  exact of_decide_eq_true this
theorem weights_all {e : TypeId} {d : DataW H} {x : Nat} : ∀ {l : List (DataW H)}, d ∈ l → x ∈ d.weights P e → x ∈ DataW.weightsAll P e l
  | a :: l, hd, hx => by
    rw [DataW.weightsAll, List.mem_append]
    rcases List.mem_cons.1 hd with rfl | hd
    · exact .inl hx
    · exact .inr (weights_all hd hx)
theorem Sized.slice {t e : TypeId} {elems spare : List (DataW H)} (h : Sized P t (.slice elems spare)) (ht : P.underlying t = some (.slice e)) : (elems.length + spare.length) * P.bytesOf e ≤ 140737488351232 ∧ ∀ d ∈ elems, Sized P e d := by
  unfold Sized at h
  simp only [DataW.weights, ht] at h
  exact ⟨h _ (by simp), fun d hd x hx => h x (by rw [List.mem_cons, List.mem_append]; exact .inr (.inl (weights_all hd hx)))⟩
theorem Sized.string {t : TypeId} {b : List UInt8} (h : Sized P t (.lit (.string b) : DataW H)) : b.length ≤ 140737488351232 := h _ (by simp [DataW.weights])
theorem Sized.str {t : TypeId} {b : ByteArray} (h : Sized P t (.lit (.string b.data.toList) : DataW H)) : b.size ≤ 140737488351232 := by
  have := h.string
  rw [Array.length_toList] at this
  exact this
theorem Sized.field {t : TypeId} {fs : Array Field} {parts : List (DataW H)} (h : Sized P t (.agg parts)) (ht : P.underlying t = some (.struct fs)) {i : Nat} {f : Field} {d : DataW H} (hf : fs[i]? = some f) (hd : parts[i]? = some d) : Sized P f.type d := by
  unfold Sized at h
  simp only [DataW.weights, ht] at h
  exact fun x hx => h x (DataW.weights_mem_each (j := i) (by simp [hf]) hd x hx)

theorem open_sl_at {t e : TypeId} {size : Nat} {fuel : Nat} {v : Value} {x : DataW H × List MemPlace} (ht : P.underlying t = some (.slice e)) (hC : P.cellsOf e = size) (hs : 0 < size) (hbp : 0 < P.bytesOf e) (h : DataW.trod enc P w base spare held fuel t [v] = some x) (hsz : Sized P t x.1) :
    ∃ A n c xs D, v = .slice A n c ∧ Sl w w.heap.size size A n c xs ∧ (x.1 = .nil ∧ n = 0 ∨ ∃ sp, x.1 = .slice ((List.range n).map D) sp) ∧ ∀ i, i < n → ∃ f y, DataW.trod enc P w base spare held f e ((xs.drop (i * size)).take size) = some y ∧ y.1 = D i ∧ Sized P e y.1 := by
  rcases Go.Deep.open_slice ht h with ⟨hcs, hx0⟩ | ⟨a, len, cap, m, f, D, Pl, hcs, hb, hl, hm, hmm, hx, hi⟩
  · injection hcs with hv
    exact ⟨none, 0, 0, [], fun _ => .nil, hv, Sl.none_ _ _ _, .inl ⟨by rw [hx0], rfl⟩, fun i hi => by omega⟩
  · injection hcs with hv
    rw [hC] at hi
    have hlm : len ≤ m := by rw [hmm]; split <;> omega
    rw [hx] at hsz
    obtain ⟨hz1, hz2⟩ := hsz.slice ht
    have hfew : len ≤ 140737488355328 := by
      rw [List.length_map, List.length_range] at hz1
      have := Nat.le_trans (Nat.le_mul_of_pos_right (len + _) hbp) hz1
      omega
    have key : ∀ k, k ≤ len → ∃ xs : List Value, xs.length = k * size ∧ (∀ j u, xs[j]? = some u → w.cell? (a.add j) = some u) ∧ ∀ i, i < k → ∃ f y, DataW.trod enc P w base spare held f e ((xs.drop (i * size)).take size) = some y ∧ y.1 = D i ∧ Sized P e y.1 := by
      intro k
      induction k with
      | zero => exact fun _ => ⟨[], by simp, by simp, fun i hi => by omega⟩
      | succ k ih =>
        intro hk
        obtain ⟨xs, hxl, hxc, hxt⟩ := ih (by omega)
        obtain ⟨cs, hc, htr⟩ := hi k (by omega)
        obtain ⟨_, hcl, hat⟩ := World.cells?_some hc
        refine ⟨xs ++ cs, by rw [List.length_append, hxl, hcl, Nat.succ_mul], fun j u hu => ?_, fun i hik => ?_⟩
        · by_cases hj : j < xs.length
          · rw [List.getElem?_append_left hj] at hu
            exact hxc j u hu
          · rw [List.getElem?_append_right (by omega)] at hu
            have hjl : j - xs.length < size := by
              have := (List.getElem?_eq_some_iff.1 hu).1
              omega
            have := hat (j - xs.length) hjl
            rw [hu, add_add, hxl] at this
            rw [show k * size + (j - k * size) = j by omega] at this
            exact this
        · by_cases hlt : i < k
          · obtain ⟨f, y, hy, hD, hz⟩ := hxt i hlt
            refine ⟨f, y, ?_, hD, hz⟩
            have h1 : (i + 1) * size ≤ k * size := Nat.mul_le_mul_right _ hlt
            rw [Nat.succ_mul] at h1
            rw [List.drop_append_of_le_length (by omega), List.take_append_of_le_length (by rw [List.length_drop]; omega)]
            exact hy
          · obtain rfl : i = k := by omega
            refine ⟨f, (D i, Pl i), ?_, rfl, hz2 _ (List.mem_map.2 ⟨i, by simp; omega, rfl⟩)⟩
            rw [List.drop_left' hxl, List.take_of_length_le (by omega)]
            exact htr
    obtain ⟨xs, hxl, hxc, hxt⟩ := key len (Nat.le_refl _)
    refine ⟨some a, len, cap, xs, D, hv, ⟨hxl, hl, hm, hfew, fun h => (by cases h), fun hn b hb' => ?_, fun b j u hb' hu => ?_⟩, .inr ⟨_, by rw [hx]⟩, hxt⟩
    · injection hb' with hb'
      subst hb'
      obtain ⟨cs, hc, htr⟩ := hi 0 (by omega)
      obtain ⟨hlow, hcl, hat⟩ := World.cells?_some hc
      have h0 := hat 0 hs
      rw [List.getElem?_eq_getElem (by omega)] at h0
      have := World.block_lt_of_cell? w _ h0
      simpa [add_block] using this
    · injection hb' with hb'
      subst hb'
      exact hxc j u hu

theorem open_sl {t e : TypeId} {size : Nat} {fuel : Nat} {v : Value} {x : DataW H × List MemPlace} (ht : P.underlying t = some (.slice e)) (hC : P.cellsOf e = size) (hs : 0 < size) (hbp : 0 < P.bytesOf e) (h : DataW.trod enc P w base spare held fuel t [v] = some x) (hsz : Sized P t x.1) :
    ∃ A n c xs, v = .slice A n c ∧ Sl w w.heap.size size A n c xs ∧ ∀ i, i < n → ∃ f y, DataW.trod enc P w base spare held f e ((xs.drop (i * size)).take size) = some y ∧ Sized P e y.1 := by
  obtain ⟨A, n, c, xs, D, h1, h2, _, h3⟩ := open_sl_at ht hC hs hbp h hsz
  refine ⟨A, n, c, xs, h1, h2, fun i hi => ?_⟩
  obtain ⟨f, y, h4, _, h5⟩ := h3 i hi
  exact ⟨f, y, h4, h5⟩

/-- A byte text: what '[]byte' holds. -/
theorem open_bytes {t e : TypeId} {fuel : Nat} {v : Value} {x : DataW H × List MemPlace} (ht : P.underlying t = some (.slice e)) (he : P.underlying e = some (.int .u8)) (hC : P.cellsOf e = 1) (hbp : 0 < P.bytesOf e) (h : DataW.trod enc P w base spare held fuel t [v] = some x) (hsz : Sized P t x.1) :
    ∃ A n c l, v = .slice A n c ∧ Sl w w.heap.size 1 A n c (bytesV l) := by
  obtain ⟨A, n, c, xs, hv, hs, hi⟩ := open_sl ht hC (by omega) hbp h hsz
  have hl := hs.len
  rw [Nat.mul_one] at hl
  have key : ∀ ys : List Value, (∀ i, i < ys.length → ∃ f y, DataW.trod enc P w base spare held f e ((ys.drop i).take 1) = some y) → ∃ l, ys = bytesV l := by
    intro ys
    induction ys with
    | nil => exact fun _ => ⟨[], rfl⟩
    | cons u ys ih =>
      intro hy
      obtain ⟨l, rfl⟩ := ih (fun i hi => by
        obtain ⟨f, y, h⟩ := hy (i + 1) (by simp; omega)
        exact ⟨f, y, by simpa using h⟩)
      obtain ⟨f, y, h0⟩ := hy 0 (by simp)
      obtain ⟨k, hk, _, hwf⟩ := DataW.trod_int he h0
      simp at hk
      subst hk
      refine ⟨UInt8.ofNat k.toNat :: l, ?_⟩
      simp [Lit.wf, IntKind.min, IntKind.max, IntKind.signed, IntKind.bits] at hwf
      simp only [bytesV, List.map_cons, byteV]
      congr 2
      simp only [UInt8.toNat_ofNat']
      omega
  obtain ⟨l, rfl⟩ := key xs (fun i hil => by
    obtain ⟨f, y, h, _⟩ := hi i (by omega)
    exact ⟨f, y, by simpa using h⟩)
  exact ⟨A, n, c, l, hv, hs⟩

/-- A slice whose elements are of one cell each. -/
theorem open_ones {t e : TypeId} {fuel : Nat} {v : Value} {x : DataW H × List MemPlace} {α : Type} {R : Value → α → Prop} (ht : P.underlying t = some (.slice e)) (hC : P.cellsOf e = 1) (hbp : 0 < P.bytesOf e) (h : DataW.trod enc P w base spare held fuel t [v] = some x) (hsz : Sized P t x.1)
    (hR : ∀ u f y, DataW.trod enc P w base spare held f e [u] = some y → Sized P e y.1 → ∃ a, R u a) :
    ∃ A n c vs l, v = .slice A n c ∧ Sl w w.heap.size 1 A n c vs ∧ Each R vs l := by
  obtain ⟨A, n, c, xs, hv, hs, hi⟩ := open_sl ht hC (by omega) hbp h hsz
  obtain ⟨l, hl⟩ := Each.of_all (R := R) (xs := xs) (fun i u hu => by
    have hil := (List.getElem?_eq_some_iff.1 hu).1
    have hln := hs.len
    obtain ⟨f, y, hy, hz⟩ := hi i (by omega)
    rw [Nat.mul_one, List.drop_eq_getElem_cons hil] at hy
    have hu' : xs[i] = u := by rw [List.getElem?_eq_getElem hil] at hu; injection hu
    exact hR u f y (by simpa [hu'] using hy) hz)
  exact ⟨A, n, c, xs, l, hv, hs, hl⟩

end

/-- A row of byte texts. -/
structure RdRows (w : World) (B : Nat) (A : Option Addr) (n c : Nat) (l : List (List UInt8)) : Prop where
  is : ∃ vs, Sl w B 1 A n c vs ∧ Each (fun u d => ∃ A n c, u = .slice A n c ∧ Sl w B 1 A n c (bytesV d)) vs l
theorem RdRows.below {w w' : World} {B : Nat} {A : Option Addr} {n c : Nat} {l : List (List UInt8)} (h : RdRows w B A n c l) (hb : Below B w w') : RdRows w' B A n c l := by
  obtain ⟨vs, hs, he⟩ := h.is
  exact ⟨vs, hs.below hb, he.imp fun _ _ ⟨A, n, c, hu, h⟩ => ⟨A, n, c, hu, h.below hb⟩⟩

section
variable {H : Type} {enc : TypeId × Value → H} {P : Program} {w : World} {base : Nat} {spare : Nat → Bool} {held : Bool}
theorem open_rows {t e b : TypeId} {v : Value} {d : DataW H} {p : List MemPlace} (ht : P.underlying t = some (.slice e)) (he : P.underlying e = some (.slice b)) (hb : P.underlying b = some (.int .u8)) (hC : P.cellsOf e = 1) (hC' : P.cellsOf b = 1) (hbe : 0 < P.bytesOf e) (hbb : 0 < P.bytesOf b)
    {r : Reach} {b0 : Nat} (hv : Value.okWide P w r b0 t v) (h : DataW.Trod enc P w base spare held t v d p) (hsz : Sized P t d) : ∃ A n c l, v = .slice A n c ∧ RdRows w w.heap.size A n c l := by
  obtain ⟨A0, n0, c0, rfl⟩ := okWide_slice ht hv
  obtain ⟨fuel, hf⟩ := h
  obtain ⟨A, n, c, vs, l, hv, hs, hl⟩ := open_ones (R := fun u d => ∃ A n c, u = .slice A n c ∧ Sl w w.heap.size 1 A n c (bytesV d)) ht hC hbe hf hsz (fun u f y hy hz => by
    obtain ⟨A, n, c, l, h1, h2⟩ := open_bytes he hb hC' hbb hy hz
    exact ⟨l, A, n, c, h1, h2⟩)
  exact ⟨A, n, c, l, hv, ⟨vs, hs, hl⟩⟩
theorem open_text {t b : TypeId} {v : Value} {d : DataW H} {p : List MemPlace} (ht : P.underlying t = some (.slice b)) (hb : P.underlying b = some (.int .u8)) (hC' : P.cellsOf b = 1) (hbb : 0 < P.bytesOf b)
    {r : Reach} {b0 : Nat} (hv : Value.okWide P w r b0 t v) (h : DataW.Trod enc P w base spare held t v d p) (hsz : Sized P t d) : ∃ A n c l, v = .slice A n c ∧ Sl w w.heap.size 1 A n c (bytesV l) := by
  obtain ⟨A0, n0, c0, rfl⟩ := okWide_slice ht hv
  obtain ⟨fuel, hf⟩ := h
  exact open_bytes ht hb hC' hbb hf hsz
end
end Go.Proofs.YtgiemhooeoakmaaDoor

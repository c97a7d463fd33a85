/- Layer 15: the document's example; how a row of strings that came in is opened. -/
import Derived.Test.YtamhdlopchhdjaaDoorHeadE
import Derived.Test.YtamhdlopchhdjaaDoorTabG
namespace Go.Proofs.YtamhdlopchhdjaaDoor
open Go.RowKit Go.ChangeShapes Go.WideShapes
set_option linter.unusedVariables false
set_option linter.unusedSimpArgs false

theorem open_strsV {H : Type} {enc : TypeId × Value → H} {w : World} {base : Nat} {spare : Nat → Bool} {held : Bool} {v : Value} {d : DataW H} {p : List MemPlace} {r : Reach} {b0 : Nat} (hv : Value.okWide Tryd.prog w r b0 22 v) (h : DataW.Trod enc Tryd.prog w base spare held 22 v d p) (hsz : Sized Tryd.prog 22 d) :
    ∃ l, RdS w w.heap.size v l := by
  obtain ⟨A0, n0, c0, rfl⟩ := okWide_slice Tryd.underlying22 hv
  obtain ⟨fuel, hf⟩ := h
  exact open_strs hf hsz
theorem le_bytesR {l : Row} {s : ByteArray} (h : s ∈ l) : s.size ≤ bytesR l := le_sum (List.mem_map_of_mem h)
def exAB : Row := [⟨#[97]⟩, ⟨#[98]⟩]
def exBAB : Row := [⟨#[98]⟩, ⟨#[97]⟩, ⟨#[98]⟩]
theorem RdS.new (w : World) (l : Row) (e : TypeId) (n : Nat) (hn : n = l.length) (hl : n ≤ 100000) : RdS (w.alloc (.cells (l.map Value.string).toArray e)) (w.alloc (.cells (l.map Value.string).toArray e)).heap.size (.slice (some ⟨w.heap.size, 0, none⟩) n n) l := by
  subst hn
  refine ⟨_, _, rfl, ?_⟩
  have := Sl.newrow w (l.map Value.string).toArray e (by simp; omega)
  simpa [strV] using this
theorem RdI.new (w : World) (l : List Int) (e : TypeId) (n : Nat) (hn : n = l.length) (hl : n ≤ 100000) : RdI (w.alloc (.cells (l.map (Value.int .i64)).toArray e)) (w.alloc (.cells (l.map (Value.int .i64)).toArray e)).heap.size (.slice (some ⟨w.heap.size, 0, none⟩) n n) l := by
  subst hn
  refine ⟨_, _, rfl, ?_⟩
  have := Sl.newrow w (l.map (Value.int .i64)).toArray e (by simp; omega)
  simpa [intV] using this
set_option maxHeartbeats 1000000 in
theorem awake15_any (w : World) (hT : Tab w) : Calls Tryd.prog 12 #[] w fun e w' => e = .returned (.bool true) ∧ Below w.heap.size w w' := by
  refine cps fun R HR => ?_
  have E1 := Lib.hid (show newC exAB = (2, 0) by decide +kernel)
  have E2 := Lib.hid (show bindC exAB exBAB = ([1, 0, 1], 3, 0) by decide +kernel)
  have E3 := Lib.hid (show sameI [1, 0, 1] [1, 0, 1] = true by decide +kernel)
  have b0 := (Below.refl w.heap.size w).alloc (Nat.le_refl _) (.cells #[.string ⟨#[97]⟩, .string ⟨#[98]⟩] 9)
  have h0 := RdS.new w exAB 9 2 rfl (by omega)
  have T0 := Lib.hid (hT.below b0)
  clear hT
  go_enter Tryd.func12, Tryd.ntmps12
  go_wp2_with fail
  refine (new_any _ exAB _ h0 (by decide) (by decide) T0.out).mono ?_
  rintro e w1 ⟨u, rfl, hu, -, b1⟩
  rw [E1.out] at hu ⊢
  have hu1 := hu rfl
  have bw1 := b0.trans (b1.mono b0.size)
  obtain ⟨g, b, v, rfl, -⟩ := hu1.is
  have h2 := RdS.new w1 exBAB 9 3 rfl (by omega)
  have b2 := (Below.refl w1.heap.size w1).alloc (Nat.le_refl _) (.cells #[.string ⟨#[98]⟩, .string ⟨#[97]⟩, .string ⟨#[98]⟩] 9)
  have hu2 := hu1.keep b2
  have bw2 := bw1.trans (b2.mono bw1.size)
  clear hu h0
  go_wp2_with fail
  refine (hbind_any _ _ exAB exBAB _ hu2 h2 (by decide) (by decide)).mono ?_
  rintro e w3 ⟨o, rfl, ho, b3⟩
  rw [E2.out] at ho ⊢
  have bw3 := bw2.trans (b3.mono bw2.size)
  have h4 := RdI.new w3 [1, 0, 1] 3 3 rfl (by omega)
  have b4 := (Below.refl w3.heap.size w3).alloc (Nat.le_refl _) (.cells #[.int .i64 1, .int .i64 0, .int .i64 1] 3)
  have ho4 := (RdI.of_own ho).next b4
  have bw4 := bw3.trans (b4.mono bw3.size)
  go_wp2_with fail
  refine (sameI_any _ _ [1, 0, 1] [1, 0, 1] _ ho4 h4).mono ?_
  rintro e w5 ⟨rfl, b5⟩
  rw [E3.out]
  go_wp2
  exact HR.out _ _ ⟨rfl, bw4.trans (b5.mono bw4.size)⟩
end Go.Proofs.YtamhdlopchhdjaaDoor

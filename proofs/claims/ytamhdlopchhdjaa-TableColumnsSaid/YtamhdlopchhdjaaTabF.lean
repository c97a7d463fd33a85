/- Layer 13: the document's example. -/
import Derived.Test.YtamhdlopchhdjaaTabE
namespace Go.Proofs.Ytamhdlopchhdjaa
open Go.RowKit Go.ChangeShapes Go.WideShapes
set_option linter.unusedVariables false
set_option linter.unusedSimpArgs false

theorem RdS.lit2 (w : World) (a b : ByteArray) (e : TypeId) : RdS (w.alloc (.cells #[.string a, .string b] e)) (w.alloc (.cells #[.string a, .string b] e)).heap.size (.slice (some ⟨w.heap.size, 0, none⟩) 2 2) [a, b] :=
  ⟨_, _, rfl, Sl.newrow w #[.string a, .string b] e (by simp)⟩
theorem RdT.lit2 (w : World) (u v : Value) (a b : Row) (e : TypeId) (hu : RdS w w.heap.size u a) (hv : RdS w w.heap.size v b) :
    RdT (w.alloc (.cells #[u, v] e)) (w.alloc (.cells #[u, v] e)).heap.size (.slice (some ⟨w.heap.size, 0, none⟩) 2 2) [a, b] :=
  ⟨_, _, [u, v], rfl, Sl.newrow w #[u, v] e (by simp), (Each.nil.cons (hv.next ((Below.refl w.heap.size w).alloc (Nat.le_refl _) _))).cons (hu.next ((Below.refl w.heap.size w).alloc (Nat.le_refl _) _))⟩
theorem below_alloc1 (w : World) (o : Obj) : Below w.heap.size w (w.alloc o) := (Below.refl w.heap.size w).alloc (Nat.le_refl _) o
/-- A table of two rows of two, just made. -/
theorem lit22 (w : World) (a b c d : ByteArray) (e1 e2 : TypeId) :
    RdT (((w.alloc (.cells #[.string a, .string b] e1)).alloc (.cells #[.string c, .string d] e1)).alloc (.cells #[.slice (some ⟨w.heap.size, 0, none⟩) 2 2, .slice (some ⟨w.heap.size + 1, 0, none⟩) 2 2] e2))
      (((w.alloc (.cells #[.string a, .string b] e1)).alloc (.cells #[.string c, .string d] e1)).alloc (.cells #[.slice (some ⟨w.heap.size, 0, none⟩) 2 2, .slice (some ⟨w.heap.size + 1, 0, none⟩) 2 2] e2)).heap.size
      (.slice (some ⟨w.heap.size + 1 + 1, 0, none⟩) 2 2) [[a, b], [c, d]] := by
  have h1 := (RdS.lit2 w a b e1).next (below_alloc1 _ (.cells #[.string c, .string d] e1))
  have h2 := RdS.lit2 (w.alloc (.cells #[.string a, .string b] e1)) c d e1
  have h3 := RdT.lit2 _ _ _ _ _ e2 h1 h2
  simpa using h3
theorem lit22_below (w : World) (a b c : Obj) : Below w.heap.size w (((w.alloc a).alloc b).alloc c) := (((Below.refl w.heap.size w).alloc (Nat.le_refl _) _).alloc (by simp) _).alloc (by simp; omega) _
def exA : Tbl := [[⟨#[97]⟩, ⟨#[98]⟩], [⟨#[99]⟩, ⟨#[100]⟩]]
def exB : Tbl := [[⟨#[97]⟩, ⟨#[99]⟩], [⟨#[98]⟩, ⟨#[100]⟩]]
theorem tabAwake_any (w : World) : Calls Try.prog 9 #[] w fun e w' => e = .returned (.bool true) ∧ Below w.heap.size w w' := by
  refine cps fun R HR => ?_
  have E1 := Lib.hid (show turnE exA = 0 by decide +kernel)
  have E2 := Lib.hid (show turnT exA = exB by decide +kernel)
  have E3 := Lib.hid (show sameT exB exB = true by decide +kernel)
  have E4 := Lib.hid (show ((leastF exB : Int) == (mostF exB : Int)) = true by decide +kernel)
  go_enter Try.func9, Try.ntmps9
  go_wp2_with fail
  refine (turn_any _ exA _ (lit22 w _ _ _ _ _ _) (by decide) (by decide +kernel)).mono ?_
  rintro e w1 ⟨u, rfl, ho, b1⟩
  rw [E1.out]
  rw [E2.out] at ho
  have b01 := (lit22_below w _ _ _).trans (b1.mono (lit22_below w _ _ _).size)
  have hu := ho.rd
  go_wp2_with fail
  refine (sameTable_any u _ exB exB _ (hu.next (lit22_below w1 _ _ _)) (lit22 w1 _ _ _ _ _ _)).mono ?_
  rintro e w2 ⟨rfl, b2⟩
  rw [E3.out]
  have b12 := (lit22_below w1 _ _ _).trans (b2.mono (lit22_below w1 _ _ _).size)
  go_wp2_with fail
  refine (even_any u exB _ (hu.next b12)).mono ?_
  rintro e w3 ⟨rfl, rfl⟩
  rw [E4.out]
  go_wp2
  exact HR.out _ _ ⟨rfl, b01.trans (b12.mono b01.size)⟩
end Go.Proofs.Ytamhdlopchhdjaa

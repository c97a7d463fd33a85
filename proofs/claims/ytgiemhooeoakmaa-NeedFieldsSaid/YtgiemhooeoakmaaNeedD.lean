/- Layer 8: the document's example. -/
import Derived.Test.YtgiemhooeoakmaaNeedC
import Derived.Deep.RegionHeld3
namespace Go.Proofs.Ytgiemhooeoakmaa
open Go.RowKit Go.ChangeShapes Go.WideShapes
set_option linter.unusedVariables false
set_option linter.unusedSimpArgs false

theorem RdS.cells1 {w : World} {g : Nat} {a : ByteArray} (h : w.cell? ⟨g, 0, none⟩ = some (.string a)) : RdS w w.heap.size (.slice (some ⟨g, 0, none⟩) 1 1) [a] := by
  have hg := World.block_lt_of_cell? w _ h
  refine ⟨_, _, rfl, ⟨rfl, Nat.le_refl _, by unfold maxLen; omega, Nat.le_of_ble_eq_true rfl, fun h => (by cases h), fun _ a ha => (by injection ha with ha; rw [← ha]; exact hg), fun a k u ha hu => ?_⟩⟩
  injection ha with ha
  subst ha
  match k with
  | 0 => injection hu with hu; rw [← hu]; exact h
  | k + 1 => cases hu
theorem RdS.cells2 {w : World} {g : Nat} {a b : ByteArray} (h : w.cell? ⟨g, 0, none⟩ = some (.string a)) (h2 : w.cell? ⟨g, 1, none⟩ = some (.string b)) : RdS w w.heap.size (.slice (some ⟨g, 0, none⟩) 2 2) [a, b] := by
  have hg := World.block_lt_of_cell? w _ h
  refine ⟨_, _, rfl, ⟨rfl, Nat.le_refl _, by unfold maxLen; omega, Nat.le_of_ble_eq_true rfl, fun h => (by cases h), fun _ a ha => (by injection ha with ha; rw [← ha]; exact hg), fun a k u ha hu => ?_⟩⟩
  injection ha with ha
  subst ha
  match k with
  | 0 => injection hu with hu; rw [← hu]; exact h
  | 1 => injection hu with hu; rw [← hu]; exact h2
  | k + 2 => cases hu
/-- A call of Fields that hands back one truth. -/
theorem ex1_any (g : Nat) (w : World) (h : w.cell? ⟨g, 0, none⟩ = some (.string ⟨#[]⟩)) :
    Calls Try.prog 13 #[.agg #[.int .u8 44, .int .u8 34, .int .i64 1], .slice (some ⟨g, 0, none⟩) 1 1, .bool false] w fun e w' => (∃ k c, e = .returned (.slice (some ⟨k, 0, none⟩) 1 c) ∧ w'.cell? ⟨k, 0, none⟩ = some (.bool true)) ∧ Below w.heap.size w w' := by
  refine (fields_any 44 34 1 _ [⟨#[]⟩] false w (RdS.cells1 h) (by decide) (by decide)).mono fun e w' ⟨o, he, ho, b⟩ => ?_
  rw [show fldN 44 34 false [⟨#[]⟩] [(⟨#[]⟩ : ByteArray)].length = [true] by decide +kernel] at ho
  obtain ⟨k, c, h1, h2, h3, h4⟩ := ho.head (by decide)
  refine ⟨⟨k, c, by rw [he, h1]; rfl, ?_⟩, b⟩
  obtain ⟨p, c', h5, h6⟩ := (RdBl.of_own ho).at (k := 0) (by decide)
  rw [h1] at h5
  injection h5 with h5
  injection h5 with h5
  rw [← h5] at h6
  simpa [Addr.add] using h6
theorem ex2_any (g : Nat) (w : World) (h : w.cell? ⟨g, 0, none⟩ = some (.string ⟨#[]⟩)) (h2 : w.cell? ⟨g, 1, none⟩ = some (.string ⟨#[]⟩)) :
    Calls Try.prog 13 #[.agg #[.int .u8 44, .int .u8 34, .int .i64 1], .slice (some ⟨g, 0, none⟩) 2 2, .bool false] w fun e w' => (∃ k c, e = .returned (.slice (some ⟨k, 0, none⟩) 2 c) ∧ w'.cell? ⟨k, 0, none⟩ = some (.bool false) ∧ w'.cell? ⟨k, 1, none⟩ = some (.bool false)) ∧ Below w.heap.size w w' := by
  refine (fields_any 44 34 1 _ [⟨#[]⟩, ⟨#[]⟩] false w (RdS.cells2 h h2) (by decide) (by decide)).mono fun e w' ⟨o, he, ho, b⟩ => ?_
  rw [show fldN 44 34 false [⟨#[]⟩, ⟨#[]⟩] [(⟨#[]⟩ : ByteArray), ⟨#[]⟩].length = [false, false] by decide +kernel] at ho
  obtain ⟨k, c, h1, h2, h3, h4⟩ := ho.head (by decide)
  refine ⟨⟨k, c, by rw [he, h1]; rfl, ?_⟩, b⟩
  obtain ⟨p, c', h5, h6⟩ := (RdBl.of_own ho).at (k := 0) (by decide)
  obtain ⟨p2, c2', h7, h8⟩ := (RdBl.of_own ho).at (k := 1) (by decide)
  rw [h1] at h5 h7
  injection h5 with h5
  injection h5 with h5
  injection h7 with h7
  injection h7 with h7
  rw [← h5] at h6
  rw [← h7] at h8
  exact ⟨by simpa [Addr.add] using h6, by simpa [Addr.add] using h8⟩
/-- A call of Fields over one or two empty fields. -/
theorem ex_any (n g : Nat) (w : World) (h : (n = 1 ∧ w.cell? ⟨g, 0, none⟩ = some (.string ⟨#[]⟩)) ∨ (n = 2 ∧ w.cell? ⟨g, 0, none⟩ = some (.string ⟨#[]⟩) ∧ w.cell? ⟨g, 1, none⟩ = some (.string ⟨#[]⟩))) :
    Calls Try.prog 13 #[.agg #[.int .u8 44, .int .u8 34, .int .i64 1], .slice (some ⟨g, 0, none⟩) n n, .bool false] w fun e w' => (∃ k c, e = .returned (.slice (some ⟨k, 0, none⟩) n c) ∧ ∀ j, j < n → w'.cell? ⟨k, j, none⟩ = some (.bool (decide (n = 1)))) ∧ Below w.heap.size w w' := by
  rcases h with ⟨rfl, h⟩ | ⟨rfl, h, h2⟩
  · refine (ex1_any g w h).mono fun e w' ⟨⟨k, c, he, hc⟩, b⟩ => ⟨⟨k, c, he, fun j hj => ?_⟩, b⟩
    obtain rfl : j = 0 := by omega
    exact hc
  · refine (ex2_any g w h h2).mono fun e w' ⟨⟨k, c, he, hc, hc2⟩, b⟩ => ⟨⟨k, c, he, fun j hj => ?_⟩, b⟩
    rcases (by omega : j = 0 ∨ j = 1) with rfl | rfl
    · exact hc
    · exact hc2
theorem keepF {ws w' : World} (hb : Below ws.heap.size ws w') : ∀ p v, ws.cell? p = some v → w'.cell? p = some v := fun p v h => (hb.cell (World.block_lt_of_cell? ws _ h)).trans h
theorem keep3 {ws w' : World} {p q r : Addr} {a b c : Value} (hb : Below ws.heap.size ws w') (h1 : ws.cell? p = some a) (h2 : ws.cell? q = some b) (h3 : ws.cell? r = some c) : w'.cell? p = some a ∧ w'.cell? q = some b ∧ w'.cell? r = some c :=
  ⟨(hb.cell (World.block_lt_of_cell? ws _ h1)).trans h1, (hb.cell (World.block_lt_of_cell? ws _ h2)).trans h2, (hb.cell (World.block_lt_of_cell? ws _ h3)).trans h3⟩
set_option maxHeartbeats 2000000 in
theorem awake08_any (w : World) : Calls Try.prog 7 #[] w fun e w' => e = .returned (.bool true) ∧ Below w.heap.size w w' := by
  refine cps fun R HR => ?_
  obtain ⟨w0, hw0⟩ : ∃ w0, w0 = w.alloc (.cells #[.int .u8 44, .int .u8 34, .int .i64 1] 23) := ⟨_, rfl⟩
  have bw0 : Below w.heap.size w w0 := by rw [hw0]; exact (Below.refl _ _).alloc (Nat.le_refl _) _
  have X := Box.new w 23 #[.int .u8 44, .int .u8 34, .int .i64 1]
  rw [← hw0] at X
  have x0 := X.cell 0
  have x1 := X.cell 1
  have x2 := X.cell 2
  simp at x0 x1 x2
  have HS := Lib.hid (And.intro x0 (And.intro x1 x2))
  have HW0 := Lib.hid hw0; have HB0 := Lib.hid bw0
  clear x0 x1 x2 X hw0 bw0
  go_enter Try.func7, Try.ntmps7
  go_wp2_with fail
  rw [← HW0.out]
  have hs := HS.out
  obtain ⟨g, hg⟩ : ∃ g, g = w.heap.size := ⟨_, rfl⟩
  rw [← hg] at hs ⊢
  have HG := Lib.hid hg
  clear hg
  go_region_held3 (fun w' => w'.cell? ⟨g, 0, none⟩ = some (.int .u8 44) ∧ w'.cell? ⟨g, 1, none⟩ = some (.int .u8 34) ∧ w'.cell? ⟨g, 2, none⟩ = some (.int .i64 1)) (first | (exact ⟨hs.1, hs.2.1, hs.2.2⟩) | (go_split_ands; exact keep3 (by assumption) (by assumption) (by assumption) (by assumption)) | go_keep) (first | (have second := firstMark; go_at_call 13; go_split_ands; refine (ex_any _ _ _ (.inr ⟨rfl, by first | (go_simp; done) | exact F _ _ (by go_simp), by first | (go_simp; done) | exact F _ _ (by go_simp)⟩)).mono ?_; rintro e w6 ⟨⟨k2, c2, rfl, r0⟩, b6⟩; have t1 := (b6.cell (p := ⟨k1, 0, none⟩) (by first | exact lt | (simp; omega))).trans (show _ = some (.bool true) by go_simp); have r1 := r0 0 (by decide); have r2 := r0 1 (by decide); clear r0) | (go_at_call 13; go_split_ands; refine (ex_any _ _ _ (by first | exact .inl ⟨rfl, by go_simp⟩ | exact .inr ⟨rfl, by go_simp, by go_simp⟩)).mono ?_; rintro e w5 ⟨⟨k1, c1, rfl, q0⟩, b5⟩; have firstMark : True := trivial; have t0 : w5.cell? ⟨k1, 0, none⟩ = some (.bool true) := q0 0 (by decide); have lt : k1 < w5.heap.size := World.block_lt_of_cell? w5 _ t0; clear q0; have F := keepF b5))
  all_goals
    have q := HB0.out
    have qs := q.size
    have c5 : Below w.heap.size w w5 := by
      refine Below.trans ?_ (b5.mono (by simp; omega))
      first | exact (q.alloc qs _).drew | exact ((q.alloc qs _).alloc (by simp; omega) _).drew
    have cs := c5.size
    have c6 : Below w.heap.size w w6 := by
      refine Below.trans ?_ (b6.mono (by first | exact cs | (simp; omega)))
      first | exact c5 | exact c5.alloc cs _
    clear q qs c5 cs b5 b6 lt t0 F
    simp at r1 r2
    go_wp2
    exact HR.out _ _ ⟨rfl, c6⟩
end Go.Proofs.Ytgiemhooeoakmaa

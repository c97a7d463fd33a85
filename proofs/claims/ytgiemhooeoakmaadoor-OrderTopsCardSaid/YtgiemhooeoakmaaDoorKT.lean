/- Layer 22, plain: the order of rows is one; sorting from the right and from the left. Layer 22, the reference: Sort. -/
import Derived.Test.YtgiemhooeoakmaaDoorKS
import Derived.Test.YtgiemhooeoakmaaDoorKM0
namespace Go.Proofs.YtgiemhooeoakmaaDoor
set_option linter.unusedVariables false
set_option linter.unusedSimpArgs false

/-- An order, told by a number. -/
structure Ord3 {α : Type} (f : α → α → Int) : Prop where
  turn : ∀ x y, f y x = -f x y
  le : ∀ x y z, f x y ≤ 0 → f y z ≤ 0 → f x z ≤ 0
theorem Ord3.back {α β : Type} {f : α → α → Int} (h : Ord3 f) (g : β → α) : Ord3 fun x y => f (g x) (g y) := ⟨fun x y => h.turn _ _, fun x y z => h.le _ _ _⟩
theorem Ord3.neg {α : Type} {f : α → α → Int} (h : Ord3 f) : Ord3 fun x y => -f x y := ⟨fun x y => by rw [h.turn], fun x y z h1 h2 => by
  have a := h.turn x y
  have b := h.turn y z
  have c := h.turn x z
  have := h.le z y x (by omega) (by omega)
  omega⟩
theorem Ord3.lex {α : Type} {f g : α → α → Int} (h : Ord3 f) (k : Ord3 g) : Ord3 fun x y => if f x y = 0 then g x y else f x y := by
  refine ⟨fun x y => ?_, fun x y z h1 h2 => ?_⟩
  · have a := h.turn x y
    have b := k.turn x y
    by_cases e : f x y = 0
    · rw [if_pos e, if_pos (by omega)]; exact b
    · rw [if_neg e, if_neg (by omega)]; exact a
  · have hxy : f x y ≤ 0 := by split at h1 <;> omega
    have hyz : f y z ≤ 0 := by split at h2 <;> omega
    have hxz := h.le x y z hxy hyz
    have a := h.turn x y
    have b := h.turn y z
    have c := h.turn x z
    by_cases e : f x z = 0
    · rw [if_pos e]
      have q1 := h.le z x y (by omega) hxy
      have q2 := h.le y z x hyz (by omega)
      have e1 : f x y = 0 := by omega
      have e2 : f y z = 0 := by omega
      rw [if_pos e1] at h1
      rw [if_pos e2] at h2
      exact k.le x y z h1 h2
    · rw [if_neg e]; exact hxz
theorem Ord3.zero {α : Type} : Ord3 fun _ _ : α => (0 : Int) := ⟨fun _ _ => rfl, fun _ _ _ _ _ => Int.le_refl _⟩
theorem cmpI_le {a b : Int} : cmpI a b ≤ 0 ↔ a ≤ b := by
  unfold cmpI
  by_cases h1 : a < b
  · simp [h1]; omega
  · by_cases h2 : b < a
    · simp [h1, h2]
    · simp [h1, h2]; omega
theorem ord_I : Ord3 cmpI := ⟨cmpI_turn, fun x y z h1 h2 => by rw [cmpI_le] at *; omega⟩
theorem compareBytes_le : ∀ a b c : List UInt8, Lib.compareBytes a b ≤ 0 → Lib.compareBytes b c ≤ 0 → Lib.compareBytes a c ≤ 0
  | [], _, [], _, _ => by simp [Lib.compareBytes]
  | [], _, _ :: _, _, _ => by simp [Lib.compareBytes]
  | _ :: _, [], _, h, _ => by simp [Lib.compareBytes] at h
  | _ :: _, _ :: _, [], _, h => by simp [Lib.compareBytes] at h
  | x :: a, y :: b, z :: c, h1, h2 => by
    rw [Lib.compareBytes] at h1 h2 ⊢
    by_cases a1 : x < y
    · by_cases b1 : y < z
      · rw [if_pos (UInt8.lt_trans a1 b1)]; decide
      · by_cases b2 : z < y
        · rw [if_neg b1, if_pos b2] at h2; exact absurd h2 (by decide)
        · have e : y = z := UInt8.le_antisymm (UInt8.not_lt.1 b2) (UInt8.not_lt.1 b1)
          subst e
          rw [if_pos a1]; decide
    · by_cases a2 : y < x
      · rw [if_neg a1, if_pos a2] at h1; exact absurd h1 (by decide)
      · have e : x = y := UInt8.le_antisymm (UInt8.not_lt.1 a2) (UInt8.not_lt.1 a1)
        subst e
        rw [if_neg a1, if_neg a1] at h1
        by_cases b1 : x < z
        · rw [if_pos b1]; decide
        · by_cases b2 : z < x
          · rw [if_neg b1, if_pos b2] at h2; exact absurd h2 (by decide)
          · rw [if_neg b1, if_neg b2] at h2 ⊢
            exact compareBytes_le a b c h1 h2
theorem ord_S : Ord3 cmpS := ⟨fun a b => compareBytes_turn _ _, fun a b c => compareBytes_le _ _ _⟩
theorem ord_B : Ord3 cmpB := ⟨cmpB_turn, fun x y z => by cases x <;> cases y <;> cases z <;> decide⟩
theorem ord_V : Ord3 cmpV := by
  have h := (ord_I.back Val.kind).lex ((ord_S.back Val.s).lex ((ord_I.back Val.n).lex ((ord_B.back Val.b).lex Ord3.zero)))
  exact h
theorem ord_1 (l : List Col) (k : KeyP) : Ord3 (key1 l k) := by
  unfold key1
  cases k.down
  · exact ord_V.back fun x : VRow => x.getD (atC (namesC l) k.col) val0
  · exact (ord_V.back fun x : VRow => x.getD (atC (namesC l) k.col) val0).neg
theorem ord_K (l : List Col) : ∀ ks : List KeyP, Ord3 (cmpK l ks)
  | [] => Ord3.zero
  | k :: r => (ord_1 l k).lex (ord_K l r)
/-- An element put into a list in order, from the left. -/
def insL {α : Type} (f : α → α → Int) (r : α) : List α → List α
  | [] => [r]
  | y :: t => if f y r ≤ 0 then y :: insL f r t else r :: y :: t
def sortF {α : Type} (f : α → α → Int) (l : List α) : List α := l.foldl (fun acc r => insL f r acc) []
theorem insL_split {α : Type} {f : α → α → Int} (h : Ord3 f) (r : α) : ∀ P : List α, P.Pairwise (fun x y => f x y ≤ 0) → ∃ A B, P = A ++ B ∧ insL f r P = A ++ r :: B ∧ (∀ a ∈ A, f a r ≤ 0) ∧ ∀ b ∈ B, 0 < f b r
  | [], _ => ⟨[], [], rfl, rfl, fun a h => (by cases h), fun a h => (by cases h)⟩
  | y :: t, hp => by
    rw [List.pairwise_cons] at hp
    by_cases hy : f y r ≤ 0
    · obtain ⟨A, B, h1, h2, h3, h4⟩ := insL_split h r t hp.2
      refine ⟨y :: A, B, by rw [h1]; rfl, by rw [insL, if_pos hy, h2]; rfl, fun a ha => ?_, h4⟩
      rcases List.mem_cons.1 ha with rfl | ha
      · exact hy
      · exact h3 a ha
    · refine ⟨[], y :: t, rfl, by rw [insL, if_neg hy]; rfl, fun a h => (by cases h), fun b hb => ?_⟩
      rcases List.mem_cons.1 hb with rfl | hb
      · omega
      · have h1 := hp.1 b hb
        rcases Int.lt_or_le 0 (f b r) with h2 | h2
        · exact h2
        · exact absurd (h.le y b r h1 h2) hy
theorem insR_app {α : Type} (lt : α → α → Bool) (x : α) : ∀ (B A : List α), (∀ b ∈ B, lt x b = true) → insR lt x (B ++ A) = B ++ insR lt x A
  | [], A, _ => rfl
  | b :: B, A, h => by
    rw [List.cons_append, insR, if_pos (h b List.mem_cons_self), insR_app lt x B A fun y hy => h y (List.mem_cons_of_mem _ hy)]
    rfl
theorem ins_both {α : Type} {f : α → α → Int} (h : Ord3 f) (r : α) (P : List α) (hp : P.Pairwise fun x y => f x y ≤ 0) : (insR (fun x y => decide (f x y < 0)) r P.reverse).reverse = insL f r P ∧ (insL f r P).Pairwise fun x y => f x y ≤ 0 := by
  obtain ⟨A, B, h1, h2, h3, h4⟩ := insL_split h r P hp
  constructor
  · rw [h2, h1, List.reverse_append, insR_app]
    · have : insR (fun x y => decide (f x y < 0)) r A.reverse = r :: A.reverse := by
        cases hr : A.reverse with
        | nil => rfl
        | cons a t =>
          have ha : a ∈ A := List.mem_reverse.1 (by rw [hr]; exact List.mem_cons_self)
          have h5 := h3 a ha
          have h6 := h.turn a r
          rw [insR, if_neg (by simp; omega)]
      rw [this]
      simp
    · intro b hb
      have h5 := h4 b (List.mem_reverse.1 hb)
      have h6 := h.turn b r
      exact decide_eq_true (by omega)
  · rw [h2, List.pairwise_append]
    rw [h1, List.pairwise_append] at hp
    refine ⟨hp.1, List.pairwise_cons.2 ⟨fun b hb => ?_, hp.2.1⟩, fun a ha b hb => ?_⟩
    · have h5 := h4 b hb
      have h6 := h.turn b r
      omega
    · rcases List.mem_cons.1 hb with rfl | hb
      · exact h3 a ha
      · exact hp.2.2 a ha b hb
theorem sort_both {α : Type} {f : α → α → Int} (h : Ord3 f) : ∀ (l P : List α), (P.Pairwise fun x y => f x y ≤ 0) → (sortR (fun x y => decide (f x y < 0)) P.reverse l).reverse = l.foldl (fun acc r => insL f r acc) P ∧ (l.foldl (fun acc r => insL f r acc) P).Pairwise fun x y => f x y ≤ 0
  | [], P, hp => ⟨by rw [sortR, List.reverse_reverse]; rfl, hp⟩
  | x :: l, P, hp => by
    obtain ⟨h1, h2⟩ := ins_both h x P hp
    have h3 := sort_both h l _ h2
    rw [← h1, List.reverse_reverse] at h3
    rw [sortR, List.foldl_cons, ← h1]
    exact h3
theorem sortK_eq (l : List Col) (ks : List KeyP) (rows : VTab) : sortK l ks rows = sortF (cmpK l ks) rows ∧ (sortF (cmpK l ks) rows).Pairwise fun x y => cmpK l ks x y ≤ 0 := sort_both (ord_K l ks) rows [] List.Pairwise.nil
theorem insL_last {α : Type} {f : α → α → Int} (r : α) : ∀ P : List α, (∀ a ∈ P, f a r ≤ 0) → insL f r P = P ++ [r]
  | [], _ => rfl
  | y :: t, h => by rw [insL, if_pos (h y List.mem_cons_self), insL_last r t fun a ha => h a (List.mem_cons_of_mem _ ha)]; rfl
theorem foldl_sorted {α : Type} {f : α → α → Int} : ∀ (l P : List α), (P ++ l).Pairwise (fun x y => f x y ≤ 0) → l.foldl (fun acc r => insL f r acc) P = P ++ l
  | [], P, _ => by simp
  | x :: l, P, hp => by
    rw [List.foldl_cons, insL_last x P]
    · rw [foldl_sorted l (P ++ [x]) (by simpa using hp)]
      simp
    · intro a ha
      exact (List.pairwise_append.1 hp).2.2 a ha x List.mem_cons_self
theorem sortF_sorted {α : Type} {f : α → α → Int} {l : List α} (h : l.Pairwise fun x y => f x y ≤ 0) : sortF f l = l := foldl_sorted l [] h
theorem sortK_again (l : List Col) (ks : List KeyP) (rows : VTab) : sortK l ks (sortK l ks rows) = sortK l ks rows := by
  rw [(sortK_eq l ks (sortK l ks rows)).1, (sortK_eq l ks rows).1]
  exact sortF_sorted (sortK_eq l ks rows).2
end Go.Proofs.YtgiemhooeoakmaaDoor

namespace Go.Proofs.YtgiemhooeoakmaaDoor
open Go.RowKit Go.ChangeShapes Go.WideShapes
set_option linter.unusedVariables false
set_option linter.unusedSimpArgs false

theorem mark_on {L : Nat → Bool} {i j : Nat} (h : L j = true) : mark L i j = true := by unfold mark; split <;> first | rfl | exact h
theorem own_drop {w : World} {base N c g n : Nat} {e : TypeId} {xs : List Value} (h : Own w base e 1 (.slice (some ⟨g, 0, none⟩) N c) N xs) (hn : n ≤ N) : Sl w w.heap.size 1 (if c = n then some ⟨g, 0, none⟩ else some ⟨g, n, none⟩) (N - n) (c - n) (xs.drop n) := by
  have hs := h.sl
  have hl := hs.len
  have hc := hs.cap
  have hg : 0 < N → g < w.heap.size := fun hp => hs.low hp ⟨g, 0, none⟩ rfl
  refine ⟨by rw [List.length_drop]; omega, by omega, Nat.le_trans (Nat.sub_le _ _) hs.most, Nat.le_trans (Nat.sub_le _ _) hs.few, fun hA => ?_, fun hp a hA => ?_, fun a j u hA hu => ?_⟩
  · split at hA <;> cases hA
  · split at hA
    · omega
    · injection hA with hA; subst hA; exact hg (by omega)
  · rw [List.getElem?_drop] at hu
    have hj : n + j < xs.length := (List.getElem?_eq_some_iff.1 hu).1
    split at hA
    · omega
    · injection hA with hA
      subst hA
      have := own_cell h hu
      rw [show (⟨g, n, none⟩ : Addr).add j = ⟨g, n + j, none⟩ by simp [Addr.add]]
      exact this
theorem own_take {w : World} {base N c g n : Nat} {e : TypeId} {xs : List Value} (h : Own w base e 1 (.slice (some ⟨g, 0, none⟩) N c) N xs) (hn : n ≤ N) : Sl w w.heap.size 1 (some ⟨g, 0, none⟩) n c (xs.take n) := by
  have hs := h.sl
  have hl := hs.len
  refine ⟨by rw [List.length_take]; omega, by have := hs.cap; omega, hs.most, by have := hs.few; omega, fun hA => (by cases hA), fun hp a hA => hs.low (by omega) a hA, fun a j u hA hu => ?_⟩
  rw [List.getElem?_take] at hu
  split at hu
  · exact hs.cell a j u hA hu
  · cases hu
theorem rrows_one {w : World} {B : Nat} {zs : List (Value × VRow)} (h : ∀ z ∈ zs, RdRV w B z.1 z.2) : ∀ u ∈ zs.map Prod.fst, u.oneCell' = true := fun u hu => by
  obtain ⟨z, hz, rfl⟩ := List.mem_map.1 hu
  obtain ⟨A, c, he, -⟩ := (h z hz).is
  rw [he]
  rfl
set_option maxHeartbeats 16000000 in
set_option maxRecDepth 100000 in
theorem rsort_any (vk vl vr : Value) (ks : List KeyP) (l : List Col) (rows : VTab) (w : World) (hk : RdRKey w w.heap.size vk ks) (hl : RdRC w w.heap.size vl l) (hr : RdRVT w w.heap.size vr rows) (hll : l.length ≤ 100000) (hrl : rows.length ≤ 1000) (hm : ∀ k ∈ ks, k.col ∈ namesC l) (hrow : ∀ r ∈ rows, r.length = l.length) :
    Calls Tryd.prog 49 #[vk, vl, vr] w fun e w' => (∃ o, e = .returned o ∧ RdRVT w' w'.heap.size o (sortF (cmpK l ks) rows)) ∧ Below w.heap.size w w' := by
  refine cps fun R HR => ?_
  obtain ⟨i0, hi0, hz0, hz1, hz2⟩ := info_parts rvrow_info
  have hk0 := hk; have hl0 := hl; have hr0 := hr
  obtain ⟨A1, c1, rfl, -⟩ := hk.is
  obtain ⟨A2, c2, rfl, -⟩ := hl.is
  obtain ⟨A3, c3, vs, rfl, -, -⟩ := hr.is
  clear hk hl hr
  have HM := Lib.hid hm; have HROW := Lib.hid hrow
  clear hm hrow
  go_enter Tryd.func49, Tryd.ntmps49
  go_wp2
  go_loopw [7, 14] (fun o i wr => ∃ (k : Nat) (zs : List (Value × VRow)), k ≤ rows.length ∧ i = .int .i64 k ∧ zs.map Prod.snd = sortF (cmpK l ks) (rows.take k) ∧ zs.length = k ∧ Own wr w.heap.size 63 1 o zs.length (zs.map Prod.fst) ∧ (∀ z ∈ zs, RdRV w w.heap.size z.1 z.2 ∧ z.2.length = l.length) ∧ Below w.heap.size w wr) (fun _ i _ => rows.length - (intOf i).toNat)
  case atStart => exact ⟨0, [], Nat.zero_le _, rfl, rfl, rfl, Own.nil_ _ _ _ _, (fun z h => by cases h), Below.refl _ _⟩
  case round =>
    obtain ⟨k, zs, hk, rfl, hzs, hzl, hO, hZ, hB⟩ := hrel
    by_cases hlt : k < rows.length
    · obtain ⟨p, d6, vx, hv, hcw, hrw⟩ := hr0.at hlt
      have hc := (hB.cell (World.block_lt_of_cell? w _ hcw)).trans hcw
      injection hv with hA hln hcc
      clear hln
      subst hA
      subst hcc
      have hs1 : sortF (cmpK l ks) (rows.take (k + 1)) = insL (cmpK l ks) rows[k] (zs.map Prod.snd) := by rw [List.take_succ_eq_append_getElem hlt, hzs]; unfold sortF; rw [List.foldl_append]; rfl
      have hxl := HROW.out _ (List.getElem_mem hlt)
      obtain ⟨x, hx⟩ : ∃ x, x = rows[k] := ⟨_, rfl⟩
      rw [← hx] at hrw hs1 hxl
      have S1 := Lib.hid hs1; have HXL := Lib.hid hxl; have HZ := Lib.hid hZ; have HZL := Lib.hid hzl
      have dk : decide ((k : Int) < rows.length) = true := decide_eq_true (by omega)
      have hzl2 : zs.length ≤ 1000 := by omega
      have hrw0 := hrw
      obtain ⟨xA, xc, rfl, -⟩ := hrw.is
      have hone := rrows_one fun z hz => (HZ.out z hz).1
      have HONE := Lib.hid hone
      obtain ⟨w1, rfl⟩ : ∃ w1 : World, w1 = wr := ⟨_, rfl⟩
      have hO0 := hO
      rcases hO.2 with ⟨hv0, hn0⟩ | ⟨g, c, cur, fr, hv0, -⟩
      · have hz0' : zs = [] := List.eq_nil_of_length_eq_zero hn0
        subst hz0'
        subst hv0
        have hk0' : k = 0 := hzl.symm
        subst hk0'
        have S1N := Lib.hid (show sortF (cmpK l ks) (rows.take (0 + 1)) = [x] by rw [S1.out]; rfl)
        have hBw5 := hB
        have dk0 : decide ((0 : Int) < rows.length) = true := by simpa using dk
        have dk1 : (0 : Int) < rows.length := of_decide_eq_true dk0
        have hc0 : w1.cell? p = some (.slice xA x.length xc) := by simpa [Addr.add] using hc
        clear hx hs1 hxl hZ hzl hzs hrw hone hcw hO hO0 hB hn0
        go_wp2
        go_loopw [10] (fun i wr => i = .int .i64 0 ∧ wr = w1) (fun _ _ => 0)
        case atStart => exact ⟨rfl, rfl⟩
        case round =>
          obtain ⟨rfl, rfl⟩ := hrel
          obtain ⟨w5, rfl⟩ : ∃ w5 : World, w5 = wr := ⟨_, rfl⟩
          go_wp2
          refine wp_region_ord (fun L aI wI => ∃ v11 v35 v36 v37 v38 v39 v40 v41 v42 v43 v44 v45 v46 : Value, aI = ⟨List.toArray ((.slice A1 ks.length c1) :: (.slice A2 l.length c2) :: (.slice (some p) rows.length c3) :: undef :: undef :: undef :: (.slice none 0 0) :: (.slice none 0 0) :: undef :: (.slice xA x.length xc) :: (.int .i64 0) :: v11 :: (.slice (some p) rows.length c3) :: (.int .i64 rows.length) :: (.int .i64 0) :: (.bool true) :: (.pointer (some p)) :: (.slice xA x.length xc) :: (.int .i64 0) :: (.slice none 0 0) :: (.int .i64 0) :: (.bool false) :: (.bool false) :: undef :: undef :: undef :: undef :: undef :: undef :: undef :: undef :: undef :: (.bool false) :: u33 :: u34 :: v35 :: v36 :: v37 :: v38 :: v39 :: v40 :: v41 :: v42 :: v43 :: v44 :: v45 :: v46 :: u47 :: u48 :: undef :: []), []⟩ ∧ (Below w5.heap.size w5 wI) ∧ (L 0 = true → v35 = .slice none 0 0) ∧ (L 1 = true → v36 = .slice none 0 0) ∧ (L 2 = true → v37 = .int .i64 0) ∧ (L 3 = true → v38 = .slice none 0 0) ∧ (L 4 = true → L 7 = false → Own wI w5.heap.size 63 1 v39 0 ([] : List Value)) ∧ (L 5 = true → v40 = .slice xA x.length xc) ∧ (L 6 = true → L 7 = false → ∃ g2, v41 = .slice (some ⟨g2, 0, none⟩) 1 1 ∧ Box wI g2 63 #[.slice xA x.length xc]) ∧ (L 7 = true → L 11 = false → Own wI w5.heap.size 63 1 v42 (0 + 1) (([] : List Value) ++ [.slice xA x.length xc])) ∧ (L 8 = true → v43 = .slice none 0 0) ∧ (L 9 = true → v44 = .int .i64 0) ∧ (L 10 = true → v45 = .slice none 0 0) ∧ (L 11 = true → (L 7 = true) ∧ Own wI w5.heap.size 63 1 v46 (0 + 1 + 0) (([] : List Value) ++ [.slice xA x.length xc] ++ ([] : List Value))) ∧ (L 12 = true → (L 0 = true ∧ L 7 = true ∧ L 11 = true) ∧ Own wI w5.heap.size 63 1 v11 (0 + 1 + 0) (([] : List Value) ++ [.slice xA x.length xc] ++ ([] : List Value))) ∧ (L 12 = false → v11 = .slice none 0 0)) (by kernel_rfl) (by kernel_rfl) ⟨_, _, _, _, _, _, _, _, _, _, _, _, _, rfl, (Below.refl _ _).drew, (fun h => absurd h Bool.false_ne_true), (fun h => absurd h Bool.false_ne_true), (fun h => absurd h Bool.false_ne_true), (fun h => absurd h Bool.false_ne_true), (fun h => absurd h Bool.false_ne_true), (fun h => absurd h Bool.false_ne_true), (fun h => absurd h Bool.false_ne_true), (fun h => absurd h Bool.false_ne_true), (fun h => absurd h Bool.false_ne_true), (fun h => absurd h Bool.false_ne_true), (fun h => absurd h Bool.false_ne_true), (fun h => absurd h Bool.false_ne_true), (fun h => absurd h Bool.false_ne_true), (fun _ => rfl)⟩ (fun L L' aI w h hI => by have e : L = L' := funext h; subst e; exact hI) ?_ ?_
          · refine ordStep_cons (fun L aI wI hI hi hp K hK => ?_) ?_
            · obtain ⟨v11, v35, v36, v37, v38, v39, v40, v41, v42, v43, v44, v45, v46, rfl, hB, d0, d1, d2, d3, d4, d5, d6, d7, d8, d9, d10, d11, d12, e0⟩ := hI
              have HK := Lib.hid hK
              clear hK
              have HP := Lib.hid hp
              clear hp
              have h12 : L 12 = false := by
                cases h : L 12 with
                | false => rfl
                | true => exact absurd (d12 h).1.1 (by rw [hi]; decide)
              have q0 := e0 h12
              subst q0
              go_simp
              refine HK.out _ _ ?_
              exact ⟨_, _, _, _, _, _, _, _, _, _, _, _, _, rfl, hB, (fun _ => rfl), (fun h => (d1 (mark_ne (by decide) h))), (fun h => (d2 (mark_ne (by decide) h))), (fun h => (d3 (mark_ne (by decide) h))), (fun h => fun h2 => (d4 (mark_ne (by decide) h)) (mark_off (by decide) h2)), (fun h => (d5 (mark_ne (by decide) h))), (fun h => fun h2 => (d6 (mark_ne (by decide) h)) (mark_off (by decide) h2)), (fun h => fun h2 => (d7 (mark_ne (by decide) h)) (mark_off (by decide) h2)), (fun h => (d8 (mark_ne (by decide) h))), (fun h => (d9 (mark_ne (by decide) h))), (fun h => (d10 (mark_ne (by decide) h))), (fun h => let ⟨q0, q1⟩ := (d11 (mark_ne (by decide) h)); ⟨mark_on q0, q1⟩), (fun h => absurd ((d12 (mark_ne (by decide) h))).1.1 (by rw [hi]; decide)), (fun h => e0 (mark_off (by decide) h))⟩
            refine ordStep_cons (fun L aI wI hI hi hp K hK => ?_) ?_
            · obtain ⟨v11, v35, v36, v37, v38, v39, v40, v41, v42, v43, v44, v45, v46, rfl, hB, d0, d1, d2, d3, d4, d5, d6, d7, d8, d9, d10, d11, d12, e0⟩ := hI
              have HK := Lib.hid hK
              clear hK
              have HP := Lib.hid hp
              clear hp
              go_simp
              refine HK.out _ _ ?_
              exact ⟨_, _, _, _, _, _, _, _, _, _, _, _, _, rfl, hB, (fun h => (d0 (mark_ne (by decide) h))), (fun _ => rfl), (fun h => (d2 (mark_ne (by decide) h))), (fun h => (d3 (mark_ne (by decide) h))), (fun h => fun h2 => (d4 (mark_ne (by decide) h)) (mark_off (by decide) h2)), (fun h => (d5 (mark_ne (by decide) h))), (fun h => fun h2 => (d6 (mark_ne (by decide) h)) (mark_off (by decide) h2)), (fun h => fun h2 => (d7 (mark_ne (by decide) h)) (mark_off (by decide) h2)), (fun h => (d8 (mark_ne (by decide) h))), (fun h => (d9 (mark_ne (by decide) h))), (fun h => (d10 (mark_ne (by decide) h))), (fun h => let ⟨q0, q1⟩ := (d11 (mark_ne (by decide) h)); ⟨mark_on q0, q1⟩), (fun h => let ⟨q0, q1⟩ := (d12 (mark_ne (by decide) h)); ⟨⟨mark_on q0.1, mark_on q0.2.1, mark_on q0.2.2⟩, q1⟩), (fun h => e0 (mark_off (by decide) h))⟩
            refine ordStep_cons (fun L aI wI hI hi hp K hK => ?_) ?_
            · obtain ⟨v11, v35, v36, v37, v38, v39, v40, v41, v42, v43, v44, v45, v46, rfl, hB, d0, d1, d2, d3, d4, d5, d6, d7, d8, d9, d10, d11, d12, e0⟩ := hI
              have HK := Lib.hid hK
              clear hK
              have HP := Lib.hid hp
              clear hp
              go_simp
              refine HK.out _ _ ?_
              exact ⟨_, _, _, _, _, _, _, _, _, _, _, _, _, rfl, hB, (fun h => (d0 (mark_ne (by decide) h))), (fun h => (d1 (mark_ne (by decide) h))), (fun _ => rfl), (fun h => (d3 (mark_ne (by decide) h))), (fun h => fun h2 => (d4 (mark_ne (by decide) h)) (mark_off (by decide) h2)), (fun h => (d5 (mark_ne (by decide) h))), (fun h => fun h2 => (d6 (mark_ne (by decide) h)) (mark_off (by decide) h2)), (fun h => fun h2 => (d7 (mark_ne (by decide) h)) (mark_off (by decide) h2)), (fun h => (d8 (mark_ne (by decide) h))), (fun h => (d9 (mark_ne (by decide) h))), (fun h => (d10 (mark_ne (by decide) h))), (fun h => let ⟨q0, q1⟩ := (d11 (mark_ne (by decide) h)); ⟨mark_on q0, q1⟩), (fun h => let ⟨q0, q1⟩ := (d12 (mark_ne (by decide) h)); ⟨⟨mark_on q0.1, mark_on q0.2.1, mark_on q0.2.2⟩, q1⟩), (fun h => e0 (mark_off (by decide) h))⟩
            refine ordStep_cons (fun L aI wI hI hi hp K hK => ?_) ?_
            · obtain ⟨v11, v35, v36, v37, v38, v39, v40, v41, v42, v43, v44, v45, v46, rfl, hB, d0, d1, d2, d3, d4, d5, d6, d7, d8, d9, d10, d11, d12, e0⟩ := hI
              have HK := Lib.hid hK
              clear hK
              have p1 := d1 (hp ⟨1, .data⟩ (by simp) rfl)
              have p2 := d2 (hp ⟨2, .data⟩ (by simp) rfl)
              have HP := Lib.hid hp
              clear hp
              subst p1
              subst p2
              go_simp
              refine HK.out _ _ ?_
              exact ⟨_, _, _, _, _, _, _, _, _, _, _, _, _, rfl, hB, (fun h => (d0 (mark_ne (by decide) h))), (fun h => (d1 (mark_ne (by decide) h))), (fun h => (d2 (mark_ne (by decide) h))), (fun _ => rfl), (fun h => fun h2 => (d4 (mark_ne (by decide) h)) (mark_off (by decide) h2)), (fun h => (d5 (mark_ne (by decide) h))), (fun h => fun h2 => (d6 (mark_ne (by decide) h)) (mark_off (by decide) h2)), (fun h => fun h2 => (d7 (mark_ne (by decide) h)) (mark_off (by decide) h2)), (fun h => (d8 (mark_ne (by decide) h))), (fun h => (d9 (mark_ne (by decide) h))), (fun h => (d10 (mark_ne (by decide) h))), (fun h => let ⟨q0, q1⟩ := (d11 (mark_ne (by decide) h)); ⟨mark_on q0, q1⟩), (fun h => let ⟨q0, q1⟩ := (d12 (mark_ne (by decide) h)); ⟨⟨mark_on q0.1, mark_on q0.2.1, mark_on q0.2.2⟩, q1⟩), (fun h => e0 (mark_off (by decide) h))⟩
            refine ordStep_cons (fun L aI wI hI hi hp K hK => ?_) ?_
            · obtain ⟨v11, v35, v36, v37, v38, v39, v40, v41, v42, v43, v44, v45, v46, rfl, hB, d0, d1, d2, d3, d4, d5, d6, d7, d8, d9, d10, d11, d12, e0⟩ := hI
              have HK := Lib.hid hK
              clear hK
              have p0 := d0 (hp ⟨0, .data⟩ (by simp) rfl)
              have p3 := d3 (hp ⟨3, .data⟩ (by simp) rfl)
              have HP := Lib.hid hp
              clear hp
              subst p0
              subst p3
              rw [if_pos (by rfl)]
              refine wp_append_lit w5.heap.size 63 i0 _ 1 24 Tryd.underlying37 hi0 hz0 hz1 hz2 rfl (by omega) (by omega) (.slice none 0 0) (0) ([]) (Own.nil_ _ _ _ _) wI.heap.size (none) (0) (0) ([]) (Sl.none_ _ _ _) (fun u hu => by cases hu) (by simp only [maxLen]; omega) (by omega) hB.size (by simp [Act.eval]) (by simp [Act.eval]) ?_
              intro v8 w8 ho8 hg8 hat8
              refine HK.out _ _ ?_
              exact ⟨_, _, _, _, _, _, _, _, _, _, _, _, _, rfl, hB.trans ((below_grown (Below.refl wI.heap.size wI) hg8 (fun g hg => by simp [Value.ownBlock] at hg) (Nat.le_refl _)).mono hB.size), (fun h => (d0 (mark_ne (by decide) h))), (fun h => (d1 (mark_ne (by decide) h))), (fun h => (d2 (mark_ne (by decide) h))), (fun h => (d3 (mark_ne (by decide) h))), (fun _ => fun _ => by simpa using ho8), (fun h => (d5 (mark_ne (by decide) h))), (fun h => fun h2 => let ⟨q, q1, q2⟩ := (d6 (mark_ne (by decide) h)) (mark_off (by decide) h2); ⟨q, q1, q2.below (below_grown (Below.refl wI.heap.size wI) hg8 (fun g hg => by simp [Value.ownBlock] at hg) (Nat.le_refl _)) q2.lt⟩), (fun h => fun h2 => ((d7 (mark_ne (by decide) h)) (mark_off (by decide) h2)).below (below_grown (Below.refl wI.heap.size wI) hg8 (fun g hg => by simp [Value.ownBlock] at hg) (Nat.le_refl _)) (Nat.le_refl _)), (fun h => (d8 (mark_ne (by decide) h))), (fun h => (d9 (mark_ne (by decide) h))), (fun h => (d10 (mark_ne (by decide) h))), (fun h => let ⟨q0, q1⟩ := (d11 (mark_ne (by decide) h)); ⟨mark_on q0, q1.below (below_grown (Below.refl wI.heap.size wI) hg8 (fun g hg => by simp [Value.ownBlock] at hg) (Nat.le_refl _)) (Nat.le_refl _)⟩), (fun h => let ⟨q0, q1⟩ := (d12 (mark_ne (by decide) h)); ⟨⟨mark_on q0.1, mark_on q0.2.1, mark_on q0.2.2⟩, q1.below (below_grown (Below.refl wI.heap.size wI) hg8 (fun g hg => by simp [Value.ownBlock] at hg) (Nat.le_refl _)) (Nat.le_refl _)⟩), (fun h => e0 (mark_off (by decide) h))⟩
            refine ordStep_cons (fun L aI wI hI hi hp K hK => ?_) ?_
            · obtain ⟨v11, v35, v36, v37, v38, v39, v40, v41, v42, v43, v44, v45, v46, rfl, hB, d0, d1, d2, d3, d4, d5, d6, d7, d8, d9, d10, d11, d12, e0⟩ := hI
              have HK := Lib.hid hK
              clear hK
              have HP := Lib.hid hp
              clear hp
              go_simp
              refine HK.out _ _ ?_
              exact ⟨_, _, _, _, _, _, _, _, _, _, _, _, _, rfl, hB, (fun h => (d0 (mark_ne (by decide) h))), (fun h => (d1 (mark_ne (by decide) h))), (fun h => (d2 (mark_ne (by decide) h))), (fun h => (d3 (mark_ne (by decide) h))), (fun h => fun h2 => (d4 (mark_ne (by decide) h)) (mark_off (by decide) h2)), (fun _ => rfl), (fun h => fun h2 => (d6 (mark_ne (by decide) h)) (mark_off (by decide) h2)), (fun h => fun h2 => (d7 (mark_ne (by decide) h)) (mark_off (by decide) h2)), (fun h => (d8 (mark_ne (by decide) h))), (fun h => (d9 (mark_ne (by decide) h))), (fun h => (d10 (mark_ne (by decide) h))), (fun h => let ⟨q0, q1⟩ := (d11 (mark_ne (by decide) h)); ⟨mark_on q0, q1⟩), (fun h => let ⟨q0, q1⟩ := (d12 (mark_ne (by decide) h)); ⟨⟨mark_on q0.1, mark_on q0.2.1, mark_on q0.2.2⟩, q1⟩), (fun h => e0 (mark_off (by decide) h))⟩
            refine ordStep_cons (fun L aI wI hI hi hp K hK => ?_) ?_
            · obtain ⟨v11, v35, v36, v37, v38, v39, v40, v41, v42, v43, v44, v45, v46, rfl, hB, d0, d1, d2, d3, d4, d5, d6, d7, d8, d9, d10, d11, d12, e0⟩ := hI
              have HK := Lib.hid hK
              clear hK
              have p5 := d5 (hp ⟨5, .data⟩ (by simp) rfl)
              have HP := Lib.hid hp
              clear hp
              subst p5
              go_simp
              refine HK.out _ _ ?_
              exact ⟨_, _, _, _, _, _, _, _, _, _, _, _, _, rfl, hB.alloc hB.size _, (fun h => (d0 (mark_ne (by decide) h))), (fun h => (d1 (mark_ne (by decide) h))), (fun h => (d2 (mark_ne (by decide) h))), (fun h => (d3 (mark_ne (by decide) h))), (fun h => fun h2 => ((d4 (mark_ne (by decide) h)) (mark_off (by decide) h2)).below ((Below.refl wI.heap.size wI).alloc (Nat.le_refl _) _) (Nat.le_refl _)), (fun h => (d5 (mark_ne (by decide) h))), (fun _ => fun _ => ⟨_, rfl, Box.new _ _ _⟩), (fun h => fun h2 => ((d7 (mark_ne (by decide) h)) (mark_off (by decide) h2)).below ((Below.refl wI.heap.size wI).alloc (Nat.le_refl _) _) (Nat.le_refl _)), (fun h => (d8 (mark_ne (by decide) h))), (fun h => (d9 (mark_ne (by decide) h))), (fun h => (d10 (mark_ne (by decide) h))), (fun h => let ⟨q0, q1⟩ := (d11 (mark_ne (by decide) h)); ⟨mark_on q0, q1.below ((Below.refl wI.heap.size wI).alloc (Nat.le_refl _) _) (Nat.le_refl _)⟩), (fun h => let ⟨q0, q1⟩ := (d12 (mark_ne (by decide) h)); ⟨⟨mark_on q0.1, mark_on q0.2.1, mark_on q0.2.2⟩, q1.below ((Below.refl wI.heap.size wI).alloc (Nat.le_refl _) _) (Nat.le_refl _)⟩), (fun h => e0 (mark_off (by decide) h))⟩
            refine ordStep_cons (fun L aI wI hI hi hp K hK => ?_) ?_
            · obtain ⟨v11, v35, v36, v37, v38, v39, v40, v41, v42, v43, v44, v45, v46, rfl, hB, d0, d1, d2, d3, d4, d5, d6, d7, d8, d9, d10, d11, d12, e0⟩ := hI
              have HK := Lib.hid hK
              clear hK
              have p4 := d4 (hp ⟨4, .data⟩ (by simp) rfl)
              have p6 := d6 (hp ⟨6, .data⟩ (by simp) rfl)
              have HP := Lib.hid hp
              clear hp
              have ow := p4 hi
              obtain ⟨g2, rfl, hb2⟩ := p6 hi
              obtain ⟨oA, oc, rfl, -⟩ := id ow.form
              rw [if_pos (by rfl)]
              refine wp_append_lit w5.heap.size 63 i0 _ 1 24 Tryd.underlying37 hi0 hz0 hz1 hz2 rfl (by omega) (by omega) (.slice oA 0 oc) (0) ([]) (ow) wI.heap.size (some ⟨g2, 0, none⟩) (1) (1) ([.slice xA x.length xc]) (hb2.sl 1 1 rfl (by omega)) (fun u hu => by rw [List.mem_singleton.1 hu]; rfl) (by simp only [maxLen]; omega) (by omega) hB.size (by simp [Act.eval]) (by simp [Act.eval]) ?_
              intro v8 w8 ho8 hg8 hat8
              refine HK.out _ _ ?_
              exact ⟨_, _, _, _, _, _, _, _, _, _, _, _, _, rfl, below_grown hB hg8 (fun g hg => (ow.lt g hg).1) hB.size, (fun h => (d0 (mark_ne (by decide) h))), (fun h => (d1 (mark_ne (by decide) h))), (fun h => (d2 (mark_ne (by decide) h))), (fun h => (d3 (mark_ne (by decide) h))), (fun h => fun h2 => mark_self h2), (fun h => (d5 (mark_ne (by decide) h))), (fun h => fun h2 => mark_self h2), (fun _ => fun _ => ho8), (fun h => (d8 (mark_ne (by decide) h))), (fun h => (d9 (mark_ne (by decide) h))), (fun h => (d10 (mark_ne (by decide) h))), (fun h => absurd ((d11 (mark_ne (by decide) h))).1 (by rw [hi]; decide)), (fun h => absurd ((d12 (mark_ne (by decide) h))).1.2.1 (by rw [hi]; decide)), (fun h => e0 (mark_off (by decide) h))⟩
            refine ordStep_cons (fun L aI wI hI hi hp K hK => ?_) ?_
            · obtain ⟨v11, v35, v36, v37, v38, v39, v40, v41, v42, v43, v44, v45, v46, rfl, hB, d0, d1, d2, d3, d4, d5, d6, d7, d8, d9, d10, d11, d12, e0⟩ := hI
              have HK := Lib.hid hK
              clear hK
              have HP := Lib.hid hp
              clear hp
              go_simp
              refine HK.out _ _ ?_
              exact ⟨_, _, _, _, _, _, _, _, _, _, _, _, _, rfl, hB, (fun h => (d0 (mark_ne (by decide) h))), (fun h => (d1 (mark_ne (by decide) h))), (fun h => (d2 (mark_ne (by decide) h))), (fun h => (d3 (mark_ne (by decide) h))), (fun h => fun h2 => (d4 (mark_ne (by decide) h)) (mark_off (by decide) h2)), (fun h => (d5 (mark_ne (by decide) h))), (fun h => fun h2 => (d6 (mark_ne (by decide) h)) (mark_off (by decide) h2)), (fun h => fun h2 => (d7 (mark_ne (by decide) h)) (mark_off (by decide) h2)), (fun _ => rfl), (fun h => (d9 (mark_ne (by decide) h))), (fun h => (d10 (mark_ne (by decide) h))), (fun h => let ⟨q0, q1⟩ := (d11 (mark_ne (by decide) h)); ⟨mark_on q0, q1⟩), (fun h => let ⟨q0, q1⟩ := (d12 (mark_ne (by decide) h)); ⟨⟨mark_on q0.1, mark_on q0.2.1, mark_on q0.2.2⟩, q1⟩), (fun h => e0 (mark_off (by decide) h))⟩
            refine ordStep_cons (fun L aI wI hI hi hp K hK => ?_) ?_
            · obtain ⟨v11, v35, v36, v37, v38, v39, v40, v41, v42, v43, v44, v45, v46, rfl, hB, d0, d1, d2, d3, d4, d5, d6, d7, d8, d9, d10, d11, d12, e0⟩ := hI
              have HK := Lib.hid hK
              clear hK
              have HP := Lib.hid hp
              clear hp
              go_simp
              refine HK.out _ _ ?_
              exact ⟨_, _, _, _, _, _, _, _, _, _, _, _, _, rfl, hB, (fun h => (d0 (mark_ne (by decide) h))), (fun h => (d1 (mark_ne (by decide) h))), (fun h => (d2 (mark_ne (by decide) h))), (fun h => (d3 (mark_ne (by decide) h))), (fun h => fun h2 => (d4 (mark_ne (by decide) h)) (mark_off (by decide) h2)), (fun h => (d5 (mark_ne (by decide) h))), (fun h => fun h2 => (d6 (mark_ne (by decide) h)) (mark_off (by decide) h2)), (fun h => fun h2 => (d7 (mark_ne (by decide) h)) (mark_off (by decide) h2)), (fun h => (d8 (mark_ne (by decide) h))), (fun _ => rfl), (fun h => (d10 (mark_ne (by decide) h))), (fun h => let ⟨q0, q1⟩ := (d11 (mark_ne (by decide) h)); ⟨mark_on q0, q1⟩), (fun h => let ⟨q0, q1⟩ := (d12 (mark_ne (by decide) h)); ⟨⟨mark_on q0.1, mark_on q0.2.1, mark_on q0.2.2⟩, q1⟩), (fun h => e0 (mark_off (by decide) h))⟩
            refine ordStep_cons (fun L aI wI hI hi hp K hK => ?_) ?_
            · obtain ⟨v11, v35, v36, v37, v38, v39, v40, v41, v42, v43, v44, v45, v46, rfl, hB, d0, d1, d2, d3, d4, d5, d6, d7, d8, d9, d10, d11, d12, e0⟩ := hI
              have HK := Lib.hid hK
              clear hK
              have p8 := d8 (hp ⟨8, .data⟩ (by simp) rfl)
              have p9 := d9 (hp ⟨9, .data⟩ (by simp) rfl)
              have HP := Lib.hid hp
              clear hp
              subst p8
              subst p9
              go_simp
              refine HK.out _ _ ?_
              exact ⟨_, _, _, _, _, _, _, _, _, _, _, _, _, rfl, hB, (fun h => (d0 (mark_ne (by decide) h))), (fun h => (d1 (mark_ne (by decide) h))), (fun h => (d2 (mark_ne (by decide) h))), (fun h => (d3 (mark_ne (by decide) h))), (fun h => fun h2 => (d4 (mark_ne (by decide) h)) (mark_off (by decide) h2)), (fun h => (d5 (mark_ne (by decide) h))), (fun h => fun h2 => (d6 (mark_ne (by decide) h)) (mark_off (by decide) h2)), (fun h => fun h2 => (d7 (mark_ne (by decide) h)) (mark_off (by decide) h2)), (fun h => (d8 (mark_ne (by decide) h))), (fun h => (d9 (mark_ne (by decide) h))), (fun _ => rfl), (fun h => let ⟨q0, q1⟩ := (d11 (mark_ne (by decide) h)); ⟨mark_on q0, q1⟩), (fun h => let ⟨q0, q1⟩ := (d12 (mark_ne (by decide) h)); ⟨⟨mark_on q0.1, mark_on q0.2.1, mark_on q0.2.2⟩, q1⟩), (fun h => e0 (mark_off (by decide) h))⟩
            refine ordStep_cons (fun L aI wI hI hi hp K hK => ?_) ?_
            · obtain ⟨v11, v35, v36, v37, v38, v39, v40, v41, v42, v43, v44, v45, v46, rfl, hB, d0, d1, d2, d3, d4, d5, d6, d7, d8, d9, d10, d11, d12, e0⟩ := hI
              have HK := Lib.hid hK
              clear hK
              have p7 := d7 (hp ⟨7, .data⟩ (by simp) rfl)
              have p10 := d10 (hp ⟨10, .data⟩ (by simp) rfl)
              have q7 := hp ⟨7, .data⟩ (by simp) rfl
              have Q7 := Lib.hid q7
              clear q7
              have HP := Lib.hid hp
              clear hp
              have ow := p7 hi
              subst p10
              obtain ⟨oA, oc, rfl, -⟩ := id ow.form
              rw [if_pos (by rfl)]
              refine wp_append_lit w5.heap.size 63 i0 _ 1 24 Tryd.underlying37 hi0 hz0 hz1 hz2 rfl (by omega) (by omega) (.slice oA (0 + 1) oc) (0 + 1) ([] ++ [.slice xA x.length xc]) (ow) wI.heap.size (none) (0) (0) ([]) (Sl.none_ _ _ _) (fun u hu => by cases hu) (by simp only [maxLen]; omega) (by omega) hB.size (by simp [Act.eval]) (by simp [Act.eval]) ?_
              intro v8 w8 ho8 hg8 hat8
              refine HK.out _ _ ?_
              exact ⟨_, _, _, _, _, _, _, _, _, _, _, _, _, rfl, below_grown hB hg8 (fun g hg => (ow.lt g hg).1) hB.size, (fun h => (d0 (mark_ne (by decide) h))), (fun h => (d1 (mark_ne (by decide) h))), (fun h => (d2 (mark_ne (by decide) h))), (fun h => (d3 (mark_ne (by decide) h))), (fun h => fun h2 => absurd (mark_off (by decide) h2) (by rw [Q7.out]; decide)), (fun h => (d5 (mark_ne (by decide) h))), (fun h => fun h2 => absurd (mark_off (by decide) h2) (by rw [Q7.out]; decide)), (fun h => fun h2 => mark_self h2), (fun h => (d8 (mark_ne (by decide) h))), (fun h => (d9 (mark_ne (by decide) h))), (fun h => (d10 (mark_ne (by decide) h))), (fun _ => ⟨mark_on Q7.out, ho8⟩), (fun h => absurd ((d12 (mark_ne (by decide) h))).1.2.2 (by rw [hi]; decide)), (fun h => e0 (mark_off (by decide) h))⟩
            refine ordStep_cons (fun L aI wI hI hi hp K hK => ?_) ?_
            · obtain ⟨v11, v35, v36, v37, v38, v39, v40, v41, v42, v43, v44, v45, v46, rfl, hB, d0, d1, d2, d3, d4, d5, d6, d7, d8, d9, d10, d11, d12, e0⟩ := hI
              have HK := Lib.hid hK
              clear hK
              have p11 := d11 (hp ⟨11, .data⟩ (by simp) rfl)
              have q0 := hp ⟨0, .phase⟩ (by simp) rfl
              have q7 := hp ⟨7, .phase⟩ (by simp) rfl
              have q11 := hp ⟨11, .data⟩ (by simp) rfl
              have Q := Lib.hid (And.intro q0 (And.intro q7 q11))
              clear q0 q7 q11
              have HP := Lib.hid hp
              clear hp
              obtain ⟨oA, oc, rfl, -⟩ := id p11.2.form
              go_simp
              refine HK.out _ _ ?_
              exact ⟨_, _, _, _, _, _, _, _, _, _, _, _, _, rfl, hB, (fun h => (d0 (mark_ne (by decide) h))), (fun h => (d1 (mark_ne (by decide) h))), (fun h => (d2 (mark_ne (by decide) h))), (fun h => (d3 (mark_ne (by decide) h))), (fun h => fun h2 => (d4 (mark_ne (by decide) h)) (mark_off (by decide) h2)), (fun h => (d5 (mark_ne (by decide) h))), (fun h => fun h2 => (d6 (mark_ne (by decide) h)) (mark_off (by decide) h2)), (fun h => fun h2 => (d7 (mark_ne (by decide) h)) (mark_off (by decide) h2)), (fun h => (d8 (mark_ne (by decide) h))), (fun h => (d9 (mark_ne (by decide) h))), (fun h => (d10 (mark_ne (by decide) h))), (fun h => let ⟨q0, q1⟩ := (d11 (mark_ne (by decide) h)); ⟨mark_on q0, q1⟩), (fun _ => ⟨⟨mark_on Q.out.1, mark_on Q.out.2.1, mark_on Q.out.2.2⟩, p11.2⟩), (fun h => mark_self h)⟩
            exact ordStep_nil
          · intro L aI wI hL hI
            obtain ⟨v11, v35, v36, v37, v38, v39, v40, v41, v42, v43, v44, v45, v46, rfl, hB, d0, d1, d2, d3, d4, d5, d6, d7, d8, d9, d10, d11, d12, e0⟩ := hI
            have hO9 := (d12 (hL 12 (by decide))).2
            clear d0 d1 d2 d3 d4 d5 d6 d7 d8 d9 d10 d11 d12 e0 hL L
            obtain ⟨w9, hw9⟩ : ∃ w9, w9 = wI := ⟨_, rfl⟩
            subst hw9
            have bw9 := hBw5.trans (hB.mono hBw5.size)
            have hO10 := hO9.mono hBw5.size
            have HO10 := Lib.hid hO10
            clear hO9 hO10 hB
            go_wp2
            exact ⟨⟨1, [(.slice xA x.length xc, x)], by omega, by go_num, by rw [S1N.out]; rfl, rfl, HO10.out, fun z hz => by rw [List.mem_singleton.1 hz]; exact ⟨hrw0, HXL.out⟩, bw9⟩, by simp [intOf]; omega⟩
      · clear hx hs1 hxl hZ hzl hzs hrw hone hcw
        rw [hv0] at hO
        have HO := Lib.hid hO; have HB1 := Lib.hid hB; have HV0 := Lib.hid hv0
        clear hO hO0
        subst hv0
        go_wp2
        go_loopw [10] (fun i wr => ∃ n : Nat, n ≤ zs.length ∧ i = .int .i64 n ∧ insL (cmpK l ks) x (zs.map Prod.snd) = (zs.map Prod.snd).take n ++ insL (cmpK l ks) x ((zs.map Prod.snd).drop n) ∧ Below w1.heap.size w1 wr) (fun i _ => zs.length - (intOf i).toNat)
        case atStart => exact ⟨0, Nat.zero_le _, rfl, rfl, Below.refl _ _⟩
        case round =>
          obtain ⟨n, hn, rfl, hins, hBn⟩ := hrel
          have HINS := Lib.hid hins
          clear hins
          have hOn := HO.out.below hBn (Nat.le_refl _)
          have hBw := HB1.out.trans (hBn.mono HB1.out.size)
          by_cases hltn : n < zs.length
          · have hu : (zs.map Prod.fst)[n]? = some zs[n].1 := by rw [List.getElem?_map, List.getElem?_eq_getElem hltn]; rfl
            have cu := own_cell hOn hu
            have hzn := HZ.out _ (List.getElem_mem hltn)
            have hdr : (zs.map Prod.snd).drop n = zs[n].2 :: (zs.map Prod.snd).drop (n + 1) := by rw [List.drop_eq_getElem_cons (by simpa using hltn)]; simp
            have htk : (zs.map Prod.snd).take (n + 1) = (zs.map Prod.snd).take n ++ [zs[n].2] := by rw [List.take_succ_eq_append_getElem (by simpa using hltn)]; simp
            obtain ⟨z, hz⟩ : ∃ z, z = zs[n] := ⟨_, rfl⟩
            rw [← hz] at cu hzn hdr htk
            obtain ⟨zv, zr⟩ := z
            dsimp only at cu hzn hdr htk
            obtain ⟨hzr, hzlen⟩ := hzn
            obtain ⟨zA, zc, rfl, -⟩ := hzr.is
            have inn : (n : Int) < zs.length := by omega
            have dn : decide ((n : Int) < zs.length) = true := decide_eq_true inn
            obtain ⟨M, hMM⟩ : ∃ M, M = cmpK l ks zr x := ⟨_, rfl⟩
            have HMM := Lib.hid hMM; have HDR := Lib.hid hdr; have HTK := Lib.hid htk; have HZLEN := Lib.hid hzlen
            clear hu hz hMM hdr htk hzlen
            go_wp2_with fail
            refine (rcompare_any _ _ _ _ ks l zr x _ (RdF.next hk0 hBw) (RdF.next hl0 hBw) (RdF.next hzr hBw) (RdF.next hrw0 hBw) hll HM.out HZLEN.out HXL.out).mono ?_
            rintro e w5 ⟨rfl, b5⟩
            rw [← HMM.out]
            have hB5 := hBn.trans (b5.mono hBn.size)
            by_cases hM0 : M ≤ 0
            · have dM : decide (M ≤ 0) = true := decide_eq_true hM0
              have hnx := HINS.out
              rw [HDR.out, insL, if_pos (by rw [← HMM.out]; exact hM0)] at hnx
              have HNX := Lib.hid (show insL (cmpK l ks) x (zs.map Prod.snd) = (zs.map Prod.snd).take (n + 1) ++ insL (cmpK l ks) x ((zs.map Prod.snd).drop (n + 1)) by rw [hnx, HTK.out]; simp)
              clear hnx cu
              go_wp2
              exact ⟨⟨n + 1, by omega, by go_num, HNX.out, hB5⟩, by simp [intOf]; omega⟩
            · have dM : decide (M ≤ 0) = false := decide_eq_false hM0
              have hfin := HINS.out
              rw [HDR.out, insL, if_neg (by rw [← HMM.out]; exact hM0), ← HDR.out] at hfin
              have HFIN := Lib.hid hfin
              clear hfin cu
              go_wp2
              have hO5 := HO.out.below hB5 (Nat.le_refl _)
              have HTK5 := Lib.hid (own_take hO5 (n := n) (by omega)); have HDR5 := Lib.hid (own_drop hO5 (n := n) (by omega))
              have HONET := Lib.hid (fun (u : Value) (hu : u ∈ (zs.map Prod.fst).take n) => HONE.out u (List.mem_of_mem_take hu))
              have HONED := Lib.hid (fun (u : Value) (hu : u ∈ (zs.map Prod.fst).drop n) => HONE.out u (List.mem_of_mem_drop hu))
              have hcap := hO5.sl.cap
              have in1 : (n : Int) ≤ c := by omega
              have in2 : (0 : Int) ≤ (n : Int) := by omega
              have in3 : (n : Int) ≤ zs.length := by omega
              have in4 : ¬ ((n : Int) < 0) := by omega
              clear hO5
              refine wp_region_ord (fun L aI wI => ∃ v11 v35 v36 v37 v38 v39 v40 v41 v42 v43 v44 v45 v46 : Value, aI = ⟨List.toArray ((.slice A1 ks.length c1) :: (.slice A2 l.length c2) :: (.slice (some p) rows.length c3) :: undef :: undef :: undef :: (.slice none 0 0) :: (.slice (some ⟨g, 0, none⟩) zs.length c) :: undef :: (.slice xA x.length xc) :: (.int .i64 n) :: v11 :: (.slice (some p) rows.length c3) :: (.int .i64 rows.length) :: (.int .i64 k) :: (.bool true) :: (.pointer (some (p.add k))) :: (.slice xA x.length xc) :: (.int .i64 n) :: (.slice (some ⟨g, 0, none⟩) zs.length c) :: (.int .i64 zs.length) :: (.bool true) :: (.bool true) :: (.slice A1 ks.length c1) :: (.slice A2 l.length c2) :: (.slice (some ⟨g, 0, none⟩) zs.length c) :: (.int .i64 n) :: (.pointer (some ⟨g, n, none⟩)) :: (.slice zA zr.length zc) :: (.slice xA x.length xc) :: (.int .i64 M) :: (.bool false) :: (.bool false) :: u33 :: u34 :: v35 :: v36 :: v37 :: v38 :: v39 :: v40 :: v41 :: v42 :: v43 :: v44 :: v45 :: v46 :: u47 :: u48 :: undef :: []), []⟩ ∧ (Below w5.heap.size w5 wI) ∧ (L 0 = true → v35 = .slice none 0 0) ∧ (L 1 = true → v36 = .slice (some ⟨g, 0, none⟩) zs.length c) ∧ (L 2 = true → v37 = .int .i64 n) ∧ (L 3 = true → v38 = .slice (some ⟨g, 0, none⟩) n c) ∧ (L 4 = true → L 7 = false → Own wI w5.heap.size 63 1 v39 n ((zs.map Prod.fst).take n)) ∧ (L 5 = true → v40 = .slice xA x.length xc) ∧ (L 6 = true → L 7 = false → ∃ g2, v41 = .slice (some ⟨g2, 0, none⟩) 1 1 ∧ Box wI g2 63 #[.slice xA x.length xc]) ∧ (L 7 = true → L 11 = false → Own wI w5.heap.size 63 1 v42 (n + 1) (((zs.map Prod.fst).take n) ++ [.slice xA x.length xc])) ∧ (L 8 = true → v43 = .slice (some ⟨g, 0, none⟩) zs.length c) ∧ (L 9 = true → v44 = .int .i64 n) ∧ (L 10 = true → v45 = .slice (if c = n then some ⟨g, 0, none⟩ else some ⟨g, n, none⟩) (zs.length - n) (c - n)) ∧ (L 11 = true → (L 7 = true) ∧ Own wI w5.heap.size 63 1 v46 (n + 1 + (zs.length - n)) (((zs.map Prod.fst).take n) ++ [.slice xA x.length xc] ++ ((zs.map Prod.fst).drop n))) ∧ (L 12 = true → (L 0 = true ∧ L 7 = true ∧ L 11 = true) ∧ Own wI w5.heap.size 63 1 v11 (n + 1 + (zs.length - n)) (((zs.map Prod.fst).take n) ++ [.slice xA x.length xc] ++ ((zs.map Prod.fst).drop n))) ∧ (L 12 = false → v11 = .slice none 0 0)) (by kernel_rfl) (by kernel_rfl) ⟨_, _, _, _, _, _, _, _, _, _, _, _, _, rfl, (Below.refl _ _).drew, (fun h => absurd h Bool.false_ne_true), (fun h => absurd h Bool.false_ne_true), (fun h => absurd h Bool.false_ne_true), (fun h => absurd h Bool.false_ne_true), (fun h => absurd h Bool.false_ne_true), (fun h => absurd h Bool.false_ne_true), (fun h => absurd h Bool.false_ne_true), (fun h => absurd h Bool.false_ne_true), (fun h => absurd h Bool.false_ne_true), (fun h => absurd h Bool.false_ne_true), (fun h => absurd h Bool.false_ne_true), (fun h => absurd h Bool.false_ne_true), (fun h => absurd h Bool.false_ne_true), (fun _ => rfl)⟩ (fun L L' aI w h hI => by have e : L = L' := funext h; subst e; exact hI) ?_ ?_
              · refine ordStep_cons (fun L aI wI hI hi hp K hK => ?_) ?_
                · obtain ⟨v11, v35, v36, v37, v38, v39, v40, v41, v42, v43, v44, v45, v46, rfl, hB, d0, d1, d2, d3, d4, d5, d6, d7, d8, d9, d10, d11, d12, e0⟩ := hI
                  have HK := Lib.hid hK
                  clear hK
                  have HP := Lib.hid hp
                  clear hp
                  have h12 : L 12 = false := by
                    cases h : L 12 with
                    | false => rfl
                    | true => exact absurd (d12 h).1.1 (by rw [hi]; decide)
                  have q0 := e0 h12
                  subst q0
                  go_simp
                  refine HK.out _ _ ?_
                  exact ⟨_, _, _, _, _, _, _, _, _, _, _, _, _, rfl, hB, (fun _ => rfl), (fun h => (d1 (mark_ne (by decide) h))), (fun h => (d2 (mark_ne (by decide) h))), (fun h => (d3 (mark_ne (by decide) h))), (fun h => fun h2 => (d4 (mark_ne (by decide) h)) (mark_off (by decide) h2)), (fun h => (d5 (mark_ne (by decide) h))), (fun h => fun h2 => (d6 (mark_ne (by decide) h)) (mark_off (by decide) h2)), (fun h => fun h2 => (d7 (mark_ne (by decide) h)) (mark_off (by decide) h2)), (fun h => (d8 (mark_ne (by decide) h))), (fun h => (d9 (mark_ne (by decide) h))), (fun h => (d10 (mark_ne (by decide) h))), (fun h => let ⟨q0, q1⟩ := (d11 (mark_ne (by decide) h)); ⟨mark_on q0, q1⟩), (fun h => absurd ((d12 (mark_ne (by decide) h))).1.1 (by rw [hi]; decide)), (fun h => e0 (mark_off (by decide) h))⟩
                refine ordStep_cons (fun L aI wI hI hi hp K hK => ?_) ?_
                · obtain ⟨v11, v35, v36, v37, v38, v39, v40, v41, v42, v43, v44, v45, v46, rfl, hB, d0, d1, d2, d3, d4, d5, d6, d7, d8, d9, d10, d11, d12, e0⟩ := hI
                  have HK := Lib.hid hK
                  clear hK
                  have HP := Lib.hid hp
                  clear hp
                  go_simp
                  refine HK.out _ _ ?_
                  exact ⟨_, _, _, _, _, _, _, _, _, _, _, _, _, rfl, hB, (fun h => (d0 (mark_ne (by decide) h))), (fun _ => rfl), (fun h => (d2 (mark_ne (by decide) h))), (fun h => (d3 (mark_ne (by decide) h))), (fun h => fun h2 => (d4 (mark_ne (by decide) h)) (mark_off (by decide) h2)), (fun h => (d5 (mark_ne (by decide) h))), (fun h => fun h2 => (d6 (mark_ne (by decide) h)) (mark_off (by decide) h2)), (fun h => fun h2 => (d7 (mark_ne (by decide) h)) (mark_off (by decide) h2)), (fun h => (d8 (mark_ne (by decide) h))), (fun h => (d9 (mark_ne (by decide) h))), (fun h => (d10 (mark_ne (by decide) h))), (fun h => let ⟨q0, q1⟩ := (d11 (mark_ne (by decide) h)); ⟨mark_on q0, q1⟩), (fun h => let ⟨q0, q1⟩ := (d12 (mark_ne (by decide) h)); ⟨⟨mark_on q0.1, mark_on q0.2.1, mark_on q0.2.2⟩, q1⟩), (fun h => e0 (mark_off (by decide) h))⟩
                refine ordStep_cons (fun L aI wI hI hi hp K hK => ?_) ?_
                · obtain ⟨v11, v35, v36, v37, v38, v39, v40, v41, v42, v43, v44, v45, v46, rfl, hB, d0, d1, d2, d3, d4, d5, d6, d7, d8, d9, d10, d11, d12, e0⟩ := hI
                  have HK := Lib.hid hK
                  clear hK
                  have HP := Lib.hid hp
                  clear hp
                  go_simp
                  refine HK.out _ _ ?_
                  exact ⟨_, _, _, _, _, _, _, _, _, _, _, _, _, rfl, hB, (fun h => (d0 (mark_ne (by decide) h))), (fun h => (d1 (mark_ne (by decide) h))), (fun _ => rfl), (fun h => (d3 (mark_ne (by decide) h))), (fun h => fun h2 => (d4 (mark_ne (by decide) h)) (mark_off (by decide) h2)), (fun h => (d5 (mark_ne (by decide) h))), (fun h => fun h2 => (d6 (mark_ne (by decide) h)) (mark_off (by decide) h2)), (fun h => fun h2 => (d7 (mark_ne (by decide) h)) (mark_off (by decide) h2)), (fun h => (d8 (mark_ne (by decide) h))), (fun h => (d9 (mark_ne (by decide) h))), (fun h => (d10 (mark_ne (by decide) h))), (fun h => let ⟨q0, q1⟩ := (d11 (mark_ne (by decide) h)); ⟨mark_on q0, q1⟩), (fun h => let ⟨q0, q1⟩ := (d12 (mark_ne (by decide) h)); ⟨⟨mark_on q0.1, mark_on q0.2.1, mark_on q0.2.2⟩, q1⟩), (fun h => e0 (mark_off (by decide) h))⟩
                refine ordStep_cons (fun L aI wI hI hi hp K hK => ?_) ?_
                · obtain ⟨v11, v35, v36, v37, v38, v39, v40, v41, v42, v43, v44, v45, v46, rfl, hB, d0, d1, d2, d3, d4, d5, d6, d7, d8, d9, d10, d11, d12, e0⟩ := hI
                  have HK := Lib.hid hK
                  clear hK
                  have p1 := d1 (hp ⟨1, .data⟩ (by simp) rfl)
                  have p2 := d2 (hp ⟨2, .data⟩ (by simp) rfl)
                  have HP := Lib.hid hp
                  clear hp
                  subst p1
                  subst p2
                  go_simp
                  refine HK.out _ _ ?_
                  exact ⟨_, _, _, _, _, _, _, _, _, _, _, _, _, rfl, hB, (fun h => (d0 (mark_ne (by decide) h))), (fun h => (d1 (mark_ne (by decide) h))), (fun h => (d2 (mark_ne (by decide) h))), (fun _ => rfl), (fun h => fun h2 => (d4 (mark_ne (by decide) h)) (mark_off (by decide) h2)), (fun h => (d5 (mark_ne (by decide) h))), (fun h => fun h2 => (d6 (mark_ne (by decide) h)) (mark_off (by decide) h2)), (fun h => fun h2 => (d7 (mark_ne (by decide) h)) (mark_off (by decide) h2)), (fun h => (d8 (mark_ne (by decide) h))), (fun h => (d9 (mark_ne (by decide) h))), (fun h => (d10 (mark_ne (by decide) h))), (fun h => let ⟨q0, q1⟩ := (d11 (mark_ne (by decide) h)); ⟨mark_on q0, q1⟩), (fun h => let ⟨q0, q1⟩ := (d12 (mark_ne (by decide) h)); ⟨⟨mark_on q0.1, mark_on q0.2.1, mark_on q0.2.2⟩, q1⟩), (fun h => e0 (mark_off (by decide) h))⟩
                refine ordStep_cons (fun L aI wI hI hi hp K hK => ?_) ?_
                · obtain ⟨v11, v35, v36, v37, v38, v39, v40, v41, v42, v43, v44, v45, v46, rfl, hB, d0, d1, d2, d3, d4, d5, d6, d7, d8, d9, d10, d11, d12, e0⟩ := hI
                  have HK := Lib.hid hK
                  clear hK
                  have p0 := d0 (hp ⟨0, .data⟩ (by simp) rfl)
                  have p3 := d3 (hp ⟨3, .data⟩ (by simp) rfl)
                  have HP := Lib.hid hp
                  clear hp
                  subst p0
                  subst p3
                  rw [if_pos (by rfl)]
                  refine wp_append_lit w5.heap.size 63 i0 _ 1 24 Tryd.underlying37 hi0 hz0 hz1 hz2 rfl (by omega) (by omega) (.slice none 0 0) (0) ([]) (Own.nil_ _ _ _ _) wI.heap.size (some ⟨g, 0, none⟩) (n) (c) (((zs.map Prod.fst).take n)) ((HTK5.out.below hB).more hB.size) (HONET.out) (by simp only [maxLen]; omega) (by omega) hB.size (by simp [Act.eval]) (by simp [Act.eval]) ?_
                  intro v8 w8 ho8 hg8 hat8
                  refine HK.out _ _ ?_
                  exact ⟨_, _, _, _, _, _, _, _, _, _, _, _, _, rfl, hB.trans ((below_grown (Below.refl wI.heap.size wI) hg8 (fun g hg => by simp [Value.ownBlock] at hg) (Nat.le_refl _)).mono hB.size), (fun h => (d0 (mark_ne (by decide) h))), (fun h => (d1 (mark_ne (by decide) h))), (fun h => (d2 (mark_ne (by decide) h))), (fun h => (d3 (mark_ne (by decide) h))), (fun _ => fun _ => by simpa using ho8), (fun h => (d5 (mark_ne (by decide) h))), (fun h => fun h2 => let ⟨q, q1, q2⟩ := (d6 (mark_ne (by decide) h)) (mark_off (by decide) h2); ⟨q, q1, q2.below (below_grown (Below.refl wI.heap.size wI) hg8 (fun g hg => by simp [Value.ownBlock] at hg) (Nat.le_refl _)) q2.lt⟩), (fun h => fun h2 => ((d7 (mark_ne (by decide) h)) (mark_off (by decide) h2)).below (below_grown (Below.refl wI.heap.size wI) hg8 (fun g hg => by simp [Value.ownBlock] at hg) (Nat.le_refl _)) (Nat.le_refl _)), (fun h => (d8 (mark_ne (by decide) h))), (fun h => (d9 (mark_ne (by decide) h))), (fun h => (d10 (mark_ne (by decide) h))), (fun h => let ⟨q0, q1⟩ := (d11 (mark_ne (by decide) h)); ⟨mark_on q0, q1.below (below_grown (Below.refl wI.heap.size wI) hg8 (fun g hg => by simp [Value.ownBlock] at hg) (Nat.le_refl _)) (Nat.le_refl _)⟩), (fun h => let ⟨q0, q1⟩ := (d12 (mark_ne (by decide) h)); ⟨⟨mark_on q0.1, mark_on q0.2.1, mark_on q0.2.2⟩, q1.below (below_grown (Below.refl wI.heap.size wI) hg8 (fun g hg => by simp [Value.ownBlock] at hg) (Nat.le_refl _)) (Nat.le_refl _)⟩), (fun h => e0 (mark_off (by decide) h))⟩
                refine ordStep_cons (fun L aI wI hI hi hp K hK => ?_) ?_
                · obtain ⟨v11, v35, v36, v37, v38, v39, v40, v41, v42, v43, v44, v45, v46, rfl, hB, d0, d1, d2, d3, d4, d5, d6, d7, d8, d9, d10, d11, d12, e0⟩ := hI
                  have HK := Lib.hid hK
                  clear hK
                  have HP := Lib.hid hp
                  clear hp
                  go_simp
                  refine HK.out _ _ ?_
                  exact ⟨_, _, _, _, _, _, _, _, _, _, _, _, _, rfl, hB, (fun h => (d0 (mark_ne (by decide) h))), (fun h => (d1 (mark_ne (by decide) h))), (fun h => (d2 (mark_ne (by decide) h))), (fun h => (d3 (mark_ne (by decide) h))), (fun h => fun h2 => (d4 (mark_ne (by decide) h)) (mark_off (by decide) h2)), (fun _ => rfl), (fun h => fun h2 => (d6 (mark_ne (by decide) h)) (mark_off (by decide) h2)), (fun h => fun h2 => (d7 (mark_ne (by decide) h)) (mark_off (by decide) h2)), (fun h => (d8 (mark_ne (by decide) h))), (fun h => (d9 (mark_ne (by decide) h))), (fun h => (d10 (mark_ne (by decide) h))), (fun h => let ⟨q0, q1⟩ := (d11 (mark_ne (by decide) h)); ⟨mark_on q0, q1⟩), (fun h => let ⟨q0, q1⟩ := (d12 (mark_ne (by decide) h)); ⟨⟨mark_on q0.1, mark_on q0.2.1, mark_on q0.2.2⟩, q1⟩), (fun h => e0 (mark_off (by decide) h))⟩
                refine ordStep_cons (fun L aI wI hI hi hp K hK => ?_) ?_
                · obtain ⟨v11, v35, v36, v37, v38, v39, v40, v41, v42, v43, v44, v45, v46, rfl, hB, d0, d1, d2, d3, d4, d5, d6, d7, d8, d9, d10, d11, d12, e0⟩ := hI
                  have HK := Lib.hid hK
                  clear hK
                  have p5 := d5 (hp ⟨5, .data⟩ (by simp) rfl)
                  have HP := Lib.hid hp
                  clear hp
                  subst p5
                  go_simp
                  refine HK.out _ _ ?_
                  exact ⟨_, _, _, _, _, _, _, _, _, _, _, _, _, rfl, hB.alloc hB.size _, (fun h => (d0 (mark_ne (by decide) h))), (fun h => (d1 (mark_ne (by decide) h))), (fun h => (d2 (mark_ne (by decide) h))), (fun h => (d3 (mark_ne (by decide) h))), (fun h => fun h2 => ((d4 (mark_ne (by decide) h)) (mark_off (by decide) h2)).below ((Below.refl wI.heap.size wI).alloc (Nat.le_refl _) _) (Nat.le_refl _)), (fun h => (d5 (mark_ne (by decide) h))), (fun _ => fun _ => ⟨_, rfl, Box.new _ _ _⟩), (fun h => fun h2 => ((d7 (mark_ne (by decide) h)) (mark_off (by decide) h2)).below ((Below.refl wI.heap.size wI).alloc (Nat.le_refl _) _) (Nat.le_refl _)), (fun h => (d8 (mark_ne (by decide) h))), (fun h => (d9 (mark_ne (by decide) h))), (fun h => (d10 (mark_ne (by decide) h))), (fun h => let ⟨q0, q1⟩ := (d11 (mark_ne (by decide) h)); ⟨mark_on q0, q1.below ((Below.refl wI.heap.size wI).alloc (Nat.le_refl _) _) (Nat.le_refl _)⟩), (fun h => let ⟨q0, q1⟩ := (d12 (mark_ne (by decide) h)); ⟨⟨mark_on q0.1, mark_on q0.2.1, mark_on q0.2.2⟩, q1.below ((Below.refl wI.heap.size wI).alloc (Nat.le_refl _) _) (Nat.le_refl _)⟩), (fun h => e0 (mark_off (by decide) h))⟩
                refine ordStep_cons (fun L aI wI hI hi hp K hK => ?_) ?_
                · obtain ⟨v11, v35, v36, v37, v38, v39, v40, v41, v42, v43, v44, v45, v46, rfl, hB, d0, d1, d2, d3, d4, d5, d6, d7, d8, d9, d10, d11, d12, e0⟩ := hI
                  have HK := Lib.hid hK
                  clear hK
                  have p4 := d4 (hp ⟨4, .data⟩ (by simp) rfl)
                  have p6 := d6 (hp ⟨6, .data⟩ (by simp) rfl)
                  have HP := Lib.hid hp
                  clear hp
                  have ow := p4 hi
                  obtain ⟨g2, rfl, hb2⟩ := p6 hi
                  obtain ⟨oA, oc, rfl, -⟩ := id ow.form
                  rw [if_pos (by rfl)]
                  refine wp_append_lit w5.heap.size 63 i0 _ 1 24 Tryd.underlying37 hi0 hz0 hz1 hz2 rfl (by omega) (by omega) (.slice oA n oc) (n) (((zs.map Prod.fst).take n)) (ow) wI.heap.size (some ⟨g2, 0, none⟩) (1) (1) ([.slice xA x.length xc]) (hb2.sl 1 1 rfl (by omega)) (fun u hu => by rw [List.mem_singleton.1 hu]; rfl) (by simp only [maxLen]; omega) (by omega) hB.size (by simp [Act.eval]) (by simp [Act.eval]) ?_
                  intro v8 w8 ho8 hg8 hat8
                  refine HK.out _ _ ?_
                  exact ⟨_, _, _, _, _, _, _, _, _, _, _, _, _, rfl, below_grown hB hg8 (fun g hg => (ow.lt g hg).1) hB.size, (fun h => (d0 (mark_ne (by decide) h))), (fun h => (d1 (mark_ne (by decide) h))), (fun h => (d2 (mark_ne (by decide) h))), (fun h => (d3 (mark_ne (by decide) h))), (fun h => fun h2 => mark_self h2), (fun h => (d5 (mark_ne (by decide) h))), (fun h => fun h2 => mark_self h2), (fun _ => fun _ => ho8), (fun h => (d8 (mark_ne (by decide) h))), (fun h => (d9 (mark_ne (by decide) h))), (fun h => (d10 (mark_ne (by decide) h))), (fun h => absurd ((d11 (mark_ne (by decide) h))).1 (by rw [hi]; decide)), (fun h => absurd ((d12 (mark_ne (by decide) h))).1.2.1 (by rw [hi]; decide)), (fun h => e0 (mark_off (by decide) h))⟩
                refine ordStep_cons (fun L aI wI hI hi hp K hK => ?_) ?_
                · obtain ⟨v11, v35, v36, v37, v38, v39, v40, v41, v42, v43, v44, v45, v46, rfl, hB, d0, d1, d2, d3, d4, d5, d6, d7, d8, d9, d10, d11, d12, e0⟩ := hI
                  have HK := Lib.hid hK
                  clear hK
                  have HP := Lib.hid hp
                  clear hp
                  go_simp
                  refine HK.out _ _ ?_
                  exact ⟨_, _, _, _, _, _, _, _, _, _, _, _, _, rfl, hB, (fun h => (d0 (mark_ne (by decide) h))), (fun h => (d1 (mark_ne (by decide) h))), (fun h => (d2 (mark_ne (by decide) h))), (fun h => (d3 (mark_ne (by decide) h))), (fun h => fun h2 => (d4 (mark_ne (by decide) h)) (mark_off (by decide) h2)), (fun h => (d5 (mark_ne (by decide) h))), (fun h => fun h2 => (d6 (mark_ne (by decide) h)) (mark_off (by decide) h2)), (fun h => fun h2 => (d7 (mark_ne (by decide) h)) (mark_off (by decide) h2)), (fun _ => rfl), (fun h => (d9 (mark_ne (by decide) h))), (fun h => (d10 (mark_ne (by decide) h))), (fun h => let ⟨q0, q1⟩ := (d11 (mark_ne (by decide) h)); ⟨mark_on q0, q1⟩), (fun h => let ⟨q0, q1⟩ := (d12 (mark_ne (by decide) h)); ⟨⟨mark_on q0.1, mark_on q0.2.1, mark_on q0.2.2⟩, q1⟩), (fun h => e0 (mark_off (by decide) h))⟩
                refine ordStep_cons (fun L aI wI hI hi hp K hK => ?_) ?_
                · obtain ⟨v11, v35, v36, v37, v38, v39, v40, v41, v42, v43, v44, v45, v46, rfl, hB, d0, d1, d2, d3, d4, d5, d6, d7, d8, d9, d10, d11, d12, e0⟩ := hI
                  have HK := Lib.hid hK
                  clear hK
                  have HP := Lib.hid hp
                  clear hp
                  go_simp
                  refine HK.out _ _ ?_
                  exact ⟨_, _, _, _, _, _, _, _, _, _, _, _, _, rfl, hB, (fun h => (d0 (mark_ne (by decide) h))), (fun h => (d1 (mark_ne (by decide) h))), (fun h => (d2 (mark_ne (by decide) h))), (fun h => (d3 (mark_ne (by decide) h))), (fun h => fun h2 => (d4 (mark_ne (by decide) h)) (mark_off (by decide) h2)), (fun h => (d5 (mark_ne (by decide) h))), (fun h => fun h2 => (d6 (mark_ne (by decide) h)) (mark_off (by decide) h2)), (fun h => fun h2 => (d7 (mark_ne (by decide) h)) (mark_off (by decide) h2)), (fun h => (d8 (mark_ne (by decide) h))), (fun _ => rfl), (fun h => (d10 (mark_ne (by decide) h))), (fun h => let ⟨q0, q1⟩ := (d11 (mark_ne (by decide) h)); ⟨mark_on q0, q1⟩), (fun h => let ⟨q0, q1⟩ := (d12 (mark_ne (by decide) h)); ⟨⟨mark_on q0.1, mark_on q0.2.1, mark_on q0.2.2⟩, q1⟩), (fun h => e0 (mark_off (by decide) h))⟩
                refine ordStep_cons (fun L aI wI hI hi hp K hK => ?_) ?_
                · obtain ⟨v11, v35, v36, v37, v38, v39, v40, v41, v42, v43, v44, v45, v46, rfl, hB, d0, d1, d2, d3, d4, d5, d6, d7, d8, d9, d10, d11, d12, e0⟩ := hI
                  have HK := Lib.hid hK
                  clear hK
                  have p8 := d8 (hp ⟨8, .data⟩ (by simp) rfl)
                  have p9 := d9 (hp ⟨9, .data⟩ (by simp) rfl)
                  have HP := Lib.hid hp
                  clear hp
                  subst p8
                  subst p9
                  go_simp
                  refine HK.out _ _ ?_
                  exact ⟨_, _, _, _, _, _, _, _, _, _, _, _, _, rfl, hB, (fun h => (d0 (mark_ne (by decide) h))), (fun h => (d1 (mark_ne (by decide) h))), (fun h => (d2 (mark_ne (by decide) h))), (fun h => (d3 (mark_ne (by decide) h))), (fun h => fun h2 => (d4 (mark_ne (by decide) h)) (mark_off (by decide) h2)), (fun h => (d5 (mark_ne (by decide) h))), (fun h => fun h2 => (d6 (mark_ne (by decide) h)) (mark_off (by decide) h2)), (fun h => fun h2 => (d7 (mark_ne (by decide) h)) (mark_off (by decide) h2)), (fun h => (d8 (mark_ne (by decide) h))), (fun h => (d9 (mark_ne (by decide) h))), (fun _ => rfl), (fun h => let ⟨q0, q1⟩ := (d11 (mark_ne (by decide) h)); ⟨mark_on q0, q1⟩), (fun h => let ⟨q0, q1⟩ := (d12 (mark_ne (by decide) h)); ⟨⟨mark_on q0.1, mark_on q0.2.1, mark_on q0.2.2⟩, q1⟩), (fun h => e0 (mark_off (by decide) h))⟩
                refine ordStep_cons (fun L aI wI hI hi hp K hK => ?_) ?_
                · obtain ⟨v11, v35, v36, v37, v38, v39, v40, v41, v42, v43, v44, v45, v46, rfl, hB, d0, d1, d2, d3, d4, d5, d6, d7, d8, d9, d10, d11, d12, e0⟩ := hI
                  have HK := Lib.hid hK
                  clear hK
                  have p7 := d7 (hp ⟨7, .data⟩ (by simp) rfl)
                  have p10 := d10 (hp ⟨10, .data⟩ (by simp) rfl)
                  have q7 := hp ⟨7, .data⟩ (by simp) rfl
                  have Q7 := Lib.hid q7
                  clear q7
                  have HP := Lib.hid hp
                  clear hp
                  have ow := p7 hi
                  subst p10
                  obtain ⟨oA, oc, rfl, -⟩ := id ow.form
                  rw [if_pos (by rfl)]
                  refine wp_append_lit w5.heap.size 63 i0 _ 1 24 Tryd.underlying37 hi0 hz0 hz1 hz2 rfl (by omega) (by omega) (.slice oA (n + 1) oc) (n + 1) (((zs.map Prod.fst).take n) ++ [.slice xA x.length xc]) (ow) wI.heap.size ((if c = n then some ⟨g, 0, none⟩ else some ⟨g, n, none⟩)) (zs.length - n) (c - n) (((zs.map Prod.fst).drop n)) ((HDR5.out.below hB).more hB.size) (HONED.out) (by simp only [maxLen]; omega) (by omega) hB.size (by simp [Act.eval]) (by simp [Act.eval]) ?_
                  intro v8 w8 ho8 hg8 hat8
                  refine HK.out _ _ ?_
                  exact ⟨_, _, _, _, _, _, _, _, _, _, _, _, _, rfl, below_grown hB hg8 (fun g hg => (ow.lt g hg).1) hB.size, (fun h => (d0 (mark_ne (by decide) h))), (fun h => (d1 (mark_ne (by decide) h))), (fun h => (d2 (mark_ne (by decide) h))), (fun h => (d3 (mark_ne (by decide) h))), (fun h => fun h2 => absurd (mark_off (by decide) h2) (by rw [Q7.out]; decide)), (fun h => (d5 (mark_ne (by decide) h))), (fun h => fun h2 => absurd (mark_off (by decide) h2) (by rw [Q7.out]; decide)), (fun h => fun h2 => mark_self h2), (fun h => (d8 (mark_ne (by decide) h))), (fun h => (d9 (mark_ne (by decide) h))), (fun h => (d10 (mark_ne (by decide) h))), (fun _ => ⟨mark_on Q7.out, ho8⟩), (fun h => absurd ((d12 (mark_ne (by decide) h))).1.2.2 (by rw [hi]; decide)), (fun h => e0 (mark_off (by decide) h))⟩
                refine ordStep_cons (fun L aI wI hI hi hp K hK => ?_) ?_
                · obtain ⟨v11, v35, v36, v37, v38, v39, v40, v41, v42, v43, v44, v45, v46, rfl, hB, d0, d1, d2, d3, d4, d5, d6, d7, d8, d9, d10, d11, d12, e0⟩ := hI
                  have HK := Lib.hid hK
                  clear hK
                  have p11 := d11 (hp ⟨11, .data⟩ (by simp) rfl)
                  have q0 := hp ⟨0, .phase⟩ (by simp) rfl
                  have q7 := hp ⟨7, .phase⟩ (by simp) rfl
                  have q11 := hp ⟨11, .data⟩ (by simp) rfl
                  have Q := Lib.hid (And.intro q0 (And.intro q7 q11))
                  clear q0 q7 q11
                  have HP := Lib.hid hp
                  clear hp
                  obtain ⟨oA, oc, rfl, -⟩ := id p11.2.form
                  go_simp
                  refine HK.out _ _ ?_
                  exact ⟨_, _, _, _, _, _, _, _, _, _, _, _, _, rfl, hB, (fun h => (d0 (mark_ne (by decide) h))), (fun h => (d1 (mark_ne (by decide) h))), (fun h => (d2 (mark_ne (by decide) h))), (fun h => (d3 (mark_ne (by decide) h))), (fun h => fun h2 => (d4 (mark_ne (by decide) h)) (mark_off (by decide) h2)), (fun h => (d5 (mark_ne (by decide) h))), (fun h => fun h2 => (d6 (mark_ne (by decide) h)) (mark_off (by decide) h2)), (fun h => fun h2 => (d7 (mark_ne (by decide) h)) (mark_off (by decide) h2)), (fun h => (d8 (mark_ne (by decide) h))), (fun h => (d9 (mark_ne (by decide) h))), (fun h => (d10 (mark_ne (by decide) h))), (fun h => let ⟨q0, q1⟩ := (d11 (mark_ne (by decide) h)); ⟨mark_on q0, q1⟩), (fun _ => ⟨⟨mark_on Q.out.1, mark_on Q.out.2.1, mark_on Q.out.2.2⟩, p11.2⟩), (fun h => mark_self h)⟩
                exact ordStep_nil
              · intro L aI wI hL hI
                obtain ⟨v11, v35, v36, v37, v38, v39, v40, v41, v42, v43, v44, v45, v46, rfl, hB, d0, d1, d2, d3, d4, d5, d6, d7, d8, d9, d10, d11, d12, e0⟩ := hI
                have hO9 := (d12 (hL 12 (by decide))).2
                clear d0 d1 d2 d3 d4 d5 d6 d7 d8 d9 d10 d11 d12 e0 hL L
                obtain ⟨w9, hw9⟩ : ∃ w9, w9 = wI := ⟨_, rfl⟩
                subst hw9
                have hB9 := hB5.trans (hB.mono hB5.size)
                have bw9 := HB1.out.trans (hB9.mono HB1.out.size)
                have bw5 := HB1.out.trans (hB5.mono HB1.out.size)
                have hO10 := hO9.mono bw5.size
                have hlen : (zs.take n ++ (.slice xA x.length xc, x) :: zs.drop n).length = n + 1 + (zs.length - n) := by simp; omega
                have hfst : (zs.take n ++ (.slice xA x.length xc, x) :: zs.drop n).map Prod.fst = ((zs.map Prod.fst).take n) ++ [.slice xA x.length xc] ++ ((zs.map Prod.fst).drop n) := by simp
                have hsnd : (zs.take n ++ (.slice xA x.length xc, x) :: zs.drop n).map Prod.snd = sortF (cmpK l ks) (rows.take (k + 1)) := by rw [S1.out, HFIN.out]; simp
                rw [← hlen, ← hfst] at hO10
                have hmem : ∀ z ∈ zs.take n ++ (.slice xA x.length xc, x) :: zs.drop n, RdRV w w.heap.size z.1 z.2 ∧ z.2.length = l.length := fun z hz => by
                  rcases List.mem_append.1 hz with hz | hz
                  · exact HZ.out z (List.mem_of_mem_take hz)
                  · rcases List.mem_cons.1 hz with rfl | hz
                    · exact ⟨hrw0, HXL.out⟩
                    · exact HZ.out z (List.mem_of_mem_drop hz)
                have HO10 := Lib.hid hO10; have HSND := Lib.hid hsnd; have HMEM := Lib.hid hmem; have HLEN := Lib.hid hlen
                clear hO9 hO10 hsnd hmem hlen hfst hB
                go_wp2
                exact ⟨⟨k + 1, zs.take n ++ (.slice xA x.length xc, x) :: zs.drop n, by omega, by go_num, HSND.out, by rw [HLEN.out]; have := HZL.out; omega, HO10.out, HMEM.out, bw9⟩, by simp [intOf]; omega⟩
          · have hnn : ¬ (n : Int) < zs.length := by omega
            have dn : decide ((n : Int) < zs.length) = false := decide_eq_false hnn
            have hfin := HINS.out
            rw [List.drop_of_length_le (by rw [List.length_map]; omega), insL] at hfin
            have HFIN := Lib.hid (show insL (cmpK l ks) x (zs.map Prod.snd) = (zs.map Prod.snd).take n ++ x :: (zs.map Prod.snd).drop n by rw [hfin, List.drop_of_length_le (by rw [List.length_map]; omega)])
            have hB5 := hBn
            obtain ⟨w5, rfl⟩ : ∃ w5 : World, w5 = wr := ⟨_, rfl⟩
            clear hfin
            go_wp2
            have hO5 := HO.out.below hB5 (Nat.le_refl _)
            have HTK5 := Lib.hid (own_take hO5 (n := n) (by omega)); have HDR5 := Lib.hid (own_drop hO5 (n := n) (by omega))
            have HONET := Lib.hid (fun (u : Value) (hu : u ∈ (zs.map Prod.fst).take n) => HONE.out u (List.mem_of_mem_take hu))
            have HONED := Lib.hid (fun (u : Value) (hu : u ∈ (zs.map Prod.fst).drop n) => HONE.out u (List.mem_of_mem_drop hu))
            have hcap := hO5.sl.cap
            have in1 : (n : Int) ≤ c := by omega
            have in2 : (0 : Int) ≤ (n : Int) := by omega
            have in3 : (n : Int) ≤ zs.length := by omega
            have in4 : ¬ ((n : Int) < 0) := by omega
            clear hO5
            refine wp_region_ord (fun L aI wI => ∃ v11 v35 v36 v37 v38 v39 v40 v41 v42 v43 v44 v45 v46 : Value, aI = ⟨List.toArray ((.slice A1 ks.length c1) :: (.slice A2 l.length c2) :: (.slice (some p) rows.length c3) :: undef :: undef :: undef :: (.slice none 0 0) :: (.slice (some ⟨g, 0, none⟩) zs.length c) :: undef :: (.slice xA x.length xc) :: (.int .i64 n) :: v11 :: (.slice (some p) rows.length c3) :: (.int .i64 rows.length) :: (.int .i64 k) :: (.bool true) :: (.pointer (some (p.add k))) :: (.slice xA x.length xc) :: (.int .i64 n) :: (.slice (some ⟨g, 0, none⟩) zs.length c) :: (.int .i64 zs.length) :: (.bool false) :: (.bool false) :: undef :: undef :: undef :: undef :: undef :: undef :: undef :: undef :: undef :: (.bool false) :: u33 :: u34 :: v35 :: v36 :: v37 :: v38 :: v39 :: v40 :: v41 :: v42 :: v43 :: v44 :: v45 :: v46 :: u47 :: u48 :: undef :: []), []⟩ ∧ (Below w5.heap.size w5 wI) ∧ (L 0 = true → v35 = .slice none 0 0) ∧ (L 1 = true → v36 = .slice (some ⟨g, 0, none⟩) zs.length c) ∧ (L 2 = true → v37 = .int .i64 n) ∧ (L 3 = true → v38 = .slice (some ⟨g, 0, none⟩) n c) ∧ (L 4 = true → L 7 = false → Own wI w5.heap.size 63 1 v39 n ((zs.map Prod.fst).take n)) ∧ (L 5 = true → v40 = .slice xA x.length xc) ∧ (L 6 = true → L 7 = false → ∃ g2, v41 = .slice (some ⟨g2, 0, none⟩) 1 1 ∧ Box wI g2 63 #[.slice xA x.length xc]) ∧ (L 7 = true → L 11 = false → Own wI w5.heap.size 63 1 v42 (n + 1) (((zs.map Prod.fst).take n) ++ [.slice xA x.length xc])) ∧ (L 8 = true → v43 = .slice (some ⟨g, 0, none⟩) zs.length c) ∧ (L 9 = true → v44 = .int .i64 n) ∧ (L 10 = true → v45 = .slice (if c = n then some ⟨g, 0, none⟩ else some ⟨g, n, none⟩) (zs.length - n) (c - n)) ∧ (L 11 = true → (L 7 = true) ∧ Own wI w5.heap.size 63 1 v46 (n + 1 + (zs.length - n)) (((zs.map Prod.fst).take n) ++ [.slice xA x.length xc] ++ ((zs.map Prod.fst).drop n))) ∧ (L 12 = true → (L 0 = true ∧ L 7 = true ∧ L 11 = true) ∧ Own wI w5.heap.size 63 1 v11 (n + 1 + (zs.length - n)) (((zs.map Prod.fst).take n) ++ [.slice xA x.length xc] ++ ((zs.map Prod.fst).drop n))) ∧ (L 12 = false → v11 = .slice none 0 0)) (by kernel_rfl) (by kernel_rfl) ⟨_, _, _, _, _, _, _, _, _, _, _, _, _, rfl, (Below.refl _ _).drew, (fun h => absurd h Bool.false_ne_true), (fun h => absurd h Bool.false_ne_true), (fun h => absurd h Bool.false_ne_true), (fun h => absurd h Bool.false_ne_true), (fun h => absurd h Bool.false_ne_true), (fun h => absurd h Bool.false_ne_true), (fun h => absurd h Bool.false_ne_true), (fun h => absurd h Bool.false_ne_true), (fun h => absurd h Bool.false_ne_true), (fun h => absurd h Bool.false_ne_true), (fun h => absurd h Bool.false_ne_true), (fun h => absurd h Bool.false_ne_true), (fun h => absurd h Bool.false_ne_true), (fun _ => rfl)⟩ (fun L L' aI w h hI => by have e : L = L' := funext h; subst e; exact hI) ?_ ?_
            · refine ordStep_cons (fun L aI wI hI hi hp K hK => ?_) ?_
              · obtain ⟨v11, v35, v36, v37, v38, v39, v40, v41, v42, v43, v44, v45, v46, rfl, hB, d0, d1, d2, d3, d4, d5, d6, d7, d8, d9, d10, d11, d12, e0⟩ := hI
                have HK := Lib.hid hK
                clear hK
                have HP := Lib.hid hp
                clear hp
                have h12 : L 12 = false := by
                  cases h : L 12 with
                  | false => rfl
                  | true => exact absurd (d12 h).1.1 (by rw [hi]; decide)
                have q0 := e0 h12
                subst q0
                go_simp
                refine HK.out _ _ ?_
                exact ⟨_, _, _, _, _, _, _, _, _, _, _, _, _, rfl, hB, (fun _ => rfl), (fun h => (d1 (mark_ne (by decide) h))), (fun h => (d2 (mark_ne (by decide) h))), (fun h => (d3 (mark_ne (by decide) h))), (fun h => fun h2 => (d4 (mark_ne (by decide) h)) (mark_off (by decide) h2)), (fun h => (d5 (mark_ne (by decide) h))), (fun h => fun h2 => (d6 (mark_ne (by decide) h)) (mark_off (by decide) h2)), (fun h => fun h2 => (d7 (mark_ne (by decide) h)) (mark_off (by decide) h2)), (fun h => (d8 (mark_ne (by decide) h))), (fun h => (d9 (mark_ne (by decide) h))), (fun h => (d10 (mark_ne (by decide) h))), (fun h => let ⟨q0, q1⟩ := (d11 (mark_ne (by decide) h)); ⟨mark_on q0, q1⟩), (fun h => absurd ((d12 (mark_ne (by decide) h))).1.1 (by rw [hi]; decide)), (fun h => e0 (mark_off (by decide) h))⟩
              refine ordStep_cons (fun L aI wI hI hi hp K hK => ?_) ?_
              · obtain ⟨v11, v35, v36, v37, v38, v39, v40, v41, v42, v43, v44, v45, v46, rfl, hB, d0, d1, d2, d3, d4, d5, d6, d7, d8, d9, d10, d11, d12, e0⟩ := hI
                have HK := Lib.hid hK
                clear hK
                have HP := Lib.hid hp
                clear hp
                go_simp
                refine HK.out _ _ ?_
                exact ⟨_, _, _, _, _, _, _, _, _, _, _, _, _, rfl, hB, (fun h => (d0 (mark_ne (by decide) h))), (fun _ => rfl), (fun h => (d2 (mark_ne (by decide) h))), (fun h => (d3 (mark_ne (by decide) h))), (fun h => fun h2 => (d4 (mark_ne (by decide) h)) (mark_off (by decide) h2)), (fun h => (d5 (mark_ne (by decide) h))), (fun h => fun h2 => (d6 (mark_ne (by decide) h)) (mark_off (by decide) h2)), (fun h => fun h2 => (d7 (mark_ne (by decide) h)) (mark_off (by decide) h2)), (fun h => (d8 (mark_ne (by decide) h))), (fun h => (d9 (mark_ne (by decide) h))), (fun h => (d10 (mark_ne (by decide) h))), (fun h => let ⟨q0, q1⟩ := (d11 (mark_ne (by decide) h)); ⟨mark_on q0, q1⟩), (fun h => let ⟨q0, q1⟩ := (d12 (mark_ne (by decide) h)); ⟨⟨mark_on q0.1, mark_on q0.2.1, mark_on q0.2.2⟩, q1⟩), (fun h => e0 (mark_off (by decide) h))⟩
              refine ordStep_cons (fun L aI wI hI hi hp K hK => ?_) ?_
              · obtain ⟨v11, v35, v36, v37, v38, v39, v40, v41, v42, v43, v44, v45, v46, rfl, hB, d0, d1, d2, d3, d4, d5, d6, d7, d8, d9, d10, d11, d12, e0⟩ := hI
                have HK := Lib.hid hK
                clear hK
                have HP := Lib.hid hp
                clear hp
                go_simp
                refine HK.out _ _ ?_
                exact ⟨_, _, _, _, _, _, _, _, _, _, _, _, _, rfl, hB, (fun h => (d0 (mark_ne (by decide) h))), (fun h => (d1 (mark_ne (by decide) h))), (fun _ => rfl), (fun h => (d3 (mark_ne (by decide) h))), (fun h => fun h2 => (d4 (mark_ne (by decide) h)) (mark_off (by decide) h2)), (fun h => (d5 (mark_ne (by decide) h))), (fun h => fun h2 => (d6 (mark_ne (by decide) h)) (mark_off (by decide) h2)), (fun h => fun h2 => (d7 (mark_ne (by decide) h)) (mark_off (by decide) h2)), (fun h => (d8 (mark_ne (by decide) h))), (fun h => (d9 (mark_ne (by decide) h))), (fun h => (d10 (mark_ne (by decide) h))), (fun h => let ⟨q0, q1⟩ := (d11 (mark_ne (by decide) h)); ⟨mark_on q0, q1⟩), (fun h => let ⟨q0, q1⟩ := (d12 (mark_ne (by decide) h)); ⟨⟨mark_on q0.1, mark_on q0.2.1, mark_on q0.2.2⟩, q1⟩), (fun h => e0 (mark_off (by decide) h))⟩
              refine ordStep_cons (fun L aI wI hI hi hp K hK => ?_) ?_
              · obtain ⟨v11, v35, v36, v37, v38, v39, v40, v41, v42, v43, v44, v45, v46, rfl, hB, d0, d1, d2, d3, d4, d5, d6, d7, d8, d9, d10, d11, d12, e0⟩ := hI
                have HK := Lib.hid hK
                clear hK
                have p1 := d1 (hp ⟨1, .data⟩ (by simp) rfl)
                have p2 := d2 (hp ⟨2, .data⟩ (by simp) rfl)
                have HP := Lib.hid hp
                clear hp
                subst p1
                subst p2
                go_simp
                refine HK.out _ _ ?_
                exact ⟨_, _, _, _, _, _, _, _, _, _, _, _, _, rfl, hB, (fun h => (d0 (mark_ne (by decide) h))), (fun h => (d1 (mark_ne (by decide) h))), (fun h => (d2 (mark_ne (by decide) h))), (fun _ => rfl), (fun h => fun h2 => (d4 (mark_ne (by decide) h)) (mark_off (by decide) h2)), (fun h => (d5 (mark_ne (by decide) h))), (fun h => fun h2 => (d6 (mark_ne (by decide) h)) (mark_off (by decide) h2)), (fun h => fun h2 => (d7 (mark_ne (by decide) h)) (mark_off (by decide) h2)), (fun h => (d8 (mark_ne (by decide) h))), (fun h => (d9 (mark_ne (by decide) h))), (fun h => (d10 (mark_ne (by decide) h))), (fun h => let ⟨q0, q1⟩ := (d11 (mark_ne (by decide) h)); ⟨mark_on q0, q1⟩), (fun h => let ⟨q0, q1⟩ := (d12 (mark_ne (by decide) h)); ⟨⟨mark_on q0.1, mark_on q0.2.1, mark_on q0.2.2⟩, q1⟩), (fun h => e0 (mark_off (by decide) h))⟩
              refine ordStep_cons (fun L aI wI hI hi hp K hK => ?_) ?_
              · obtain ⟨v11, v35, v36, v37, v38, v39, v40, v41, v42, v43, v44, v45, v46, rfl, hB, d0, d1, d2, d3, d4, d5, d6, d7, d8, d9, d10, d11, d12, e0⟩ := hI
                have HK := Lib.hid hK
                clear hK
                have p0 := d0 (hp ⟨0, .data⟩ (by simp) rfl)
                have p3 := d3 (hp ⟨3, .data⟩ (by simp) rfl)
                have HP := Lib.hid hp
                clear hp
                subst p0
                subst p3
                rw [if_pos (by rfl)]
                refine wp_append_lit w5.heap.size 63 i0 _ 1 24 Tryd.underlying37 hi0 hz0 hz1 hz2 rfl (by omega) (by omega) (.slice none 0 0) (0) ([]) (Own.nil_ _ _ _ _) wI.heap.size (some ⟨g, 0, none⟩) (n) (c) (((zs.map Prod.fst).take n)) ((HTK5.out.below hB).more hB.size) (HONET.out) (by simp only [maxLen]; omega) (by omega) hB.size (by simp [Act.eval]) (by simp [Act.eval]) ?_
                intro v8 w8 ho8 hg8 hat8
                refine HK.out _ _ ?_
                exact ⟨_, _, _, _, _, _, _, _, _, _, _, _, _, rfl, hB.trans ((below_grown (Below.refl wI.heap.size wI) hg8 (fun g hg => by simp [Value.ownBlock] at hg) (Nat.le_refl _)).mono hB.size), (fun h => (d0 (mark_ne (by decide) h))), (fun h => (d1 (mark_ne (by decide) h))), (fun h => (d2 (mark_ne (by decide) h))), (fun h => (d3 (mark_ne (by decide) h))), (fun _ => fun _ => by simpa using ho8), (fun h => (d5 (mark_ne (by decide) h))), (fun h => fun h2 => let ⟨q, q1, q2⟩ := (d6 (mark_ne (by decide) h)) (mark_off (by decide) h2); ⟨q, q1, q2.below (below_grown (Below.refl wI.heap.size wI) hg8 (fun g hg => by simp [Value.ownBlock] at hg) (Nat.le_refl _)) q2.lt⟩), (fun h => fun h2 => ((d7 (mark_ne (by decide) h)) (mark_off (by decide) h2)).below (below_grown (Below.refl wI.heap.size wI) hg8 (fun g hg => by simp [Value.ownBlock] at hg) (Nat.le_refl _)) (Nat.le_refl _)), (fun h => (d8 (mark_ne (by decide) h))), (fun h => (d9 (mark_ne (by decide) h))), (fun h => (d10 (mark_ne (by decide) h))), (fun h => let ⟨q0, q1⟩ := (d11 (mark_ne (by decide) h)); ⟨mark_on q0, q1.below (below_grown (Below.refl wI.heap.size wI) hg8 (fun g hg => by simp [Value.ownBlock] at hg) (Nat.le_refl _)) (Nat.le_refl _)⟩), (fun h => let ⟨q0, q1⟩ := (d12 (mark_ne (by decide) h)); ⟨⟨mark_on q0.1, mark_on q0.2.1, mark_on q0.2.2⟩, q1.below (below_grown (Below.refl wI.heap.size wI) hg8 (fun g hg => by simp [Value.ownBlock] at hg) (Nat.le_refl _)) (Nat.le_refl _)⟩), (fun h => e0 (mark_off (by decide) h))⟩
              refine ordStep_cons (fun L aI wI hI hi hp K hK => ?_) ?_
              · obtain ⟨v11, v35, v36, v37, v38, v39, v40, v41, v42, v43, v44, v45, v46, rfl, hB, d0, d1, d2, d3, d4, d5, d6, d7, d8, d9, d10, d11, d12, e0⟩ := hI
                have HK := Lib.hid hK
                clear hK
                have HP := Lib.hid hp
                clear hp
                go_simp
                refine HK.out _ _ ?_
                exact ⟨_, _, _, _, _, _, _, _, _, _, _, _, _, rfl, hB, (fun h => (d0 (mark_ne (by decide) h))), (fun h => (d1 (mark_ne (by decide) h))), (fun h => (d2 (mark_ne (by decide) h))), (fun h => (d3 (mark_ne (by decide) h))), (fun h => fun h2 => (d4 (mark_ne (by decide) h)) (mark_off (by decide) h2)), (fun _ => rfl), (fun h => fun h2 => (d6 (mark_ne (by decide) h)) (mark_off (by decide) h2)), (fun h => fun h2 => (d7 (mark_ne (by decide) h)) (mark_off (by decide) h2)), (fun h => (d8 (mark_ne (by decide) h))), (fun h => (d9 (mark_ne (by decide) h))), (fun h => (d10 (mark_ne (by decide) h))), (fun h => let ⟨q0, q1⟩ := (d11 (mark_ne (by decide) h)); ⟨mark_on q0, q1⟩), (fun h => let ⟨q0, q1⟩ := (d12 (mark_ne (by decide) h)); ⟨⟨mark_on q0.1, mark_on q0.2.1, mark_on q0.2.2⟩, q1⟩), (fun h => e0 (mark_off (by decide) h))⟩
              refine ordStep_cons (fun L aI wI hI hi hp K hK => ?_) ?_
              · obtain ⟨v11, v35, v36, v37, v38, v39, v40, v41, v42, v43, v44, v45, v46, rfl, hB, d0, d1, d2, d3, d4, d5, d6, d7, d8, d9, d10, d11, d12, e0⟩ := hI
                have HK := Lib.hid hK
                clear hK
                have p5 := d5 (hp ⟨5, .data⟩ (by simp) rfl)
                have HP := Lib.hid hp
                clear hp
                subst p5
                go_simp
                refine HK.out _ _ ?_
                exact ⟨_, _, _, _, _, _, _, _, _, _, _, _, _, rfl, hB.alloc hB.size _, (fun h => (d0 (mark_ne (by decide) h))), (fun h => (d1 (mark_ne (by decide) h))), (fun h => (d2 (mark_ne (by decide) h))), (fun h => (d3 (mark_ne (by decide) h))), (fun h => fun h2 => ((d4 (mark_ne (by decide) h)) (mark_off (by decide) h2)).below ((Below.refl wI.heap.size wI).alloc (Nat.le_refl _) _) (Nat.le_refl _)), (fun h => (d5 (mark_ne (by decide) h))), (fun _ => fun _ => ⟨_, rfl, Box.new _ _ _⟩), (fun h => fun h2 => ((d7 (mark_ne (by decide) h)) (mark_off (by decide) h2)).below ((Below.refl wI.heap.size wI).alloc (Nat.le_refl _) _) (Nat.le_refl _)), (fun h => (d8 (mark_ne (by decide) h))), (fun h => (d9 (mark_ne (by decide) h))), (fun h => (d10 (mark_ne (by decide) h))), (fun h => let ⟨q0, q1⟩ := (d11 (mark_ne (by decide) h)); ⟨mark_on q0, q1.below ((Below.refl wI.heap.size wI).alloc (Nat.le_refl _) _) (Nat.le_refl _)⟩), (fun h => let ⟨q0, q1⟩ := (d12 (mark_ne (by decide) h)); ⟨⟨mark_on q0.1, mark_on q0.2.1, mark_on q0.2.2⟩, q1.below ((Below.refl wI.heap.size wI).alloc (Nat.le_refl _) _) (Nat.le_refl _)⟩), (fun h => e0 (mark_off (by decide) h))⟩
              refine ordStep_cons (fun L aI wI hI hi hp K hK => ?_) ?_
              · obtain ⟨v11, v35, v36, v37, v38, v39, v40, v41, v42, v43, v44, v45, v46, rfl, hB, d0, d1, d2, d3, d4, d5, d6, d7, d8, d9, d10, d11, d12, e0⟩ := hI
                have HK := Lib.hid hK
                clear hK
                have p4 := d4 (hp ⟨4, .data⟩ (by simp) rfl)
                have p6 := d6 (hp ⟨6, .data⟩ (by simp) rfl)
                have HP := Lib.hid hp
                clear hp
                have ow := p4 hi
                obtain ⟨g2, rfl, hb2⟩ := p6 hi
                obtain ⟨oA, oc, rfl, -⟩ := id ow.form
                rw [if_pos (by rfl)]
                refine wp_append_lit w5.heap.size 63 i0 _ 1 24 Tryd.underlying37 hi0 hz0 hz1 hz2 rfl (by omega) (by omega) (.slice oA n oc) (n) (((zs.map Prod.fst).take n)) (ow) wI.heap.size (some ⟨g2, 0, none⟩) (1) (1) ([.slice xA x.length xc]) (hb2.sl 1 1 rfl (by omega)) (fun u hu => by rw [List.mem_singleton.1 hu]; rfl) (by simp only [maxLen]; omega) (by omega) hB.size (by simp [Act.eval]) (by simp [Act.eval]) ?_
                intro v8 w8 ho8 hg8 hat8
                refine HK.out _ _ ?_
                exact ⟨_, _, _, _, _, _, _, _, _, _, _, _, _, rfl, below_grown hB hg8 (fun g hg => (ow.lt g hg).1) hB.size, (fun h => (d0 (mark_ne (by decide) h))), (fun h => (d1 (mark_ne (by decide) h))), (fun h => (d2 (mark_ne (by decide) h))), (fun h => (d3 (mark_ne (by decide) h))), (fun h => fun h2 => mark_self h2), (fun h => (d5 (mark_ne (by decide) h))), (fun h => fun h2 => mark_self h2), (fun _ => fun _ => ho8), (fun h => (d8 (mark_ne (by decide) h))), (fun h => (d9 (mark_ne (by decide) h))), (fun h => (d10 (mark_ne (by decide) h))), (fun h => absurd ((d11 (mark_ne (by decide) h))).1 (by rw [hi]; decide)), (fun h => absurd ((d12 (mark_ne (by decide) h))).1.2.1 (by rw [hi]; decide)), (fun h => e0 (mark_off (by decide) h))⟩
              refine ordStep_cons (fun L aI wI hI hi hp K hK => ?_) ?_
              · obtain ⟨v11, v35, v36, v37, v38, v39, v40, v41, v42, v43, v44, v45, v46, rfl, hB, d0, d1, d2, d3, d4, d5, d6, d7, d8, d9, d10, d11, d12, e0⟩ := hI
                have HK := Lib.hid hK
                clear hK
                have HP := Lib.hid hp
                clear hp
                go_simp
                refine HK.out _ _ ?_
                exact ⟨_, _, _, _, _, _, _, _, _, _, _, _, _, rfl, hB, (fun h => (d0 (mark_ne (by decide) h))), (fun h => (d1 (mark_ne (by decide) h))), (fun h => (d2 (mark_ne (by decide) h))), (fun h => (d3 (mark_ne (by decide) h))), (fun h => fun h2 => (d4 (mark_ne (by decide) h)) (mark_off (by decide) h2)), (fun h => (d5 (mark_ne (by decide) h))), (fun h => fun h2 => (d6 (mark_ne (by decide) h)) (mark_off (by decide) h2)), (fun h => fun h2 => (d7 (mark_ne (by decide) h)) (mark_off (by decide) h2)), (fun _ => rfl), (fun h => (d9 (mark_ne (by decide) h))), (fun h => (d10 (mark_ne (by decide) h))), (fun h => let ⟨q0, q1⟩ := (d11 (mark_ne (by decide) h)); ⟨mark_on q0, q1⟩), (fun h => let ⟨q0, q1⟩ := (d12 (mark_ne (by decide) h)); ⟨⟨mark_on q0.1, mark_on q0.2.1, mark_on q0.2.2⟩, q1⟩), (fun h => e0 (mark_off (by decide) h))⟩
              refine ordStep_cons (fun L aI wI hI hi hp K hK => ?_) ?_
              · obtain ⟨v11, v35, v36, v37, v38, v39, v40, v41, v42, v43, v44, v45, v46, rfl, hB, d0, d1, d2, d3, d4, d5, d6, d7, d8, d9, d10, d11, d12, e0⟩ := hI
                have HK := Lib.hid hK
                clear hK
                have HP := Lib.hid hp
                clear hp
                go_simp
                refine HK.out _ _ ?_
                exact ⟨_, _, _, _, _, _, _, _, _, _, _, _, _, rfl, hB, (fun h => (d0 (mark_ne (by decide) h))), (fun h => (d1 (mark_ne (by decide) h))), (fun h => (d2 (mark_ne (by decide) h))), (fun h => (d3 (mark_ne (by decide) h))), (fun h => fun h2 => (d4 (mark_ne (by decide) h)) (mark_off (by decide) h2)), (fun h => (d5 (mark_ne (by decide) h))), (fun h => fun h2 => (d6 (mark_ne (by decide) h)) (mark_off (by decide) h2)), (fun h => fun h2 => (d7 (mark_ne (by decide) h)) (mark_off (by decide) h2)), (fun h => (d8 (mark_ne (by decide) h))), (fun _ => rfl), (fun h => (d10 (mark_ne (by decide) h))), (fun h => let ⟨q0, q1⟩ := (d11 (mark_ne (by decide) h)); ⟨mark_on q0, q1⟩), (fun h => let ⟨q0, q1⟩ := (d12 (mark_ne (by decide) h)); ⟨⟨mark_on q0.1, mark_on q0.2.1, mark_on q0.2.2⟩, q1⟩), (fun h => e0 (mark_off (by decide) h))⟩
              refine ordStep_cons (fun L aI wI hI hi hp K hK => ?_) ?_
              · obtain ⟨v11, v35, v36, v37, v38, v39, v40, v41, v42, v43, v44, v45, v46, rfl, hB, d0, d1, d2, d3, d4, d5, d6, d7, d8, d9, d10, d11, d12, e0⟩ := hI
                have HK := Lib.hid hK
                clear hK
                have p8 := d8 (hp ⟨8, .data⟩ (by simp) rfl)
                have p9 := d9 (hp ⟨9, .data⟩ (by simp) rfl)
                have HP := Lib.hid hp
                clear hp
                subst p8
                subst p9
                go_simp
                refine HK.out _ _ ?_
                exact ⟨_, _, _, _, _, _, _, _, _, _, _, _, _, rfl, hB, (fun h => (d0 (mark_ne (by decide) h))), (fun h => (d1 (mark_ne (by decide) h))), (fun h => (d2 (mark_ne (by decide) h))), (fun h => (d3 (mark_ne (by decide) h))), (fun h => fun h2 => (d4 (mark_ne (by decide) h)) (mark_off (by decide) h2)), (fun h => (d5 (mark_ne (by decide) h))), (fun h => fun h2 => (d6 (mark_ne (by decide) h)) (mark_off (by decide) h2)), (fun h => fun h2 => (d7 (mark_ne (by decide) h)) (mark_off (by decide) h2)), (fun h => (d8 (mark_ne (by decide) h))), (fun h => (d9 (mark_ne (by decide) h))), (fun _ => rfl), (fun h => let ⟨q0, q1⟩ := (d11 (mark_ne (by decide) h)); ⟨mark_on q0, q1⟩), (fun h => let ⟨q0, q1⟩ := (d12 (mark_ne (by decide) h)); ⟨⟨mark_on q0.1, mark_on q0.2.1, mark_on q0.2.2⟩, q1⟩), (fun h => e0 (mark_off (by decide) h))⟩
              refine ordStep_cons (fun L aI wI hI hi hp K hK => ?_) ?_
              · obtain ⟨v11, v35, v36, v37, v38, v39, v40, v41, v42, v43, v44, v45, v46, rfl, hB, d0, d1, d2, d3, d4, d5, d6, d7, d8, d9, d10, d11, d12, e0⟩ := hI
                have HK := Lib.hid hK
                clear hK
                have p7 := d7 (hp ⟨7, .data⟩ (by simp) rfl)
                have p10 := d10 (hp ⟨10, .data⟩ (by simp) rfl)
                have q7 := hp ⟨7, .data⟩ (by simp) rfl
                have Q7 := Lib.hid q7
                clear q7
                have HP := Lib.hid hp
                clear hp
                have ow := p7 hi
                subst p10
                obtain ⟨oA, oc, rfl, -⟩ := id ow.form
                rw [if_pos (by rfl)]
                refine wp_append_lit w5.heap.size 63 i0 _ 1 24 Tryd.underlying37 hi0 hz0 hz1 hz2 rfl (by omega) (by omega) (.slice oA (n + 1) oc) (n + 1) (((zs.map Prod.fst).take n) ++ [.slice xA x.length xc]) (ow) wI.heap.size ((if c = n then some ⟨g, 0, none⟩ else some ⟨g, n, none⟩)) (zs.length - n) (c - n) (((zs.map Prod.fst).drop n)) ((HDR5.out.below hB).more hB.size) (HONED.out) (by simp only [maxLen]; omega) (by omega) hB.size (by simp [Act.eval]) (by simp [Act.eval]) ?_
                intro v8 w8 ho8 hg8 hat8
                refine HK.out _ _ ?_
                exact ⟨_, _, _, _, _, _, _, _, _, _, _, _, _, rfl, below_grown hB hg8 (fun g hg => (ow.lt g hg).1) hB.size, (fun h => (d0 (mark_ne (by decide) h))), (fun h => (d1 (mark_ne (by decide) h))), (fun h => (d2 (mark_ne (by decide) h))), (fun h => (d3 (mark_ne (by decide) h))), (fun h => fun h2 => absurd (mark_off (by decide) h2) (by rw [Q7.out]; decide)), (fun h => (d5 (mark_ne (by decide) h))), (fun h => fun h2 => absurd (mark_off (by decide) h2) (by rw [Q7.out]; decide)), (fun h => fun h2 => mark_self h2), (fun h => (d8 (mark_ne (by decide) h))), (fun h => (d9 (mark_ne (by decide) h))), (fun h => (d10 (mark_ne (by decide) h))), (fun _ => ⟨mark_on Q7.out, ho8⟩), (fun h => absurd ((d12 (mark_ne (by decide) h))).1.2.2 (by rw [hi]; decide)), (fun h => e0 (mark_off (by decide) h))⟩
              refine ordStep_cons (fun L aI wI hI hi hp K hK => ?_) ?_
              · obtain ⟨v11, v35, v36, v37, v38, v39, v40, v41, v42, v43, v44, v45, v46, rfl, hB, d0, d1, d2, d3, d4, d5, d6, d7, d8, d9, d10, d11, d12, e0⟩ := hI
                have HK := Lib.hid hK
                clear hK
                have p11 := d11 (hp ⟨11, .data⟩ (by simp) rfl)
                have q0 := hp ⟨0, .phase⟩ (by simp) rfl
                have q7 := hp ⟨7, .phase⟩ (by simp) rfl
                have q11 := hp ⟨11, .data⟩ (by simp) rfl
                have Q := Lib.hid (And.intro q0 (And.intro q7 q11))
                clear q0 q7 q11
                have HP := Lib.hid hp
                clear hp
                obtain ⟨oA, oc, rfl, -⟩ := id p11.2.form
                go_simp
                refine HK.out _ _ ?_
                exact ⟨_, _, _, _, _, _, _, _, _, _, _, _, _, rfl, hB, (fun h => (d0 (mark_ne (by decide) h))), (fun h => (d1 (mark_ne (by decide) h))), (fun h => (d2 (mark_ne (by decide) h))), (fun h => (d3 (mark_ne (by decide) h))), (fun h => fun h2 => (d4 (mark_ne (by decide) h)) (mark_off (by decide) h2)), (fun h => (d5 (mark_ne (by decide) h))), (fun h => fun h2 => (d6 (mark_ne (by decide) h)) (mark_off (by decide) h2)), (fun h => fun h2 => (d7 (mark_ne (by decide) h)) (mark_off (by decide) h2)), (fun h => (d8 (mark_ne (by decide) h))), (fun h => (d9 (mark_ne (by decide) h))), (fun h => (d10 (mark_ne (by decide) h))), (fun h => let ⟨q0, q1⟩ := (d11 (mark_ne (by decide) h)); ⟨mark_on q0, q1⟩), (fun _ => ⟨⟨mark_on Q.out.1, mark_on Q.out.2.1, mark_on Q.out.2.2⟩, p11.2⟩), (fun h => mark_self h)⟩
              exact ordStep_nil
            · intro L aI wI hL hI
              obtain ⟨v11, v35, v36, v37, v38, v39, v40, v41, v42, v43, v44, v45, v46, rfl, hB, d0, d1, d2, d3, d4, d5, d6, d7, d8, d9, d10, d11, d12, e0⟩ := hI
              have hO9 := (d12 (hL 12 (by decide))).2
              clear d0 d1 d2 d3 d4 d5 d6 d7 d8 d9 d10 d11 d12 e0 hL L
              obtain ⟨w9, hw9⟩ : ∃ w9, w9 = wI := ⟨_, rfl⟩
              subst hw9
              have hB9 := hB5.trans (hB.mono hB5.size)
              have bw9 := HB1.out.trans (hB9.mono HB1.out.size)
              have bw5 := HB1.out.trans (hB5.mono HB1.out.size)
              have hO10 := hO9.mono bw5.size
              have hlen : (zs.take n ++ (.slice xA x.length xc, x) :: zs.drop n).length = n + 1 + (zs.length - n) := by simp; omega
              have hfst : (zs.take n ++ (.slice xA x.length xc, x) :: zs.drop n).map Prod.fst = ((zs.map Prod.fst).take n) ++ [.slice xA x.length xc] ++ ((zs.map Prod.fst).drop n) := by simp
              have hsnd : (zs.take n ++ (.slice xA x.length xc, x) :: zs.drop n).map Prod.snd = sortF (cmpK l ks) (rows.take (k + 1)) := by rw [S1.out, HFIN.out]; simp
              rw [← hlen, ← hfst] at hO10
              have hmem : ∀ z ∈ zs.take n ++ (.slice xA x.length xc, x) :: zs.drop n, RdRV w w.heap.size z.1 z.2 ∧ z.2.length = l.length := fun z hz => by
                rcases List.mem_append.1 hz with hz | hz
                · exact HZ.out z (List.mem_of_mem_take hz)
                · rcases List.mem_cons.1 hz with rfl | hz
                  · exact ⟨hrw0, HXL.out⟩
                  · exact HZ.out z (List.mem_of_mem_drop hz)
              have HO10 := Lib.hid hO10; have HSND := Lib.hid hsnd; have HMEM := Lib.hid hmem; have HLEN := Lib.hid hlen
              clear hO9 hO10 hsnd hmem hlen hfst hB
              go_wp2
              exact ⟨⟨k + 1, zs.take n ++ (.slice xA x.length xc, x) :: zs.drop n, by omega, by go_num, HSND.out, by rw [HLEN.out]; have := HZL.out; omega, HO10.out, HMEM.out, bw9⟩, by simp [intOf]; omega⟩
    · obtain rfl : k = rows.length := by omega
      have hrd : RdRVT wr wr.heap.size u7 (sortF (cmpK l ks) rows) := by
        obtain ⟨A, c, he, hs⟩ := hO.form
        rw [List.take_length] at hzs
        have hlen : zs.length = (sortF (cmpK l ks) rows).length := by rw [← hzs, List.length_map]
        rw [he]
        refine ⟨A, c, zs.map Prod.fst, by rw [← hlen], by rw [← hlen]; exact hs, ?_⟩
        rw [← hzs]
        exact each_unzip fun z hz => RdF.next (hZ z hz).1 hB
      have HRD := Lib.hid hrd
      obtain ⟨oA, oc, rfl, -⟩ := hO.form
      clear hO hZ hzs hrd hlt
      go_wp2
      exact HR.out _ _ ⟨⟨_, rfl, HRD.out⟩, hB⟩
end Go.Proofs.YtgiemhooeoakmaaDoor


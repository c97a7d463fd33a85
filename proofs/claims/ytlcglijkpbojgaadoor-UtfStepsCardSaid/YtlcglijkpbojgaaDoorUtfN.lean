/- Layer 2: what goes on, by the table and by definition; where a text is bad. -/
import Derived.Test.YtlcglijkpbojgaaDoorUtfM
namespace Go.Proofs.YtlcglijkpbojgaaDoor
set_option linter.unusedVariables false
set_option linter.unusedSimpArgs false

theorem goesT_iff (l : List UInt8) (a b : Nat) : goesT l a b = true ↔ l.length ≤ sizeR (l ++ [UInt8.ofNat (128 + a), UInt8.ofNat (128 + b), 128]) ∧ 0 < sizeR (l ++ [UInt8.ofNat (128 + a), UInt8.ofNat (128 + b), 128]) := by
  unfold goesT
  rw [decide_eq_true_iff]
theorem nat_low {a : Nat} (h : a < 64) : (UInt8.ofNat (128 + a)).toNat = 128 + a := by
  rw [UInt8.toNat_ofNat']
  omega
theorem nat_128 : (128 : UInt8).toNat = 128 := rfl
theorem size_ge {k : Nat} {l : List UInt8} (hk : 1 ≤ k) (hk4 : k ≤ 4) (h : isSeq k l = true) (hN : ∀ j, 1 ≤ j → j < k → isSeq j l = false) : sizeR l = k := size_at hk hk4 hN h
theorem goes_one {a : UInt8} (h : sizeR [a] = 0) : goesB [a] = true ↔ ∃ u, To 0 [a] u := by
  obtain ⟨h1, -, -, -⟩ := (none_iff _).1 h
  have ha : 128 ≤ a.toNat := by
    have : ¬ a.toNat < 128 := fun hh => by rw [(seq1_iff a []).2 hh] at h1; cases h1
    omega
  simp only [to1, step0]
  rw [goesB_iff]
  have key : ∀ x y : Nat, x < 64 → y < 64 → (0 < sizeR ([a] ++ [UInt8.ofNat (128 + x), UInt8.ofNat (128 + y), 128]) ↔ P2 a.toNat ∧ cont (128 + x) ∨ P3 a.toNat (128 + x) ∧ cont (128 + y) ∨ P4 a.toNat (128 + x) ∧ cont (128 + y)) := by
    intro x y hx hy
    have n1 : ¬ isSeq 1 ([a] ++ [UInt8.ofNat (128 + x), UInt8.ofNat (128 + y), 128]) = true := by
      rw [List.cons_append, seq1_iff]; omega
    have n2 : isSeq 2 ([a] ++ [UInt8.ofNat (128 + x), UInt8.ofNat (128 + y), 128]) = true ↔ P2 a.toNat ∧ cont (128 + x) := by
      rw [List.cons_append, List.nil_append, seq2_iff, nat_low hx]
    have n3 : isSeq 3 ([a] ++ [UInt8.ofNat (128 + x), UInt8.ofNat (128 + y), 128]) = true ↔ P3 a.toNat (128 + x) ∧ cont (128 + y) := by
      rw [List.cons_append, List.nil_append, seq3_iff, nat_low hx, nat_low hy]
    have n4 : isSeq 4 ([a] ++ [UInt8.ofNat (128 + x), UInt8.ofNat (128 + y), 128]) = true ↔ P4 a.toNat (128 + x) ∧ cont (128 + y) := by
      rw [List.cons_append, List.nil_append, seq4_iff, nat_low hx, nat_low hy, nat_128]
      constructor
      · rintro ⟨h1, h2, _⟩; exact ⟨h1, h2⟩
      · rintro ⟨h1, h2⟩; exact ⟨h1, h2, by unfold cont; omega⟩
    rw [← n2, ← n3, ← n4]
    generalize [a] ++ [UInt8.ofNat (128 + x), UInt8.ofNat (128 + y), 128] = L at *
    unfold sizeR
    rw [if_neg n1]
    split
    · rename_i h; simp [h]
    · split
      · rename_i h; simp [h]
      · split
        · rename_i h; simp [h]
        · rename_i h2 h3 h4; simp [h2, h3, h4]
  constructor
  · rintro ⟨x, hx, y, hy, -, ht⟩
    have := (key x y hx hy).1 ((goesT_iff _ _ _).1 ht).2
    unfold P2 P3 P4 cont at this
    have hr : 194 ≤ a.toNat ∧ a.toNat ≤ 244 := by omega
    clear this ht key
    by_cases c1 : a.toNat ≤ 223
    · exact ⟨1, by omega⟩
    by_cases c2 : a.toNat = 224
    · exact ⟨4, by omega⟩
    by_cases c3 : a.toNat = 237
    · exact ⟨5, by omega⟩
    by_cases c4 : a.toNat ≤ 239
    · exact ⟨2, by omega⟩
    by_cases c5 : a.toNat = 240
    · exact ⟨6, by omega⟩
    by_cases c6 : a.toNat = 244
    · exact ⟨7, by omega⟩
    · exact ⟨3, by omega⟩
  · rintro ⟨u, hu⟩
    have hr : 194 ≤ a.toNat ∧ a.toNat ≤ 244 := by omega
    clear hu
    have fin : ∀ x, x < 64 → (P2 a.toNat ∧ cont (128 + x) ∨ P3 a.toNat (128 + x) ∧ cont (128 + 0) ∨ P4 a.toNat (128 + x) ∧ cont (128 + 0)) → GoesP [a] := fun x hx hp => by
      have h0 := (key x 0 hx (by omega)).2 hp
      exact ⟨x, hx, 0, by omega, .inl (by simp), (goesT_iff _ _ _).2 ⟨by rw [List.length_singleton]; exact h0, h0⟩⟩
    unfold P2 P3 P4 cont at fin
    by_cases c2 : a.toNat = 224
    · exact fin 32 (by omega) (by omega)
    by_cases c3 : a.toNat = 240
    · exact fin 16 (by omega) (by omega)
    · exact fin 0 (by omega) (by omega)
theorem goes_two {a b : UInt8} (h : sizeR [a, b] = 0) : goesB [a, b] = true ↔ ∃ u, To 0 [a, b] u := by
  obtain ⟨h1, h2, -, -⟩ := (none_iff _).1 h
  have ha : 128 ≤ a.toNat := by
    have : ¬ a.toNat < 128 := fun hh => by rw [(seq1_iff a _).2 hh] at h1; cases h1
    omega
  have h2' : ¬ (P2 a.toNat ∧ cont b.toNat) := fun hh => by rw [(seq2_iff a b _).2 hh] at h2; cases h2
  have hto : (∃ u, To 0 [a, b] u) ↔ P3 a.toNat b.toNat ∨ P4 a.toNat b.toNat := by
    simp only [to2 _ _ _ _ ha, to_nil]
    constructor
    · rintro ⟨u, ⟨h3, h4, _⟩ | ⟨h3, _⟩ | ⟨h3, _⟩⟩
      · exact absurd ⟨h3, h4⟩ h2'
      · exact .inl h3
      · exact .inr h3
    · rintro (h3 | h3)
      · exact ⟨1, .inr (.inl ⟨h3, rfl⟩)⟩
      · exact ⟨2, .inr (.inr ⟨h3, rfl⟩)⟩
  rw [hto, goesB_iff]
  have key : ∀ x : Nat, x < 64 → (goesT [a, b] x 0 = true ↔ P3 a.toNat b.toNat ∨ P4 a.toNat b.toNat) := by
    intro x hx
    rw [goesT_iff]
    have n1 : ¬ isSeq 1 ([a, b] ++ [UInt8.ofNat (128 + x), UInt8.ofNat (128 + 0), 128]) = true := by
      rw [List.cons_append, seq1_iff]; omega
    have n2 : ¬ isSeq 2 ([a, b] ++ [UInt8.ofNat (128 + x), UInt8.ofNat (128 + 0), 128]) = true := by
      rw [List.cons_append, List.cons_append, seq2_iff]; exact h2'
    have n3 : isSeq 3 ([a, b] ++ [UInt8.ofNat (128 + x), UInt8.ofNat (128 + 0), 128]) = true ↔ P3 a.toNat b.toNat := by
      rw [List.cons_append, List.cons_append, List.nil_append, seq3_iff, nat_low hx]
      exact ⟨fun h => h.1, fun h => ⟨h, by unfold cont; omega⟩⟩
    have n4 : isSeq 4 ([a, b] ++ [UInt8.ofNat (128 + x), UInt8.ofNat (128 + 0), 128]) = true ↔ P4 a.toNat b.toNat := by
      rw [List.cons_append, List.cons_append, List.nil_append, seq4_iff, nat_low hx, nat_low (by omega)]
      exact ⟨fun h => h.1, fun h => ⟨h, by unfold cont; omega, by unfold cont; omega⟩⟩
    rw [← n3, ← n4]
    generalize [a, b] ++ [UInt8.ofNat (128 + x), UInt8.ofNat (128 + 0), 128] = L at *
    unfold sizeR
    rw [if_neg n1, if_neg n2]
    split
    · rename_i h; simp [h]
    · split
      · rename_i h; simp [h]
      · rename_i h3 h4; simp [h3, h4]
  constructor
  · rintro ⟨x, hx, y, hy, hl, ht⟩
    obtain rfl : y = 0 := by simpa using hl
    exact (key x hx).1 ht
  · intro hp
    exact ⟨0, by omega, 0, by omega, .inr rfl, (key 0 (by omega)).2 hp⟩
theorem goes_three {a b c : UInt8} (h : sizeR [a, b, c] = 0) : goesB [a, b, c] = true ↔ ∃ u, To 0 [a, b, c] u := by
  obtain ⟨h1, h2, h3, -⟩ := (none_iff _).1 h
  have ha : 128 ≤ a.toNat := by
    have : ¬ a.toNat < 128 := fun hh => by rw [(seq1_iff a _).2 hh] at h1; cases h1
    omega
  have h2' : ¬ (P2 a.toNat ∧ cont b.toNat) := fun hh => by rw [(seq2_iff a b _).2 hh] at h2; cases h2
  have h3' : ¬ (P3 a.toNat b.toNat ∧ cont c.toNat) := fun hh => by rw [(seq3_iff a b c _).2 hh] at h3; cases h3
  have hto : (∃ u, To 0 [a, b, c] u) ↔ P4 a.toNat b.toNat ∧ cont c.toNat := by
    simp only [to2 _ _ _ _ ha, toA, toB, to_nil]
    constructor
    · rintro ⟨u, ⟨h4, h5, _⟩ | ⟨h4, h5, _⟩ | ⟨h4, h5, _⟩⟩
      · exact absurd ⟨h4, h5⟩ h2'
      · exact absurd ⟨h4, h5⟩ h3'
      · exact ⟨h4, h5⟩
    · rintro ⟨h4, h5⟩
      exact ⟨1, .inr (.inr ⟨h4, h5, rfl⟩)⟩
  rw [hto, goesB_iff]
  have key : ∀ x : Nat, x < 64 → (goesT [a, b, c] x 0 = true ↔ P4 a.toNat b.toNat ∧ cont c.toNat) := by
    intro x hx
    rw [goesT_iff]
    have n1 : ¬ isSeq 1 ([a, b, c] ++ [UInt8.ofNat (128 + x), UInt8.ofNat (128 + 0), 128]) = true := by
      rw [List.cons_append, seq1_iff]; omega
    have n2 : ¬ isSeq 2 ([a, b, c] ++ [UInt8.ofNat (128 + x), UInt8.ofNat (128 + 0), 128]) = true := by
      rw [List.cons_append, List.cons_append, seq2_iff]; exact h2'
    have n3 : ¬ isSeq 3 ([a, b, c] ++ [UInt8.ofNat (128 + x), UInt8.ofNat (128 + 0), 128]) = true := by
      rw [List.cons_append, List.cons_append, List.cons_append, seq3_iff]; exact h3'
    have n4 : isSeq 4 ([a, b, c] ++ [UInt8.ofNat (128 + x), UInt8.ofNat (128 + 0), 128]) = true ↔ P4 a.toNat b.toNat ∧ cont c.toNat := by
      rw [List.cons_append, List.cons_append, List.cons_append, List.nil_append, seq4_iff, nat_low hx]
      exact ⟨fun h => ⟨h.1, h.2.1⟩, fun h => ⟨h.1, h.2, by unfold cont; omega⟩⟩
    rw [← n4]
    generalize [a, b, c] ++ [UInt8.ofNat (128 + x), UInt8.ofNat (128 + 0), 128] = L at *
    unfold sizeR
    rw [if_neg n1, if_neg n2, if_neg n3]
    split
    · rename_i h; simp [h]
    · rename_i h4; simp [h4]
  constructor
  · rintro ⟨x, hx, y, hy, hl, ht⟩
    obtain rfl : y = 0 := by simpa using hl
    exact (key x hx).1 ht
  · intro hp
    exact ⟨0, by omega, 0, by omega, .inr rfl, (key 0 (by omega)).2 hp⟩
theorem goes_four {a b c d : UInt8} (h : sizeR [a, b, c, d] = 0) : goesB [a, b, c, d] = false := by
  obtain ⟨h1, h2, h3, h4⟩ := (none_iff _).1 h
  rw [Bool.eq_false_iff]
  intro hg
  obtain ⟨x, hx, y, hy, -, ht⟩ := (goesB_iff _).1 hg
  obtain ⟨ht, -⟩ := (goesT_iff _ _ _).1 ht
  have ht' : 4 ≤ sizeR ([a, b, c, d] ++ [UInt8.ofNat (128 + x), UInt8.ofNat (128 + y), 128]) := ht
  have hq := size_seq (l := [a, b, c, d] ++ [UInt8.ofNat (128 + x), UInt8.ofNat (128 + y), 128]) (by omega)
  have h5 := size_le ([a, b, c, d] ++ [UInt8.ofNat (128 + x), UInt8.ofNat (128 + y), 128])
  have h6 : sizeR ([a, b, c, d] ++ [UInt8.ofNat (128 + x), UInt8.ofNat (128 + y), 128]) = 4 := by omega
  rw [h6] at hq
  have : isSeq 4 [a, b, c, d] = true := by
    rw [List.cons_append, List.cons_append, List.cons_append, List.cons_append, seq4_iff] at hq
    exact (seq4_iff a b c d []).2 hq
  rw [this] at h4
  cases h4
/-- By definition and by the table: the same bytes go on, where no sequence begins. -/
theorem goes_iff {l : List UInt8} (h : sizeR l = 0) (hl : l ≠ []) : goesR l = true ↔ ∃ u, To 0 l u := by
  match l, hl with
  | [a], _ =>
    rw [← goes_one h]; unfold goesR; rw [h]; simp
  | [a, b], _ =>
    rw [← goes_two h]; unfold goesR; rw [h]; simp
  | [a, b, c], _ =>
    rw [← goes_three h]; unfold goesR; rw [h]; simp
  | [a, b, c, d], _ =>
    have : goesR [a, b, c, d] = false := by unfold goesR; rw [h, goes_four h]; simp
    rw [this]
    constructor
    · intro h; cases h
    · rintro ⟨u, hu⟩
      have := none_to h hu
      simp at this
  | a :: b :: c :: d :: e :: r, _ =>
    have : goesR (a :: b :: c :: d :: e :: r) = false := by unfold goesR; simp
    rw [this]
    constructor
    · intro h; cases h
    · rintro ⟨u, hu⟩
      have := none_to h hu
      simp at this
theorem take_to : ∀ (l : List UInt8) (st m : Nat), m ≤ l.length → ((∃ u, To st (l.take m) u) ↔ m ≤ (runF st l).2)
  | l, st, 0, h => by
    simp only [List.take_zero, to_nil]
    exact ⟨fun _ => Nat.zero_le _, fun _ => ⟨st, rfl⟩⟩
  | [], st, m + 1, h => by simp at h
  | b :: r, st, m + 1, h => by
    rw [List.take_succ_cons, runF]
    simp only [to_cons]
    cases hs : stepF st b.toNat with
    | none => simp
    | some t =>
      simp only [Option.some.injEq]
      have ih := take_to r t m (by simpa using h)
      constructor
      · rintro ⟨u, t', rfl, hu⟩
        have := ih.1 ⟨u, hu⟩
        omega
      · intro hm
        obtain ⟨u, hu⟩ := ih.2 (by omega)
        exact ⟨u, t, rfl, hu⟩
theorem isSeq_take {k m : Nat} {l : List UInt8} (h : isSeq k (l.take m) = true) : isSeq k l = true := by
  match k, h' : l.take m, h with
  | 1, a :: r, h =>
    obtain ⟨r', hr⟩ : ∃ r', l = a :: r' := by
      have := List.take_append_drop m l
      rw [h'] at this
      exact ⟨_, this.symm⟩
    rw [hr, seq1_iff]
    rw [seq1_iff] at h
    exact h
  | 2, a :: b :: r, h =>
    obtain ⟨r', hr⟩ : ∃ r', l = a :: b :: r' := by
      have := List.take_append_drop m l
      rw [h'] at this
      exact ⟨_, this.symm⟩
    rw [hr, seq2_iff]
    rw [seq2_iff] at h
    exact h
  | 3, a :: b :: c :: r, h =>
    obtain ⟨r', hr⟩ : ∃ r', l = a :: b :: c :: r' := by
      have := List.take_append_drop m l
      rw [h'] at this
      exact ⟨_, this.symm⟩
    rw [hr, seq3_iff]
    rw [seq3_iff] at h
    exact h
  | 4, a :: b :: c :: d :: r, h =>
    obtain ⟨r', hr⟩ : ∃ r', l = a :: b :: c :: d :: r' := by
      have := List.take_append_drop m l
      rw [h'] at this
      exact ⟨_, this.symm⟩
    rw [hr, seq4_iff]
    rw [seq4_iff] at h
    exact h
theorem none_take {l : List UInt8} (h : sizeR l = 0) (m : Nat) : sizeR (l.take m) = 0 := by
  rw [none_iff] at h ⊢
  obtain ⟨h1, h2, h3, h4⟩ := h
  refine ⟨?_, ?_, ?_, ?_⟩
  all_goals
    rw [Bool.eq_false_iff]
    intro hh
    have := isSeq_take hh
    simp_all
theorem to_append {st u v : Nat} {a b : List UInt8} (h1 : To st a u) (h2 : To u b v) : To st (a ++ b) v := by
  unfold To at h1 h2 ⊢
  rw [run_full a b st (by rw [h1]), h1, h2, List.length_append, Nat.add_comm]
theorem whole_split (l : List UInt8) : To 0 (l.take (wholeR l)) 0 ∧ sizeR (l.drop (wholeR l)) = 0 := by
  induction hn : l.length using Nat.strongRecOn generalizing l with
  | ind n ih =>
    subst hn
    rw [wholeR]
    split
    · rename_i h
      have hl := size_len l
      obtain ⟨h1, h2⟩ := ih (l.drop (sizeR l)).length (by rw [List.length_drop]; omega) (l.drop (sizeR l)) rfl
      have h3 := seq_to (size_seq (l := l) (by omega))
      refine ⟨?_, by rw [← List.drop_drop]; exact h2⟩
      rw [List.take_add]
      exact to_append h3 h1
    · refine ⟨by rw [List.take_zero, to_nil], by rw [List.drop_zero]; omega⟩
theorem long_none : ∀ (l : List UInt8) (st i w : Nat), (∀ k, 1 ≤ k → k ≤ l.length → ¬ To st (l.take k) 0) → longF st i w l = w
  | [], st, i, w, h => rfl
  | b :: r, st, i, w, h => by
    rw [longF]
    cases hs : stepF st b.toNat with
    | none => rfl
    | some t =>
      simp only
      have ht : t ≠ 0 := by
        rintro rfl
        exact h 1 (by omega) (by simp) (by rw [List.take_succ_cons, List.take_zero, to_cons]; exact ⟨0, hs, by rw [to_nil]⟩)
      rw [if_neg ht]
      refine long_none r t (i + 1) w fun k h1 h2 h3 => ?_
      exact h (k + 1) (by omega) (by simpa using h2) (by rw [List.take_succ_cons, to_cons]; exact ⟨t, hs, h3⟩)
/-- What the table says of a text is what the document says. -/
theorem text_law (l : List UInt8) : longF 0 0 0 l = wholeR l ∧ validF l = decide (wholeR l = l.length) ∧
    ∀ v : Int, BadIs l v → badF l = (if 0 ≤ v then (3, v.toNat) else if wholeR l < l.length then (12, l.length) else (0, 0)) := by
  obtain ⟨h1, h2⟩ := whole_split l
  have hq := whole_len l
  obtain ⟨q, hqq⟩ : ∃ q, q = wholeR l := ⟨_, rfl⟩
  unfold BadIs
  rw [← hqq] at h1 h2 hq ⊢
  clear hqq
  obtain ⟨p, hp⟩ : ∃ p, p = l.take q := ⟨_, rfl⟩
  obtain ⟨t, ht⟩ : ∃ t, t = l.drop q := ⟨_, rfl⟩
  have hl : l = p ++ t := by rw [hp, ht, List.take_append_drop]
  have hpl : p.length = q := by rw [hp, List.length_take]; omega
  rw [← hp] at h1
  rw [← ht] at h2 ⊢
  have hr : runF 0 p = (0, q) := by rw [← hpl]; exact h1
  have hpv : validF p = true := by unfold validF; rw [hr, hpl]; simp
  have hrun : runF 0 l = ((runF 0 t).1, (runF 0 t).2 + q) := by rw [hl, run_full p t 0 (by rw [hr, hpl]), hr, hpl]
  have hll : l.length = q + t.length := by rw [hl, List.length_append, hpl]
  have hle := runF_le t 0
  have hfull : (runF 0 t).2 = t.length → t = [] ∨ (runF 0 t).1 ≠ 0 := fun he => by
    rcases none_to h2 (u := (runF 0 t).1) (by unfold To; rw [← he]) with h | h
    · exact .inl h
    · exact .inr h.2
  have hg : ∀ m, 1 ≤ m → m ≤ t.length → (goesR (t.take m) = true ↔ m ≤ (runF 0 t).2) := fun m hm1 hm2 => by
    rw [goes_iff (none_take h2 m) (by
      intro h
      have h0 : (t.take m).length = 0 := by rw [h]; rfl
      rw [List.length_take] at h0
      omega), take_to t 0 m hm2]
  refine ⟨?_, ?_, ?_⟩
  · rw [hl, long_append t hpv, hpl, long_none t 0 0 0 fun k hk1 hk2 hk3 => ?_]
    · rfl
    · rcases none_to (none_take h2 k) hk3 with h | h
      · have h0 : (t.take k).length = 0 := by rw [h]; rfl
        rw [List.length_take] at h0
        omega
      · exact h.2 rfl
  · unfold validF
    rw [hrun, Bool.eq_iff_iff, decide_eq_true_iff, decide_eq_true_iff]
    simp only
    constructor
    · rintro ⟨h3, h4⟩
      rcases hfull (by omega) with h | h
      · rw [h] at hll; simpa using hll.symm
      · exact absurd h4 h
    · intro h3
      have : t = [] := by rw [← List.length_eq_zero_iff]; omega
      subst this
      simp [runF]
      omega
  · intro v hv
    unfold badF
    rw [hrun]
    simp only
    rcases hv with ⟨n, hn1, hn2, hn3, hn4, rfl⟩ | ⟨hall, rfl⟩
    · have hn : (runF 0 t).2 < n := by
        rw [Bool.eq_false_iff] at hn3
        have := mt (hg n hn1 (by omega)).2 hn3
        omega
      have hn' : (runF 0 t).2 = n - 1 := by
        by_cases h1n : n = 1
        · omega
        · have := (hg (n - 1) (by omega) (by omega)).1 (hn4 (n - 1) (by omega) (by omega))
          omega
      rw [if_pos (by omega), if_pos (by omega), hn']
      congr 1
      omega
    · have he : (runF 0 t).2 = t.length := by
        by_cases h0 : t.length = 0
        · omega
        · have := (hg t.length (by omega) (by omega)).1 (hall t.length (by omega) (by omega))
          omega
      rw [if_neg (by omega), if_neg (show ¬ (0 : Int) ≤ -1 by omega)]
      rcases hfull he with h | h
      · rw [h] at hll ⊢
        simp at hll
        simp [runF, hll]
      · rw [if_pos h]
        have ht0 : t ≠ [] := by rintro rfl; simp [runF] at h
        have : t.length ≠ 0 := by rw [Ne, List.length_eq_zero_iff]; exact ht0
        rw [if_pos (by omega)]
        congr 1
        omega
end Go.Proofs.YtlcglijkpbojgaaDoor

/- Layer 2: the table's states and the sequences by definition say the same. -/
import Derived.Test.YtgiemhooeoakmaaDoorUtfD
namespace Go.Proofs.YtgiemhooeoakmaaDoor
set_option linter.unusedVariables false
set_option linter.unusedSimpArgs false

def cont (b : Nat) : Prop := 128 ≤ b ∧ b ≤ 191
def P2 (a : Nat) : Prop := 194 ≤ a ∧ a ≤ 223
def P3 (a b : Nat) : Prop := a = 224 ∧ 160 ≤ b ∧ b ≤ 191 ∨ (225 ≤ a ∧ a ≤ 236 ∨ 238 ≤ a ∧ a ≤ 239) ∧ 128 ≤ b ∧ b ≤ 191 ∨ a = 237 ∧ 128 ≤ b ∧ b ≤ 159
def P4 (a b : Nat) : Prop := a = 240 ∧ 144 ≤ b ∧ b ≤ 191 ∨ 241 ≤ a ∧ a ≤ 243 ∧ 128 ≤ b ∧ b ≤ 191 ∨ a = 244 ∧ 128 ≤ b ∧ b ≤ 143
theorem seq1_iff (a : UInt8) (r : List UInt8) : isSeq 1 (a :: r) = true ↔ a.toNat < 128 := by simp [isSeq]
theorem seq2_iff (a b : UInt8) (r : List UInt8) : isSeq 2 (a :: b :: r) = true ↔ P2 a.toNat ∧ cont b.toNat := by
  simp [isSeq, P2, cont, and_assoc]
theorem seq3_iff (a b c : UInt8) (r : List UInt8) : isSeq 3 (a :: b :: c :: r) = true ↔ P3 a.toNat b.toNat ∧ cont c.toNat := by
  simp [isSeq, P3, cont]
theorem seq4_iff (a b c d : UInt8) (r : List UInt8) : isSeq 4 (a :: b :: c :: d :: r) = true ↔ P4 a.toNat b.toNat ∧ cont c.toNat ∧ cont d.toNat := by
  simp [isSeq, P4, cont, and_assoc]

theorem stepL_cons (f t n : Nat) (r : List (Nat × Nat × Nat)) (b v : Nat) : stepL ((f, t, n) :: r) b = some v ↔ (f ≤ b ∧ b ≤ t ∧ v = n) ∨ (¬ (f ≤ b ∧ b ≤ t) ∧ stepL r b = some v) := by
  rw [stepL]
  split
  · rename_i h
    simp [h, eq_comm]
  · rename_i h
    simp [h]
    intro h1 h2
    exact absurd ⟨h1, h2⟩ h
theorem stepL_nil (b v : Nat) : stepL [] b = some v ↔ False := by simp [stepL]
theorem step0 (b v : Nat) : stepF 0 b = some v ↔ (b ≤ 127 ∧ v = 0) ∨ (194 ≤ b ∧ b ≤ 223 ∧ v = 1) ∨ (b = 224 ∧ v = 4) ∨ ((225 ≤ b ∧ b ≤ 236 ∨ 238 ≤ b ∧ b ≤ 239) ∧ v = 2) ∨ (b = 237 ∧ v = 5) ∨ (b = 240 ∧ v = 6) ∨ (241 ≤ b ∧ b ≤ 243 ∧ v = 3) ∨ (b = 244 ∧ v = 7) := by
  constructor
  · intro h
    simp only [stepF, spans, stepL_cons, stepL_nil, and_false, or_false] at h
    rcases h with h | ⟨_, h | ⟨_, h | ⟨_, h | ⟨_, h | ⟨_, h | ⟨_, h | ⟨_, h | ⟨_, h⟩⟩⟩⟩⟩⟩⟩⟩ <;> omega
  · intro h
    rcases h with ⟨h, rfl⟩ | ⟨h, h', rfl⟩ | ⟨rfl, rfl⟩ | ⟨h | h, rfl⟩ | ⟨rfl, rfl⟩ | ⟨rfl, rfl⟩ | ⟨h, h', rfl⟩ | ⟨rfl, rfl⟩
    all_goals simp only [stepF, spans, stepL]
    all_goals (try rfl)
    all_goals repeat (first | rw [if_pos (by omega)] | rw [if_neg (by omega)])
theorem step1 (b v : Nat) : stepF 1 b = some v ↔ 128 ≤ b ∧ b ≤ 191 ∧ v = 0 := by
  simp only [stepF, spans, stepL_cons, stepL_nil, and_false, or_false]
theorem step2 (b v : Nat) : stepF 2 b = some v ↔ 128 ≤ b ∧ b ≤ 191 ∧ v = 1 := by
  simp only [stepF, spans, stepL_cons, stepL_nil, and_false, or_false]
theorem step3 (b v : Nat) : stepF 3 b = some v ↔ 128 ≤ b ∧ b ≤ 191 ∧ v = 2 := by
  simp only [stepF, spans, stepL_cons, stepL_nil, and_false, or_false]
theorem step4 (b v : Nat) : stepF 4 b = some v ↔ 160 ≤ b ∧ b ≤ 191 ∧ v = 1 := by
  simp only [stepF, spans, stepL_cons, stepL_nil, and_false, or_false]
theorem step5 (b v : Nat) : stepF 5 b = some v ↔ 128 ≤ b ∧ b ≤ 159 ∧ v = 1 := by
  simp only [stepF, spans, stepL_cons, stepL_nil, and_false, or_false]
theorem step6 (b v : Nat) : stepF 6 b = some v ↔ 144 ≤ b ∧ b ≤ 191 ∧ v = 2 := by
  simp only [stepF, spans, stepL_cons, stepL_nil, and_false, or_false]
theorem step7 (b v : Nat) : stepF 7 b = some v ↔ 128 ≤ b ∧ b ≤ 143 ∧ v = 2 := by
  simp only [stepF, spans, stepL_cons, stepL_nil, and_false, or_false]

/-- All bytes go on, and the state behind them is u. -/
def To (st : Nat) (l : List UInt8) (u : Nat) : Prop := runF st l = (u, l.length)
theorem to_nil (st u : Nat) : To st [] u ↔ u = st := by simp [To, runF, eq_comm]
theorem to_cons (st u : Nat) (b : UInt8) (r : List UInt8) : To st (b :: r) u ↔ ∃ t, stepF st b.toNat = some t ∧ To t r u := by
  unfold To
  rw [runF]
  cases h : stepF st b.toNat with
  | none => simp
  | some t =>
    simp only [Option.some.injEq, List.length_cons]
    constructor
    · intro h
      refine ⟨t, rfl, ?_⟩
      injection h with h1 h2
      exact Prod.ext h1 (by simpa using h2)
    · rintro ⟨t', rfl, h⟩
      rw [h]
theorem to1 (a : UInt8) (u : Nat) : To 0 [a] u ↔ stepF 0 a.toNat = some u := by
  rw [to_cons]
  simp only [to_nil]
  constructor
  · rintro ⟨t, h, rfl⟩; exact h
  · intro h; exact ⟨u, h, rfl⟩
theorem two (a b u : Nat) (h : 128 ≤ a) : (∃ t, stepF 0 a = some t ∧ stepF t b = some u) ↔ (P2 a ∧ cont b ∧ u = 0) ∨ (P3 a b ∧ u = 1) ∨ (P4 a b ∧ u = 2) := by
  unfold P2 P3 P4 cont
  constructor
  · rintro ⟨t, h1, h2⟩
    rw [step0] at h1
    obtain ⟨h1, rfl⟩ | ⟨h1, h1', rfl⟩ | ⟨h1, rfl⟩ | ⟨h1, rfl⟩ | ⟨h1, rfl⟩ | ⟨h1, rfl⟩ | ⟨h1, h1', rfl⟩ | ⟨h1, rfl⟩ := h1
    · omega
    · rw [step1] at h2; omega
    · rw [step4] at h2; omega
    · rw [step2] at h2; omega
    · rw [step5] at h2; omega
    · rw [step6] at h2; omega
    · rw [step3] at h2; omega
    · rw [step7] at h2; omega
  · rintro (h1 | h1 | h1)
    · exact ⟨1, (step0 _ _).2 (by omega), (step1 _ _).2 (by omega)⟩
    · obtain ⟨h1 | h1 | h1, rfl⟩ := h1
      · exact ⟨4, (step0 _ _).2 (by omega), (step4 _ _).2 (by omega)⟩
      · exact ⟨2, (step0 _ _).2 (by omega), (step2 _ _).2 (by omega)⟩
      · exact ⟨5, (step0 _ _).2 (by omega), (step5 _ _).2 (by omega)⟩
    · obtain ⟨h1 | h1 | h1, rfl⟩ := h1
      · exact ⟨6, (step0 _ _).2 (by omega), (step6 _ _).2 (by omega)⟩
      · exact ⟨3, (step0 _ _).2 (by omega), (step3 _ _).2 (by omega)⟩
      · exact ⟨7, (step0 _ _).2 (by omega), (step7 _ _).2 (by omega)⟩
theorem to2 (a b : UInt8) (r : List UInt8) (u : Nat) (h : 128 ≤ a.toNat) : To 0 (a :: b :: r) u ↔ (P2 a.toNat ∧ cont b.toNat ∧ To 0 r u) ∨ (P3 a.toNat b.toNat ∧ To 1 r u) ∨ (P4 a.toNat b.toNat ∧ To 2 r u) := by
  rw [to_cons]
  have e : (∃ t, stepF 0 a.toNat = some t ∧ To t (b :: r) u) ↔ ∃ v, (∃ t, stepF 0 a.toNat = some t ∧ stepF t b.toNat = some v) ∧ To v r u := by
    constructor
    · rintro ⟨t, h1, h2⟩
      obtain ⟨v, h3, h4⟩ := (to_cons _ _ _ _).1 h2
      exact ⟨v, ⟨t, h1, h3⟩, h4⟩
    · rintro ⟨v, ⟨t, h1, h3⟩, h4⟩
      exact ⟨t, h1, (to_cons _ _ _ _).2 ⟨v, h3, h4⟩⟩
  rw [e]
  constructor
  · rintro ⟨v, h1, h2⟩
    rcases (two _ _ _ h).1 h1 with ⟨h3, h4, rfl⟩ | ⟨h3, rfl⟩ | ⟨h3, rfl⟩
    · exact .inl ⟨h3, h4, h2⟩
    · exact .inr (.inl ⟨h3, h2⟩)
    · exact .inr (.inr ⟨h3, h2⟩)
  · rintro (⟨h3, h4, h2⟩ | ⟨h3, h2⟩ | ⟨h3, h2⟩)
    · exact ⟨0, (two _ _ _ h).2 (.inl ⟨h3, h4, rfl⟩), h2⟩
    · exact ⟨1, (two _ _ _ h).2 (.inr (.inl ⟨h3, rfl⟩)), h2⟩
    · exact ⟨2, (two _ _ _ h).2 (.inr (.inr ⟨h3, rfl⟩)), h2⟩
theorem toA (a : UInt8) (r : List UInt8) (u : Nat) : To 1 (a :: r) u ↔ cont a.toNat ∧ To 0 r u := by
  rw [to_cons]
  simp only [step1, cont]
  constructor
  · rintro ⟨t, ⟨h1, h2, rfl⟩, h3⟩; exact ⟨⟨h1, h2⟩, h3⟩
  · rintro ⟨⟨h1, h2⟩, h3⟩; exact ⟨0, ⟨h1, h2, rfl⟩, h3⟩
theorem toB (a : UInt8) (r : List UInt8) (u : Nat) : To 2 (a :: r) u ↔ cont a.toNat ∧ To 1 r u := by
  rw [to_cons]
  simp only [step2, cont]
  constructor
  · rintro ⟨t, ⟨h1, h2, rfl⟩, h3⟩; exact ⟨⟨h1, h2⟩, h3⟩
  · rintro ⟨⟨h1, h2⟩, h3⟩; exact ⟨1, ⟨h1, h2, rfl⟩, h3⟩
/-- No sequence at the beginning. -/
theorem none_iff (l : List UInt8) : sizeR l = 0 ↔ isSeq 1 l = false ∧ isSeq 2 l = false ∧ isSeq 3 l = false ∧ isSeq 4 l = false := by
  unfold sizeR
  cases isSeq 1 l <;> cases isSeq 2 l <;> cases isSeq 3 l <;> cases isSeq 4 l <;> simp
theorem size_seq {l : List UInt8} (h : sizeR l ≠ 0) : isSeq (sizeR l) l = true := by
  unfold sizeR at h ⊢
  split
  · assumption
  · split
    · assumption
    · split
      · assumption
      · split
        · assumption
        · rename_i h1 h2 h3 h4
          rw [if_neg h1, if_neg h2, if_neg h3, if_neg h4] at h
          exact absurd rfl h
/-- A sequence goes through to state 0. -/
theorem seq_to {k : Nat} {l : List UInt8} (h : isSeq k l = true) : To 0 (l.take k) 0 := by
  match k, l, h with
  | 1, a :: r, h =>
    rw [seq1_iff] at h
    rw [List.take_succ_cons, List.take_zero, to1, step0]
    omega
  | 2, a :: b :: r, h =>
    rw [seq2_iff] at h
    rw [List.take_succ_cons, List.take_succ_cons, List.take_zero, to2 _ _ _ _ (by have := h.1.1; omega), to_nil]
    exact .inl ⟨h.1, h.2, rfl⟩
  | 3, a :: b :: c :: r, h =>
    rw [seq3_iff] at h
    have ha : 128 ≤ a.toNat := by have := h.1; unfold P3 at this; omega
    rw [List.take_succ_cons, List.take_succ_cons, List.take_succ_cons, List.take_zero, to2 _ _ _ _ ha, toA, to_nil]
    exact .inr (.inl ⟨h.1, h.2, rfl⟩)
  | 4, a :: b :: c :: d :: r, h =>
    rw [seq4_iff] at h
    have ha : 128 ≤ a.toNat := by have := h.1; unfold P4 at this; omega
    rw [List.take_succ_cons, List.take_succ_cons, List.take_succ_cons, List.take_succ_cons, List.take_zero, to2 _ _ _ _ ha]
    exact .inr (.inr ⟨h.1, (toB _ _ _).2 ⟨h.2.1, (toA _ _ _).2 ⟨h.2.2, (to_nil _ _).2 rfl⟩⟩⟩)
/-- Where none begins: at most three bytes go on, and never to state 0. -/
theorem none_to {l : List UInt8} (h : sizeR l = 0) {u : Nat} (ht : To 0 l u) : l = [] ∨ l.length ≤ 3 ∧ u ≠ 0 := by
  obtain ⟨h1, h2, h3, h4⟩ := (none_iff l).1 h
  match l with
  | [] => exact .inl rfl
  | [a] =>
    right
    refine ⟨by simp, fun hu => ?_⟩
    subst hu
    rw [to1, step0] at ht
    have : ¬ a.toNat < 128 := fun hh => by rw [(seq1_iff a []).2 hh] at h1; cases h1
    omega
  | [a, b] =>
    right
    have ha : 128 ≤ a.toNat := by
      have : ¬ a.toNat < 128 := fun hh => by rw [(seq1_iff a _).2 hh] at h1; cases h1
      omega
    refine ⟨by simp, fun hu => ?_⟩
    subst hu
    rw [to2 _ _ _ _ ha] at ht
    simp only [to_nil] at ht
    rcases ht with ⟨h5, h6, _⟩ | ⟨h5, h6⟩ | ⟨h5, h6⟩
    · rw [(seq2_iff a b _).2 ⟨h5, h6⟩] at h2; cases h2
    · cases h6
    · cases h6
  | [a, b, c] =>
    right
    have ha : 128 ≤ a.toNat := by
      have : ¬ a.toNat < 128 := fun hh => by rw [(seq1_iff a _).2 hh] at h1; cases h1
      omega
    refine ⟨by simp, fun hu => ?_⟩
    subst hu
    rw [to2 _ _ _ _ ha, toA, toB] at ht
    simp only [to_nil] at ht
    rcases ht with ⟨h5, h6, _⟩ | ⟨h5, h6, _⟩ | ⟨h5, h6, h7⟩
    · rw [(seq2_iff a b _).2 ⟨h5, h6⟩] at h2; cases h2
    · rw [(seq3_iff a b c _).2 ⟨h5, h6⟩] at h3; cases h3
    · cases h7
  | a :: b :: c :: d :: r =>
    exfalso
    have ha : 128 ≤ a.toNat := by
      have : ¬ a.toNat < 128 := fun hh => by rw [(seq1_iff a _).2 hh] at h1; cases h1
      omega
    rw [to2 _ _ _ _ ha, toA, toB, toA] at ht
    rcases ht with ⟨h5, h6, _⟩ | ⟨h5, h6, _⟩ | ⟨h5, h6, h7, _⟩
    · rw [(seq2_iff a b _).2 ⟨h5, h6⟩] at h2; cases h2
    · rw [(seq3_iff a b c _).2 ⟨h5, h6⟩] at h3; cases h3
    · rw [(seq4_iff a b c d _).2 ⟨h5, h6, h7⟩] at h4; cases h4
theorem to_append {st u v : Nat} {a b : List UInt8} (h1 : To st a u) (h2 : To u b v) : To st (a ++ b) v := by
  unfold To at h1 h2 ⊢
  rw [run_full a b st (by rw [h1]), h1, h2, List.length_append, Nat.add_comm]
theorem whole_split (l : List UInt8) : To 0 (l.take (wholeR l)) 0 ∧ sizeR (l.drop (wholeR l)) = 0 := by
  induction hn : l.length using Nat.strongRecOn generalizing l with
  | ind n ih =>
    subst hn
    rw [wholeR]
    split
    · rename_i h
      have hl := size_len l
      obtain ⟨h1, h2⟩ := ih (l.drop (sizeR l)).length (by rw [List.length_drop]; omega) (l.drop (sizeR l)) rfl
      have h3 := seq_to (size_seq (l := l) (by omega))
      refine ⟨?_, by rw [← List.drop_drop]; exact h2⟩
      rw [List.take_add]
      exact to_append h3 h1
    · refine ⟨by rw [List.take_zero, to_nil], by rw [List.drop_zero]; omega⟩
/-- What the table says is well formed is so by definition. -/
theorem valid_law (l : List UInt8) : validF l = decide (wholeR l = l.length) := by
  obtain ⟨h1, h2⟩ := whole_split l
  have hq := whole_len l
  obtain ⟨q, hqq⟩ : ∃ q, q = wholeR l := ⟨_, rfl⟩
  rw [← hqq] at h1 h2 hq ⊢
  clear hqq
  obtain ⟨p, hp⟩ : ∃ p, p = l.take q := ⟨_, rfl⟩
  obtain ⟨t, ht⟩ : ∃ t, t = l.drop q := ⟨_, rfl⟩
  have hl : l = p ++ t := by rw [hp, ht, List.take_append_drop]
  have hpl : p.length = q := by rw [hp, List.length_take]; omega
  rw [← hp] at h1
  rw [← ht] at h2
  have hr : runF 0 p = (0, q) := by rw [← hpl]; exact h1
  have hrun : runF 0 l = ((runF 0 t).1, (runF 0 t).2 + q) := by rw [hl, run_full p t 0 (by rw [hr, hpl]), hr, hpl]
  have hll : l.length = q + t.length := by rw [hl, List.length_append, hpl]
  have hfull : (runF 0 t).2 = t.length → t = [] ∨ (runF 0 t).1 ≠ 0 := fun he => by
    rcases none_to h2 (u := (runF 0 t).1) (by unfold To; rw [← he]) with h | h
    · exact .inl h
    · exact .inr h.2
  unfold validF
  rw [hrun, Bool.eq_iff_iff, decide_eq_true_iff, decide_eq_true_iff]
  simp only
  constructor
  · rintro ⟨h3, h4⟩
    rcases hfull (by omega) with h | h
    · rw [h] at hll; simpa using hll.symm
    · exact absurd h4 h
  · intro h3
    have : t = [] := by rw [← List.length_eq_zero_iff]; omega
    subst this
    simp [runF]
    omega
end Go.Proofs.YtgiemhooeoakmaaDoor

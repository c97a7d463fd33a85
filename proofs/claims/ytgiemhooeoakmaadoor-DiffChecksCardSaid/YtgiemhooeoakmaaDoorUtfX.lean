/- Layer 2: how a text in pieces is told: plain lists. -/
import Derived.Test.YtgiemhooeoakmaaDoorUtfA
import Derived.Lib.Strings
namespace Go.Proofs.YtgiemhooeoakmaaDoor
open Go.RowKit
set_option linter.unusedVariables false
set_option linter.unusedSimpArgs false

theorem ext_list (s : ByteArray) (a b : Nat) : (s.extract a b).data.toList = (s.data.toList.drop a).take (b - a) := by rw [← ByteArray.toList_eq, Lib.extract_toList]
theorem run_short : ∀ (a b : List UInt8) (st : Nat), (runF st a).2 < a.length → runF st (a ++ b) = runF st a
  | [], b, st, h => by simp [runF] at h
  | x :: a, b, st, h => by
    rw [List.cons_append]
    unfold runF at h ⊢
    cases hs : stepF st x.toNat with
    | none => rfl
    | some t =>
      rw [hs] at h
      have := run_short a b t (by simpa using h)
      simp only [this]
theorem run_full : ∀ (a b : List UInt8) (st : Nat), (runF st a).2 = a.length → runF st (a ++ b) = ((runF (runF st a).1 b).1, (runF (runF st a).1 b).2 + a.length)
  | [], b, st, h => by simp [runF]
  | x :: a, b, st, h => by
    rw [List.cons_append]
    cases hs : stepF st x.toNat with
    | none =>
      unfold runF at h
      rw [hs] at h
      simp at h
    | some t =>
      have h' : (runF t a).2 = a.length := by
        unfold runF at h
        rw [hs] at h
        simpa using h
      have := run_full a b t h'
      rw [show runF st (x :: (a ++ b)) = ((runF t (a ++ b)).1, (runF t (a ++ b)).2 + 1) by rw [runF, hs]]
      rw [show runF st (x :: a) = ((runF t a).1, (runF t a).2 + 1) by rw [runF, hs]]
      rw [this]
      simp [Nat.add_assoc]
theorem valid_run {a : List UInt8} (h : validF a = true) : runF 0 a = (0, a.length) := by
  unfold validF at h
  have := of_decide_eq_true h
  ext <;> simp [this]
theorem valid_append {a : List UInt8} (b : List UInt8) (h : validF a = true) : validF (a ++ b) = validF b := by
  have hr := valid_run h
  unfold validF
  rw [run_full a b 0 (by rw [hr]), hr, List.length_append]
  rw [Bool.eq_iff_iff, decide_eq_true_iff, decide_eq_true_iff]
  simp only
  constructor
  · rintro ⟨h1, h2⟩; exact ⟨by omega, h2⟩
  · rintro ⟨h1, h2⟩; exact ⟨by omega, h2⟩
theorem valid_one (c : UInt8) : validF [c] = decide (c.toNat < 128) := by
  have h : ∀ n : Fin 256, validF [UInt8.ofNat n.1] = decide (n.1 < 128) := by decide +kernel
  have := h ⟨c.toNat, c.toNat_lt⟩
  simpa using this
theorem long_shift : ∀ (l : List UInt8) (st i w n : Nat), longF st (i + n) (w + n) l = longF st i w l + n
  | [], st, i, w, n => rfl
  | b :: r, st, i, w, n => by
    unfold longF
    cases h : stepF st b.toNat with
    | none => rfl
    | some t =>
      simp only
      split
      · rw [show i + n + 1 = i + 1 + n by omega, long_shift r t (i + 1) (i + 1) n]
      · rw [show i + n + 1 = i + 1 + n by omega, long_shift r t (i + 1) w n]
theorem long_full : ∀ (a b : List UInt8) (st i w : Nat), (runF st a).2 = a.length → (runF st a).1 = 0 → (a = [] → w = i) → longF st i w (a ++ b) = longF 0 (i + a.length) (i + a.length) b
  | [], b, st, i, w, h1, h2, h3 => by
    obtain rfl : st = 0 := by simpa [runF] using h2
    rw [h3 rfl]
    rfl
  | x :: a, b, st, i, w, h1, h2, h3 => by
    cases hs : stepF st x.toNat with
    | none =>
      unfold runF at h1
      rw [hs] at h1
      simp at h1
    | some t =>
      have h1' : (runF t a).2 = a.length := by
        unfold runF at h1
        rw [hs] at h1
        simpa using h1
      have h2' : (runF t a).1 = 0 := by
        unfold runF at h2
        rw [hs] at h2
        simpa using h2
      rw [List.cons_append, longF, hs]
      simp only
      rw [long_full a b t (i + 1) _ h1' h2' (fun ha => by
        subst ha
        have : t = 0 := by simpa [runF] using h2'
        rw [if_pos this])]
      rw [List.length_cons, show i + (a.length + 1) = i + 1 + a.length by omega]
theorem long_append {a : List UInt8} (b : List UInt8) (h : validF a = true) : longF 0 0 0 (a ++ b) = a.length + longF 0 0 0 b := by
  have hr := valid_run h
  rw [long_full a b 0 0 0 (by rw [hr]) (by rw [hr]) (fun _ => rfl)]
  have := long_shift b 0 0 0 a.length
  simp only [Nat.zero_add] at this ⊢
  omega
theorem long_le : ∀ (l : List UInt8) (st i w : Nat), w ≤ i → longF st i w l ≤ i + l.length
  | [], st, i, w, h => by simpa [longF] using h
  | b :: r, st, i, w, h => by
    unfold longF
    cases hs : stepF st b.toNat with
    | none => simp; omega
    | some t =>
      simp only
      have := long_le r t (i + 1) (if t = 0 then i + 1 else w) (by split <;> omega)
      simp; omega
end Go.Proofs.YtgiemhooeoakmaaDoor

/- Layer 15: names and their numbers: the map as a datum. -/
import Derived.Test.YtgiemhooeoakmaaDoorTabP
import Derived.Maps.OwnSet
namespace Go.Proofs.YtgiemhooeoakmaaDoor
open Go.RowKit Go.ChangeShapes Go.WideShapes
set_option linter.unusedVariables false
set_option linter.unusedSimpArgs false

def keyB (s : ByteArray) : Lit := .string s.data.toList
theorem keyB_inj {a b : ByteArray} (h : keyB a = keyB b) : a = b := by
  injection h with h
  exact ByteArray.ext (Array.toList_inj.1 h)
/-- The numbers of the first k names. -/
def headD (names : Row) : Nat → DataW Unit
  | 0 => .map []
  | k + 1 => (headD names k).put (keyB (names.getD k ⟨#[]⟩)) (.lit (.int .i64 k))
theorem headD_map (names : Row) : ∀ k, Maps.IsMap (headD names k)
  | 0 => ⟨[], rfl⟩
  | k + 1 => by
    obtain ⟨es, h⟩ := headD_map names k
    rw [headD, h]
    exact ⟨_, rfl⟩
/-- A name's number; -1: there is none. -/
def posF : Nat → Row → ByteArray → Int
  | _, [], _ => -1
  | j, a :: r, s => if a = s then j else posF (j + 1) r s
instance decMem (s : ByteArray) (l : Row) : Decidable (s ∈ l) := decidable_of_iff (l.any (fun a => decide (a = s)) = true) (by simp)
theorem posF_snoc : ∀ (l : Row) (j : Nat) (a s : ByteArray), posF j (l ++ [a]) s = if s ∈ l then posF j l s else if a = s then (j + l.length : Nat) else -1
  | [], j, a, s => by simp [posF]
  | b :: l, j, a, s => by
    rw [List.cons_append, posF, posF, posF_snoc l (j + 1) a s]
    by_cases h : b = s
    · simp [h]
    · have h' : ¬ s = b := fun e => h e.symm
      simp only [if_neg h, List.mem_cons, h', false_or, List.length_cons]
      rw [show j + 1 + l.length = j + (l.length + 1) by omega]
theorem posF_none {l : Row} {s : ByteArray} (h : s ∉ l) : ∀ j, posF j l s = -1 := by
  induction l with
  | nil => intro j; rfl
  | cons a l ih =>
    intro j
    rw [posF, if_neg (fun e => h (by simp [e])), ih (fun hh => h (by simp [hh]))]
theorem posF_some : ∀ {l : Row} {s : ByteArray}, s ∈ l → ∀ j : Nat, (j : Int) ≤ posF j l s ∧ posF j l s < j + l.length
  | a :: l, s, h, j => by
    rw [posF]
    split
    · simp; omega
    · rename_i hne
      have hm : s ∈ l := by
        rcases List.mem_cons.1 h with e | e
        · exact absurd e.symm hne
        · exact e
      have := posF_some hm (j + 1)
      simp
      omega
theorem key_isKey (s : ByteArray) : WideAt.IsKeyLit (keyB s) := by
  unfold keyB
  first | exact trivial | simp [WideAt.IsKeyLit]
theorem headD_has (names : Row) (s : ByteArray) : ∀ k, k ≤ names.length → Maps.has (headD names k) (keyB s) = decide (s ∈ names.take k)
  | 0, _ => by simp [headD, Maps.has]
  | k + 1, h => by
    have hk : k < names.length := by omega
    have ht := List.take_succ_eq_append_getElem hk
    rw [headD, List.getD_eq_getElem?_getD, List.getElem?_eq_getElem hk]
    simp only [Option.getD_some]
    by_cases hs : s = names[k]
    · rw [hs, Maps.has_put_same (headD_map names k) (key_isKey _)]
      symm
      rw [decide_eq_true_iff, ht]
      exact List.mem_append_right _ (List.mem_singleton.2 rfl)
    · rw [Maps.has_put_other (fun e => hs (keyB_inj e)), headD_has names s k (by omega)]
      rw [Bool.eq_iff_iff, decide_eq_true_iff, decide_eq_true_iff, ht, List.mem_append, List.mem_singleton]
      exact ⟨.inl, fun h => h.resolve_right hs⟩
theorem headD_at (names : Row) (s : ByteArray) : ∀ k, k ≤ names.length → (names.take k).Nodup → (headD names k).atKey (keyB s) (.lit (.int .i64 0)) = .lit (.int .i64 (max (posF 0 (names.take k) s) 0))
  | 0, _, _ => by simp [headD, posF, DataW.atKey]; decide
  | k + 1, h, hn => by
    have hk : k < names.length := by omega
    rw [List.take_succ_eq_append_getElem hk] at hn ⊢
    rw [headD, List.getD_eq_getElem?_getD, List.getElem?_eq_getElem hk, posF_snoc]
    simp only [Option.getD_some]
    have hn1 := (List.nodup_append.1 hn).1
    by_cases hs : s = names[k]
    · have hni : s ∉ names.take k := by
        intro hm
        have := (List.nodup_append.1 hn).2.2 s hm names[k] (by simp)
        exact this hs
      rw [if_neg hni, if_pos hs.symm, ← hs, Maps.atKey_put_same (headD_map names k) (key_isKey _), List.length_take]
      congr 2
      omega
    · rw [Maps.atKey_put_other (fun e => hs (keyB_inj e)), headD_at names s k (by omega) hn1]
      by_cases hm : s ∈ names.take k
      · rw [if_pos hm]
      · rw [if_neg hm, if_neg (fun e => hs e.symm), posF_none hm]
end Go.Proofs.YtgiemhooeoakmaaDoor

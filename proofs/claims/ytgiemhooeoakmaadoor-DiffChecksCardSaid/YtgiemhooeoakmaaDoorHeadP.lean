/- Layer 15, plain: numbers of names. -/
import Derived.Test.YtgiemhooeoakmaaDoorHeadO
namespace Go.Proofs.YtgiemhooeoakmaaDoor
open Go.RowKit Go.ChangeShapes Go.WideShapes
set_option linter.unusedVariables false
set_option linter.unusedSimpArgs false

/-- A name's number, or 0. -/
def atC (names : Row) (s : ByteArray) : Nat := (posF 0 names s).toNat
theorem atC_int (names : Row) (s : ByteArray) : max (posF 0 names s) 0 = (atC names s : Int) := by unfold atC; omega
theorem posF_in {names : Row} {s : ByteArray} (h : s ∈ names) : posF 0 names s = (atC names s : Int) := by
  have := posF_some h 0
  unfold atC
  omega
theorem atC_lt {names : Row} {s : ByteArray} (h : s ∈ names) : atC names s < names.length := by
  have := posF_some h 0
  unfold atC
  omega
/-- The first of some that are no names, so many being behind. -/
def misF (names : Row) : Nat → Row → Nat
  | j, [] => j
  | j, s :: r => if s ∈ names then misF names (j + 1) r else j
def allIn (names want : Row) : Bool := want.all fun s => decide (s ∈ names)
def numsF (names want : Row) : List Int := want.map fun s => (atC names s : Int)
/-- What Bind tells: the numbers, the place, the error's number. -/
def bindC (names want : Row) : List Int × Nat × Nat :=
  if allIn names want then (numsF names want, want.length, 0) else ([], misF names 0 want, 16)
theorem allIn_snoc (names want : Row) {k : Nat} (hk : k < want.length) : allIn names (want.take (k + 1)) = (allIn names (want.take k) && decide (want[k] ∈ names)) := by
  unfold allIn
  rw [List.take_succ_eq_append_getElem hk, List.all_append]
  simp
theorem allIn_mem {names want : Row} (h : allIn names want = true) {s : ByteArray} (hs : s ∈ want) : s ∈ names := by
  have := List.all_eq_true.1 h s hs
  exact of_decide_eq_true this
theorem numsF_snoc (names want : Row) {k : Nat} (hk : k < want.length) : numsF names (want.take (k + 1)) = numsF names (want.take k) ++ [(atC names want[k] : Int)] := by
  unfold numsF
  rw [List.take_succ_eq_append_getElem hk, List.map_append]
  rfl
theorem posF_at : ∀ {l : Row} {s : ByteArray}, s ∈ l → ∀ j : Nat, l[(posF j l s - j).toNat]? = some s
  | a :: l, s, h, j => by
    rw [posF]
    split
    · rename_i he
      rw [Int.sub_self]
      simp [he]
    · rename_i hne
      have hm : s ∈ l := by
        rcases List.mem_cons.1 h with e | e
        · exact absurd e.symm hne
        · exact e
      have h1 := posF_at hm (j + 1)
      have h2 := posF_some hm (j + 1)
      rw [show (posF (j + 1) l s - (j : Int)).toNat = (posF (j + 1) l s - ((j + 1 : Nat) : Int)).toNat + 1 by omega, List.getElem?_cons_succ]
      exact h1
theorem atC_get {l : Row} {s : ByteArray} (h : s ∈ l) : l[atC l s]? = some s := by
  have h1 := posF_at h 0
  rw [show (posF 0 l s - ((0 : Nat) : Int)).toNat = atC l s by unfold atC; omega] at h1
  exact h1
theorem atC_of {l : Row} (hn : l.Nodup) {k : Nat} (hk : k < l.length) : atC l l[k] = k := by
  have hm : l[k] ∈ l := List.getElem_mem hk
  have h1 := atC_get hm
  have hlt := atC_lt hm
  rw [List.getElem?_eq_getElem hlt] at h1
  injection h1 with h1
  have hp := List.pairwise_iff_getElem.1 hn
  rcases Nat.lt_trichotomy (atC l l[k]) k with h | h | h
  · exact absurd h1 (hp _ _ hlt hk h)
  · exact h
  · exact absurd h1.symm (hp _ _ hk hlt h)
theorem nums_mem {names cn : Row} (hn : names.Nodup) (hc : allIn names cn = true) {k : Nat} (hk : k < names.length) : ((k : Int) ∈ numsF names cn) ↔ names[k] ∈ cn := by
  unfold numsF
  constructor
  · intro h
    obtain ⟨s, hs, he⟩ := List.mem_map.1 h
    have hin := allIn_mem hc hs
    have hg := atC_get hin
    have he2 : atC names s = k := by omega
    rw [he2, List.getElem?_eq_getElem hk] at hg
    injection hg with hg
    rw [hg]
    exact hs
  · intro h
    exact List.mem_map.2 ⟨names[k], h, by rw [atC_of hn hk]⟩
end Go.Proofs.YtgiemhooeoakmaaDoor

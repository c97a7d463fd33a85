/- Layer 18: Names, Check; the reference's; the law's Ref. -/
import Derived.Test.YtgiemhooeoakmaaDoorCol
import Derived.Test.YtgiemhooeoakmaaDoorHeadO
import Derived.Test.YtgiemhooeoakmaaDoorHeadB
import Derived.WalkMore
namespace Go.Proofs.YtgiemhooeoakmaaDoor
open Go.RowKit Go.ChangeShapes Go.WideShapes
set_option linter.unusedVariables false
set_option linter.unusedSimpArgs false

set_option maxHeartbeats 1000000 in
theorem schNames_any (v : Value) (l : List Col) (w : World) (h : RdC w w.heap.size v l) (hl : l.length ≤ 100000) :
    Calls Tryd.prog 111 #[v] w fun e w' => ∃ o, e = .returned o ∧ Own w' w.heap.size 9 1 o l.length (strV (namesC l)) ∧ Below w.heap.size w w' := by
  refine cps fun R HR => ?_
  obtain ⟨i0, hi0, hz0, hz1, hz2⟩ := info_parts str_info
  have h0 := h
  obtain ⟨A, c, rfl, -⟩ := h.is
  clear h
  go_enter Tryd.func111, Tryd.ntmps111
  go_wp2
  go_loopw [3, 8] (fun o i wr => ∃ k : Nat, k ≤ l.length ∧ i = .int .i64 k ∧ Own wr w.heap.size 9 1 o k (strV (namesC (l.take k))) ∧ Below w.heap.size w wr) (fun _ i _ => l.length - (intOf i).toNat)
  case atStart => exact ⟨0, Nat.zero_le _, rfl, Own.nil_ _ _ _ _, Below.refl _ _⟩
  case round =>
    obtain ⟨k, hk, rfl, hO, hB⟩ := hrel
    by_cases hlt : k < l.length
    · obtain ⟨a, c3, hv, q0, q1, q2⟩ := RdC.at (h0.below hB) hlt
      injection hv with hA _ hcc
      subst hA
      subst hcc
      have hs1 := namesC_snoc hlt
      obtain ⟨x, hx⟩ : ∃ x, x = l[k] := ⟨_, rfl⟩
      rw [← hx] at q0 q1 q2 hs1
      have S1 := Lib.hid hs1
      clear hx hs1
      have dk : decide ((k : Int) < l.length) = true := decide_eq_true (by omega)
      obtain ⟨wb, hwb⟩ : ∃ wb : World, wb = wr := ⟨_, rfl⟩
      have hOw := hO.below ((Below.refl wr.heap.size wr).alloc (Nat.le_refl _) (.cells #[.string x.name, .int .i64 x.kind, .bool x.null] 99)) (Nat.le_refl _)
      have hBw := hB.alloc hB.size (.cells #[.string x.name, .int .i64 x.kind, .bool x.null] 99)
      clear hwb
      go_wp2_with (at_builtin; refine wpList_push rfl _ _ _ rfl w.heap.size 9 i0 _ 16 Tryd.underlying26 hi0 hz0 hz1 hz2 rfl (by omega) u3 k _ (.string x.name) rfl hOw (by simp [Act.eval]) rfl (by omega) hBw.size ?_; intro v5 w5 hown5 hg5 hat5)
      exact ⟨⟨k + 1, by omega, by go_num, by rw [S1.out, strV_snoc]; exact hown5, below_grown hBw hg5 (fun g hg => (hO.lt g hg).1) hBw.size⟩, by simp [intOf]; omega⟩
    · obtain rfl : k = l.length := by omega
      rw [List.take_length] at hO
      clear hlt
      go_wp2
      exact HR.out _ _ ⟨_, rfl, hO, hB⟩
def kindB (c : Col) : Bool := decide (c.kind < 1) || decide (3 < c.kind)
/-- The first column of no kind, so many being behind; -1: there is none. -/
def idxK : Nat → List Col → Int
  | _, [] => -1
  | j, c :: r => if kindB c then j else idxK (j + 1) r
theorem idxK_ge : ∀ (r : List Col) (j : Nat), idxK j r = -1 ∨ (j : Int) ≤ idxK j r
  | [], j => .inl rfl
  | c :: r, j => by
    rw [idxK]
    split
    · right; omega
    · rcases idxK_ge r (j + 1) with h | h
      · exact .inl h
      · right; omega
theorem idxK_lt : ∀ (r : List Col) (j : Nat), idxK j r < j + r.length
  | [], j => by show (-1 : Int) < _; simp; omega
  | c :: r, j => by
    rw [idxK]
    split
    · simp; omega
    · have := idxK_lt r (j + 1)
      simp
      omega
theorem kind1_any (n : ByteArray) (k : Int) (b : Bool) (w : World) :
    Calls Tryd.prog 113 #[.agg #[.string n, .int .i64 k, .bool b]] w fun e w' => e = .returned (.bool (decide (k < 1) || decide (3 < k))) ∧ Below w.heap.size w w' := by
  refine cps fun R HR => ?_
  by_cases h1 : k < 1
  · have d1 : decide (k < 1) = true := decide_eq_true h1
    rw [d1] at HR
    clear h1
    go_enter Tryd.func113, Tryd.ntmps113
    go_wp2
    exact HR.out _ _ ⟨rfl, (Below.refl _ _).alloc (Nat.le_refl _) _⟩
  · have d1 : decide (k < 1) = false := decide_eq_false h1
    rw [d1] at HR
    clear h1
    go_enter Tryd.func113, Tryd.ntmps113
    go_wp2
    exact HR.out _ _ ⟨rfl, (Below.refl _ _).alloc (Nat.le_refl _) _⟩
theorem idxKind_any (v : Value) (l : List Col) (w : World) (h : RdC w w.heap.size v l) :
    Calls Tryd.prog 112 #[v, .func (.func 113) #[] #[]] w fun e w' => e = .returned (.int .i64 (idxK 0 l)) ∧ Below w.heap.size w w' := by
  refine cps fun R HR => ?_
  have h0 := h
  obtain ⟨A, c, rfl, -⟩ := h.is
  have hfew := RdF.few h0
  clear h
  go_enter Tryd.func112, Tryd.ntmps112
  go_wp2
  go_loopw [8] (fun i wr => ∃ k : Nat, k ≤ l.length ∧ i = .int .i64 k ∧ idxK k (l.drop k) = idxK 0 l ∧ Below w.heap.size w wr) (fun i _ => l.length - (intOf i).toNat)
  case atStart => exact ⟨0, Nat.zero_le _, rfl, rfl, Below.refl _ _⟩
  case round =>
    obtain ⟨k, hk, rfl, hN, hB⟩ := hrel
    have HN := Lib.hid hN; clear hN
    by_cases hlt : k < l.length
    · obtain ⟨a, c3, hv, q0, q1, q2⟩ := RdC.at (h0.below hB) hlt
      injection hv with hA _ hcc
      subst hA
      subst hcc
      have hd : l.drop k = l[k] :: l.drop (k + 1) := List.drop_eq_getElem_cons hlt
      obtain ⟨x, hx⟩ : ∃ x, x = l[k] := ⟨_, rfl⟩
      rw [← hx] at q0 q1 q2 hd
      have HD := Lib.hid hd
      clear hx hd
      have dk : decide ((k : Int) < l.length) = true := decide_eq_true (by omega)
      go_wp2_with fail
      refine (kind1_any x.name x.kind x.null _).mono ?_
      rintro e w1 ⟨rfl, b1⟩
      have hB1 := hB.trans (b1.mono hB.size)
      have hkb : kindB x = (decide (x.kind < 1) || decide (3 < x.kind)) := rfl
      rw [← hkb]
      obtain ⟨kb, hkb2⟩ : ∃ kb, kb = kindB x := ⟨_, rfl⟩
      rw [← hkb2]
      have HKB := Lib.hid hkb2
      clear hkb hkb2
      cases kb
      · have HV := Lib.hid (show idxK (k + 1) (l.drop (k + 1)) = idxK 0 l by rw [← HN.out, HD.out, idxK, ← HKB.out, if_neg (by simp)])
        go_wp2
        exact ⟨⟨k + 1, by omega, by go_num, HV.out, hB1⟩, by simp [intOf]; omega⟩
      · have HV := Lib.hid (show idxK 0 l = k by rw [← HN.out, HD.out, idxK, ← HKB.out, if_pos rfl])
        go_wp2
        exact HR.out _ _ ⟨by rw [HV.out]; try rfl, hB1⟩
    · have hd : l.drop k = [] := List.drop_of_length_le (by omega)
      have HV := Lib.hid (show idxK 0 l = -1 by rw [← HN.out, hd, idxK])
      clear hd
      go_wp2
      exact HR.out _ _ ⟨by rw [HV.out]; rfl, hB⟩
/-- The first column that may not be, so many being behind; the error's number. -/
def chkF : Nat → Row → List Col → Nat × Nat
  | j, _, [] => (j, 0)
  | j, seen, c :: r => if kindB c then (j, 21) else if validF c.name.data.toList = false then (j, 14) else if c.name ∈ seen then (j, 15) else chkF (j + 1) (seen ++ [c.name]) r
def chkC (l : List Col) : Nat × Nat := if l = [] then (0, 13) else chkF 0 [] l
theorem newF_ge : ∀ (r : Row) (j : Nat) (seen : Row), j ≤ (newF j seen r).1
  | [], j, seen => Nat.le_refl _
  | c :: r, j, seen => by
    rw [newF]
    split
    · exact Nat.le_refl _
    · split
      · exact Nat.le_refl _
      · have := newF_ge r (j + 1) (seen ++ [c])
        omega
/-- What the program has of both. -/
def chkP (N : Nat × Nat) (K : Int) : Nat × Nat := if 0 ≤ K ∧ (N.2 = 0 ∨ K ≤ N.1) then (K.toNat, 21) else N
theorem chk_law : ∀ (r : List Col) (j : Nat) (seen : Row), chkF j seen r = chkP (newF j seen (namesC r)) (idxK j r)
  | [], j, seen => by
    show (j, 0) = chkP (j, 0) (-1)
    unfold chkP
    rw [if_neg (by omega)]
  | c :: r, j, seen => by
    have hn : namesC (c :: r) = c.name :: namesC r := rfl
    have hg := newF_ge (namesC (c :: r)) j seen
    rw [chkF, idxK]
    by_cases hk : kindB c = true
    · rw [if_pos hk, if_pos hk]
      unfold chkP
      rw [if_pos ⟨by omega, .inr (by omega)⟩]
      rfl
    · rw [if_neg hk, if_neg hk, hn, newF]
      have hi := idxK_ge r (j + 1)
      by_cases hv : validF c.name.data.toList = false
      · rw [if_pos hv, if_pos hv]
        unfold chkP
        rw [if_neg (by show ¬ (_ ∧ (14 = 0 ∨ _ ≤ (j : Int))); omega)]
      · rw [if_neg hv, if_neg hv]
        by_cases hs : c.name ∈ seen
        · rw [if_pos hs, if_pos hs]
          unfold chkP
          rw [if_neg (by show ¬ (_ ∧ (15 = 0 ∨ _ ≤ (j : Int))); omega)]
        · rw [if_neg hs, if_neg hs]
          exact chk_law r (j + 1) (seen ++ [c.name])
theorem chkP_law (l : List Col) : chkC l = chkP (newC (namesC l)) (idxK 0 l) := by
  unfold chkC newC
  by_cases h : l = []
  · subst h
    rfl
  · rw [if_neg h, if_neg (by unfold namesC; simpa using h)]
    exact chk_law l 0 []
set_option maxHeartbeats 1000000 in
theorem schCheck_any (v : Value) (l : List Col) (w : World) (h : RdC w w.heap.size v l) (hl : l.length ≤ 100000) (hs : ∀ c ∈ l, c.name.size ≤ 100000) (hT : Tab w) :
    Calls Tryd.prog 78 #[v] w fun e w' => e = .returned (.tuple #[.int .i64 (chkC l).1, .int .i64 (chkC l).2]) ∧ Below w.heap.size w w' := by
  refine cps fun R HR => ?_
  have hs2 : ∀ s ∈ namesC l, s.size ≤ 100000 := fun s hs' => by
    obtain ⟨c, hc, rfl⟩ := List.mem_map.1 hs'
    exact hs c hc
  have HS := Lib.hid hs2; have HT := Lib.hid hT
  have HL := Lib.hid (chkP_law l)
  have HNL := Lib.hid (namesC_len l)
  clear hs hs2 hT
  go_enter Tryd.func78, Tryd.ntmps78
  go_wp2_with fail
  refine (schNames_any _ l _ h hl).mono ?_
  rintro e w1 ⟨o, rfl, ho, b1⟩
  go_wp2_with fail
  refine (new_any _ (namesC l) _ (RdS.of_own ho) (by rw [HNL.out]; exact hl) HS.out (HT.out.below b1)).mono ?_
  rintro e w2 ⟨u, rfl, -, -, b2⟩
  have bw2 := b1.trans (b2.mono b1.size)
  obtain ⟨N, hN⟩ : ∃ N, N = newC (namesC l) := ⟨_, rfl⟩
  have HN := Lib.hid hN
  rw [← hN]
  clear hN
  go_wp2_with fail
  refine (idxKind_any _ l _ (h.next bw2)).mono ?_
  rintro e w3 ⟨rfl, b3⟩
  have bw3 := bw2.trans (b3.mono bw2.size)
  obtain ⟨K, hK⟩ : ∃ K, K = idxK 0 l := ⟨_, rfl⟩
  have HK := Lib.hid hK
  rw [← hK]
  clear hK
  have HC := Lib.hid (show chkC l = chkP N K by rw [HL.out, HN.out, HK.out])
  rw [HC.out] at HR
  obtain ⟨n, e⟩ := N
  by_cases h0 : 0 ≤ K
  · obtain ⟨m, rfl⟩ := Int.eq_ofNat_of_zero_le h0
    have d0 : decide ((0 : Int) ≤ (m : Int)) = true := decide_eq_true h0
    by_cases he : e = 0
    · subst he
      have hc : chkP (n, 0) (m : Int) = (m, 21) := by unfold chkP; rw [if_pos ⟨h0, .inl rfl⟩]; rfl
      rw [hc] at HR
      clear h0 hc
      go_wp2
      exact HR.out _ _ ⟨rfl, bw3⟩
    · have d1 : ((e : Int) == 0) = false := by rw [beq_eq_false_iff_ne]; omega
      by_cases hle : m ≤ n
      · have hc : chkP (n, e) (m : Int) = (m, 21) := by unfold chkP; rw [if_pos ⟨h0, .inr (by show (m : Int) ≤ (n : Int); omega)⟩]; rfl
        rw [hc] at HR
        have d2 : decide (m ≤ n) = true := decide_eq_true hle
        clear h0 hc hle he
        go_wp2
        exact HR.out _ _ ⟨rfl, bw3⟩
      · have hc : chkP (n, e) (m : Int) = (n, e) := by unfold chkP; rw [if_neg (by show ¬ (_ ∧ (e = 0 ∨ (m : Int) ≤ (n : Int))); omega)]
        rw [hc] at HR
        have d2 : decide (m ≤ n) = false := decide_eq_false hle
        clear h0 hc hle he
        go_wp2
        exact HR.out _ _ ⟨rfl, bw3⟩
  · have hc : chkP (n, e) K = (n, e) := by unfold chkP; rw [if_neg (fun hh => h0 hh.1)]
    rw [hc] at HR
    have d0 : decide ((0 : Int) ≤ K) = false := decide_eq_false h0
    clear h0 hc
    go_wp2
    exact HR.out _ _ ⟨rfl, bw3⟩
end Go.Proofs.YtgiemhooeoakmaaDoor

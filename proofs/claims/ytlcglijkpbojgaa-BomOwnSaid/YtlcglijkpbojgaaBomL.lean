/- Layer 3, plain: what the stripper hands on, piece by piece, against the reference's Strip, Held, Told of all of it. -/
import Derived.Test.YtlcglijkpbojgaaBomB
import Derived.Lib.Strings
namespace Go.Proofs.Ytlcglijkpbojgaa
open Go.RowKit
set_option linter.unusedVariables false
set_option linter.unusedSimpArgs false

theorem hasN_iff (s : ByteArray) (n : Nat) (hn : n ≤ 3) : hasN s n ↔ markL.take n <+: s.data.toList := by
  have hz : s.size = s.data.toList.length := by rw [Array.length_toList]; rfl
  have hg : ∀ j (h : j < s.size), s.data.toList[j]? = some s[j] := fun j h => by
    rw [List.getElem?_eq_getElem (by omega), Array.getElem_toList]; rfl
  unfold hasN hasTo
  generalize s.data.toList = l at *
  have ml : (markL.take n).length = n := by simp [markL]; omega
  have mk : ∀ j, j < n → ∃ c, markL[j]? = some c ∧ (c.toNat : Int) = markAt j := fun j hj => by
    obtain rfl | rfl | rfl : j = 0 ∨ j = 1 ∨ j = 2 := by omega
    · exact ⟨239, rfl, rfl⟩
    · exact ⟨187, rfl, rfl⟩
    · exact ⟨191, rfl, rfl⟩
  rw [List.prefix_iff_eq_take, ml]
  constructor
  · rintro ⟨h1, h2⟩
    apply List.ext_getElem?
    intro j
    by_cases hj : j < n
    · obtain ⟨c, hc, hm⟩ := mk j hj
      rw [List.getElem?_take_of_lt hj, List.getElem?_take_of_lt hj, hc, hg j (by omega)]
      have := h2 j (by omega) hj
      rw [← hm] at this
      exact congrArg some (UInt8.toNat_inj.1 (Int.ofNat.inj this)).symm
    · rw [List.getElem?_eq_none (by omega), List.getElem?_eq_none (by rw [List.length_take]; omega)]
  · intro h
    have hl := congrArg List.length h
    rw [ml, List.length_take] at hl
    refine ⟨by omega, fun j hj hjn => ?_⟩
    obtain ⟨c, hc, hm⟩ := mk j hjn
    have h2 : (markL.take n)[j]? = (l.take n)[j]? := by rw [h]
    rw [List.getElem?_take_of_lt hjn, List.getElem?_take_of_lt hjn, hc, hg j hj] at h2
    injection h2 with h2
    rw [← h2, hm]

theorem hasB3 (s : ByteArray) : hasB s 3 = true ↔ markL <+: s.data.toList := by
  rw [hasB_true, hasN_iff s 3 (Nat.le_refl _)]; rfl

theorem pre_has (s : ByteArray) : hasPre s markB = hasB s 3 := by
  have e1 : (s.extract 0 markB.size).toList = s.data.toList.take 3 := by rw [Lib.extract_toList]; rfl
  have e2 : markB.toList = [239, 187, 191] := by rw [ByteArray.toList_eq]; rfl
  have hz : s.size = s.data.toList.length := by rw [Array.length_toList]; rfl
  have hg : ∀ j (h : j < s.size), s.data.toList[j]? = some s[j] := fun j h => by
    rw [List.getElem?_eq_getElem (by omega), Array.getElem_toList]; rfl
  rw [Bool.eq_iff_iff, hasB_true]
  unfold hasPre hasN hasTo
  rw [e1, e2, Bool.and_eq_true, decide_eq_true_eq, beq_iff_eq, show markB.size = 3 from rfl]
  clear e1 e2
  generalize s.data.toList = l at *
  constructor
  · rintro ⟨h3, h⟩
    refine ⟨h3, fun j hj hj3 => ?_⟩
    have h2 : (l.take 3)[j]? = ([239, 187, 191] : List UInt8)[j]? := by rw [h]
    rw [List.getElem?_take_of_lt hj3, hg j hj] at h2
    obtain rfl | rfl | rfl : j = 0 ∨ j = 1 ∨ j = 2 := by omega
    all_goals (simp at h2; rw [h2]; rfl)
  · rintro ⟨h3, h⟩
    refine ⟨h3, ?_⟩
    have g : ∀ j (hj : j < s.size) (m : UInt8), j < 3 → (m.toNat : Int) = markAt j → l[j]? = some m := fun j hj m h3 hm => by
      rw [hg j hj]
      have := h j hj h3
      rw [← hm] at this
      exact congrArg some (UInt8.toNat_inj.1 (Int.ofNat.inj this))
    have g0 := g 0 (by omega) 239 (by omega) rfl
    have g1 := g 1 (by omega) 187 (by omega) rfl
    have g2 := g 2 (by omega) 191 (by omega) rfl
    match l with
    | [] => simp at g0
    | [_] => simp at g1
    | [_, _] => simp at g2
    | a :: b :: c :: r => simp at g0 g1 g2; simp [g0, g1, g2]


/-- What holds of the stripper when all was fed, and told was handed on. -/
def Inv (all : List UInt8) (st : BS) (told : List UInt8) : Prop :=
  (∃ h, st = ⟨h, false, false⟩ ∧ h ≤ 2 ∧ all = markL.take h ∧ told = []) ∨
  (st = ⟨0, true, true⟩ ∧ all = markL ++ told) ∨
  (st = ⟨0, true, false⟩ ∧ told = all ∧ ¬ markL <+: all ∧ ¬ all <+: markL)

theorem Inv.start : Inv [] ⟨0, false, false⟩ [] := .inl ⟨0, rfl, by omega, rfl, rfl⟩

theorem Inv.held {all told : List UInt8} {st : BS} (h : Inv all st told) : st.held ≤ 2 := by
  rcases h with ⟨h, rfl, h2, _⟩ | ⟨rfl, _⟩ | ⟨rfl, _⟩ <;> simp <;> omega

theorem Inv.le {all told : List UInt8} {st : BS} (h : Inv all st told) : told.length ≤ all.length := by
  rcases h with ⟨h, rfl, h2, _, rfl⟩ | ⟨rfl, rfl⟩ | ⟨rfl, rfl, _⟩ <;> simp

theorem feedL_over (s : BS) (hs : s.over = true) (b : List UInt8) : feedL s b = (b, s) := by
  cases b <;> simp [feedL, hs]

theorem not_prefix_append {a b : List UInt8} (h : ¬ a <+: b) (h' : ¬ b <+: a) (c : List UInt8) : ¬ a <+: b ++ c ∧ ¬ b ++ c <+: a := by
  constructor
  · intro h2
    rcases List.prefix_or_prefix_of_prefix h2 (List.prefix_append b c) with h3 | h3
    · exact h h3
    · exact h' h3
  · exact fun h2 => h' ((List.prefix_append b c).trans h2)

theorem Inv.feed (b : List UInt8) : ∀ {all told : List UInt8} {st : BS}, Inv all st told → Inv (all ++ b) (feedL st b).2 (told ++ (feedL st b).1) := by
  induction b with
  | nil => intro all told st h; simpa [feedL] using h
  | cons c r ih =>
    intro all told st h
    rcases h with ⟨h, rfl, h2, rfl, rfl⟩ | ⟨rfl, rfl⟩ | ⟨rfl, rfl, h1, h2⟩
    · by_cases hc : c = markL.getD h 0
      · have hne : ((c.toNat : Int) != ((markL.getD h 0).toNat : Int)) = false := by rw [hc]; simp
        rw [feedL_hit h false c r _ _ rfl rfl hne]
        rw [show markL.take h ++ c :: r = (markL.take h ++ [c]) ++ r by simp]
        have : Inv (markL.take h ++ [c]) (if h + 1 = 3 then (⟨0, true, true⟩ : BS) else ⟨h + 1, false, false⟩) [] := by
          obtain rfl | rfl | rfl : h = 0 ∨ h = 1 ∨ h = 2 := by omega
          · exact .inl ⟨1, rfl, by omega, by rw [hc]; rfl, rfl⟩
          · exact .inl ⟨2, rfl, by omega, by rw [hc]; rfl, rfl⟩
          · exact .inr (.inl ⟨rfl, by rw [hc]; rfl⟩)
        simpa using ih this
      · have hne : ((c.toNat : Int) != ((markL.getD h 0).toNat : Int)) = true := by
          rw [bne_iff_ne]
          intro e
          exact hc (UInt8.toNat_inj.1 (Int.ofNat.inj e))
        rw [feedL_miss h false c r _ rfl hne]
        refine .inr (.inr ⟨rfl, by simp, ?_, ?_⟩)
        all_goals
          intro hp
          rw [List.prefix_iff_eq_take] at hp
          have h3 := congrArg (fun l => l[h]?) hp
          obtain rfl | rfl | rfl : h = 0 ∨ h = 1 ∨ h = 2 := by omega
          all_goals
            simp [markL] at h3 hc
            first
              | exact hc h3.symm
              | exact hc h3
    · rw [feedL_over _ rfl]
      exact .inr (.inl ⟨rfl, by simp⟩)
    · rw [feedL_over _ rfl]
      obtain ⟨h3, h4⟩ := not_prefix_append h1 h2 (c :: r)
      exact .inr (.inr ⟨rfl, rfl, h3, h4⟩)

theorem BA_app (a b : ByteArray) : (a ++ b).data.toList = a.data.toList ++ b.data.toList := by rw [ByteArray.data_append, Array.toList_append]
theorem BA_ext {a b : ByteArray} (h : a.data.toList = b.data.toList) : a = b := by
  cases a; cases b; congr; exact Array.toList_inj.1 h

theorem Inv.ref {s told : ByteArray} {st : BS} (h : Inv s.data.toList st told.data.toList) :
    toldB s = told ∧ heldB s = st.held ∧ wasB s = (if st.had then 1 else 0) ∧ (stripB s).data.toList = told.data.toList ++ markL.take st.held := by
  have hz : s.size = s.data.toList.length := by rw [Array.length_toList]; rfl
  have hb2 : s.size ≤ 2 → (hasB s s.size = true ↔ markL.take s.size <+: s.data.toList) := fun h => by rw [hasB_true, hasN_iff s _ (by omega)]
  rcases h with ⟨h, rfl, h2, ha, ht⟩ | ⟨rfl, ha⟩ | ⟨rfl, ht, h1, h2⟩
  · have hl : s.size = h := by rw [hz, ha]; simp [markL]; try omega
    have h3 : hasB s 3 = false := by
      rw [Bool.eq_false_iff]; intro e
      have := (hasB_true.1 e).1
      omega
    have hb : hasB s s.size = true := (hb2 (by omega)).2 (by rw [hl, ha]; exact List.prefix_refl _)
    have hh : heldB s = h := by unfold heldB; rw [if_pos ⟨by omega, hb⟩, hl]
    refine ⟨?_, hh, by simp [wasB, h3], by simp [stripB, h3, ha, ht]⟩
    unfold toldB
    rw [hh]
    by_cases h0 : 0 < (h : Int)
    · rw [if_pos h0]; exact BA_ext (by rw [ht])
    · rw [if_neg h0]
      refine BA_ext ?_
      have : h = 0 := by omega
      simp [stripB, h3, ha, ht, this]
  · have h3 : hasB s 3 = true := (hasB3 s).2 (by rw [ha]; exact List.prefix_append _ _)
    have hn : 3 ≤ s.size := (hasB_true.1 h3).1
    have hh : heldB s = 0 := by unfold heldB; rw [if_neg (by omega)]
    have hs : (stripB s).data.toList = told.data.toList := by
      unfold stripB
      rw [if_pos h3, Lib.extract_data, ha, List.take_of_length_le (by rw [← ha, List.length_drop]; omega)]
      rfl
    refine ⟨?_, by rw [hh]; rfl, by simp [wasB, h3], by rw [hs]; simp⟩
    unfold toldB
    rw [hh, if_neg (by omega)]
    exact BA_ext hs
  · have h3 : hasB s 3 = false := by
      rw [Bool.eq_false_iff]; intro e
      exact h1 ((hasB3 s).1 e)
    have hh : heldB s = 0 := by
      unfold heldB
      rw [if_neg]
      rintro ⟨h4, h5⟩
      have := (hb2 h4).1 h5
      have h6 : markL.take s.size = s.data.toList := this.eq_of_length (by rw [List.length_take, ← hz]; simp [markL]; omega)
      exact h2 (by rw [← h6]; exact List.take_prefix _ _)
    refine ⟨?_, by rw [hh]; rfl, by simp [wasB, h3], by simp [stripB, h3, ht]⟩
    unfold toldB
    rw [hh, if_neg (by omega)]
    exact BA_ext (by simp [stripB, h3, ht])

end Go.Proofs.Ytlcglijkpbojgaa

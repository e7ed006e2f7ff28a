/-
  RefLaw: the lines of a text gathered one by one: plain words.
-/
import Derived.Test.YtenihlicjahjhaaLineLaw
set_option linter.unusedVariables false
set_option linter.unusedSimpArgs false
namespace Go.Proofs.Ytenihlicjahjhaa
open Go Go.RowKit Go.Proofs

theorem drop_feed (u t : List UInt8) (k : Nat) : (u ++ 10 :: t).drop (u.length + 1 + k) = t.drop k := by
  have e : u ++ 10 :: t = (u ++ [10]) ++ t := by simp
  have el : u.length + 1 + k = (u ++ [10]).length + k := by simp
  rw [e, el, List.drop_length_add_append]

theorem begAt_add : ∀ (c : Nat) (s : List UInt8), begAt (c + 1) s = begAt c s + begAt 1 (s.drop (begAt c s))
  | 0, s => by simp [begAt]
  | c + 1, s => by
    rcases split_line s with ⟨h, _⟩ | ⟨u, t, rfl, hu, hi⟩
    · rw [begAt_none_at h, begAt_none_at h, List.drop_length, begAt_nil]; rfl
    · rw [begAt_feed hi, begAt_feed hi, drop_feed, begAt_add c t]; omega

theorem nlines_drop : ∀ (c : Nat) (s : List UInt8), c ≤ nlines s → nlines s = c + nlines (s.drop (begAt c s))
  | 0, s, _ => by simp [begAt]
  | c + 1, s, h => by
    rcases split_line s with ⟨h1, hc⟩ | ⟨u, t, rfl, hu, hi⟩
    · rw [begAt_none_at h1, List.drop_length]
      have e : nlines s = if s = [] then 0 else 1 := nlines_none s hc
      have e0 : nlines ([] : List UInt8) = 0 := rfl
      rw [e] at h ⊢
      rw [e0]
      by_cases hs : s = []
      · rw [if_pos hs] at h; omega
      · rw [if_neg hs] at h ⊢; omega
    · rw [nlines_feed u t hu] at h ⊢
      rw [begAt_feed hi, drop_feed]
      have := nlines_drop c t (by omega)
      omega

/-- between two bytes: so many lines are gathered, none begun since has ended -/
structure AtByte (s : List UInt8) (c i : Nat) : Prop where
  le : begAt c s ≤ i
  len : i ≤ s.length
  nl : c ≤ nlines s
  none : ∀ k, begAt c s ≤ k → k < i → s[k]? ≠ some 10

theorem AtByte.start (s : List UInt8) : AtByte s 0 0 := ⟨Nat.le_refl _, Nat.zero_le _, Nat.zero_le _, fun k _ h => absurd h (by omega)⟩

theorem AtByte.other {s : List UInt8} {c i : Nat} (h : AtByte s c i) (hi : i < s.length) (hb : s[i]? ≠ some 10) : AtByte s c (i + 1) :=
  ⟨Nat.le_succ_of_le h.le, hi, h.nl, fun k h1 h2 => by
    by_cases hk : k = i
    · subst hk; exact hb
    · exact h.none k h1 (by omega)⟩

theorem piece_none {s : List UInt8} {f i : Nat} (hfi : f ≤ i) (h : ∀ k, f ≤ k → k < i → s[k]? ≠ some 10) : ∀ b ∈ (s.take i).drop f, b ≠ 10 := by
  intro b hb e
  subst e
  obtain ⟨k, hk⟩ := List.mem_iff_getElem?.1 hb
  rw [List.getElem?_drop, List.getElem?_take] at hk
  split at hk
  · exact h _ (by omega) (by omega) hk
  · cases hk

theorem AtByte.feed {s : List UInt8} {c i : Nat} (h : AtByte s c i) (hi : i < s.length) (hb : s[i]? = some 10) :
    begAt (c + 1) s = i + 1 ∧ lineOf s c = (s.take (i + 1)).drop (begAt c s) ∧ AtByte s (c + 1) (i + 1) := by
  obtain ⟨f, hf⟩ : ∃ f, f = begAt c s := ⟨_, rfl⟩
  have hle := h.le
  have hn := piece_none h.le h.none
  rw [← hf] at hle hn
  have hs : s.drop f = (s.take i).drop f ++ 10 :: s.drop (i + 1) := by
    have e1 : s = s.take i ++ 10 :: s.drop (i + 1) := by
      have h3 : s[i] = 10 := by rw [List.getElem?_eq_getElem hi] at hb; exact Option.some.inj hb
      rw [← h3, List.getElem_cons_drop hi, List.take_append_drop]
    have e2 : f ≤ (s.take i).length := by rw [List.length_take]; omega
    calc s.drop f = (s.take i ++ 10 :: s.drop (i + 1)).drop f := by rw [← e1]
      _ = _ := List.drop_append_of_le_length e2
  have hx : Lib.indexByte ((s.take i).drop f ++ 10 :: s.drop (i + 1)) 10 = ((s.take i).drop f).length := by
    rw [indexByte_append]
    have hno : Lib.indexByte ((s.take i).drop f) 10 < 0 := by
      rcases split_line ((s.take i).drop f) with ⟨h1, _⟩ | ⟨u, t, e, _, _⟩
      · exact h1
      · exact absurd rfl (hn 10 (by rw [e]; simp))
    rw [if_pos hno]
    simp [Lib.indexByte]
  have hl : ((s.take i).drop f).length = i - f := by rw [List.length_drop, List.length_take]; omega
  have hB : begAt (c + 1) s = i + 1 := by
    rw [begAt_add, ← hf, hs, begAt_feed hx, hl]
    simp [begAt]; omega
  refine ⟨hB, by unfold lineOf; rw [hB], ⟨by rw [hB]; exact Nat.le_refl _, hi, ?_, fun k h1 h2 => by rw [hB] at h1; omega⟩⟩
  have := nlines_drop c s h.nl
  rw [← hf, hs, nlines_feed _ _ hn] at this
  omega

theorem AtByte.done {s : List UInt8} {c : Nat} (h : AtByte s c s.length) :
    (begAt c s < s.length → nlines s = c + 1 ∧ lineOf s c = s.drop (begAt c s)) ∧ (¬ begAt c s < s.length → nlines s = c) := by
  have hn := piece_none h.le h.none
  rw [List.take_length] at hn
  have hd := nlines_drop c s h.nl
  rw [nlines_none _ hn] at hd
  refine ⟨fun hlt => ?_, fun hlt => ?_⟩
  · have hne : s.drop (begAt c s) ≠ [] := by
      intro e
      have := congrArg List.length e
      rw [List.length_drop] at this
      simp at this; omega
    rw [if_neg hne] at hd
    refine ⟨hd, ?_⟩
    have hB : begAt (c + 1) s = s.length := by
      rw [begAt_add]
      have hno : Lib.indexByte (s.drop (begAt c s)) 10 < 0 := by
        rcases split_line (s.drop (begAt c s)) with ⟨h1, _⟩ | ⟨u, t, e, _, _⟩
        · exact h1
        · exact absurd rfl (hn 10 (by rw [e]; simp))
      rw [begAt_none_at hno, List.length_drop]; omega
    unfold lineOf
    rw [hB, List.take_length]
  · have he : s.drop (begAt c s) = [] := List.drop_eq_nil_of_le (by omega)
    rw [if_pos he] at hd
    exact hd
end Go.Proofs.Ytenihlicjahjhaa

/-
  LineLaw: the lines of a text, in plain words: no program in sight.
-/
import Derived.Test.YtenihlicjahjhaaLine
set_option linter.unusedVariables false
set_option linter.unusedSimpArgs false
namespace Go.Proofs.Ytenihlicjahjhaa
open Go Go.RowKit Go.Proofs

/-- a text is without line feed, or its first line and the rest -/
theorem split_line (s : List UInt8) : (Lib.indexByte s 10 < 0 ∧ ∀ c ∈ s, c ≠ 10) ∨ ∃ u t, s = u ++ 10 :: t ∧ (∀ c ∈ u, c ≠ 10) ∧ Lib.indexByte s 10 = u.length := by
  induction s with
  | nil => exact .inl ⟨by decide, by simp⟩
  | cons b l ih =>
    by_cases hb : b = 10
    · subst hb
      exact .inr ⟨[], l, rfl, by simp, by simp [Lib.indexByte]⟩
    · rcases ih with ⟨h, hc⟩ | ⟨u, t, rfl, hu, hi⟩
      · refine .inl ⟨?_, ?_⟩
        · have := Lib.indexByte_ge l 10
          have e : Lib.indexByte l 10 = -1 := by omega
          simp [Lib.indexByte, hb, e]
        · intro c hcm
          rcases List.mem_cons.1 hcm with rfl | h
          · exact hb
          · exact hc c h
      · refine .inr ⟨b :: u, t, rfl, ?_, ?_⟩
        · intro c hcm
          rcases List.mem_cons.1 hcm with rfl | h
          · exact hb
          · exact hu c h
        · have e : ¬ ((u.length : Int) = -1) := by omega
          simp only [List.cons_append, Lib.indexByte, hi, List.length_cons, beq_iff_eq, hb, e, if_false]
          omega

theorem begAt_feed {u t : List UInt8} (hi : Lib.indexByte (u ++ 10 :: t) 10 = u.length) (n : Nat) : begAt (n + 1) (u ++ 10 :: t) = u.length + 1 + begAt n t := by
  rw [begAt, hi, if_neg (by omega), Int.toNat_natCast, List.drop_length_add_append, List.drop_succ_cons, List.drop_zero]

theorem begAt_none_at {s : List UInt8} (h : Lib.indexByte s 10 < 0) (n : Nat) : begAt (n + 1) s = s.length := by rw [begAt, if_pos h]

theorem nlines_feed (u t : List UInt8) (hu : ∀ c ∈ u, c ≠ 10) : nlines (u ++ 10 :: t) = nlines t + 1 := by
  have hf : feeds (u ++ 10 :: t) = feeds t + 1 := by
    unfold feeds
    rw [List.count_append, List.count_cons_self, List.count_eq_zero.2 (fun h => hu 10 h rfl)]
    omega
  unfold nlines
  rw [if_neg (by simp), hf]
  cases t with
  | nil => simp [feeds]
  | cons b l =>
    have e : (u ++ 10 :: b :: l).getLast? = (b :: l).getLast? := by
      rw [List.getLast?_append, List.getLast?_cons_cons]
      cases h : (b :: l).getLast? with
      | none => simp at h
      | some c => rfl
    rw [e]
    by_cases hb : (b :: l).getLast? = some 10 <;> simp [hb]

theorem nlines_none (s : List UInt8) (h : ∀ c ∈ s, c ≠ 10) : nlines s = if s = [] then 0 else 1 := by
  unfold nlines
  split
  · rfl
  · rename_i hs
    have hf : feeds s = 0 := List.count_eq_zero.2 (fun h' => h 10 h' rfl)
    rw [hf, if_neg]
    intro e
    exact h 10 (List.mem_of_getLast? e) rfl

theorem begAt_mono : ∀ (n : Nat) (s : List UInt8), begAt n s ≤ begAt (n + 1) s
  | 0, s => Nat.zero_le _
  | n + 1, s => by
    rcases split_line s with ⟨h, _⟩ | ⟨u, t, rfl, hu, hi⟩
    · rw [begAt_none_at h, begAt_none_at h]; exact Nat.le_refl _
    · rw [begAt_feed hi, begAt_feed hi]
      have := begAt_mono n t
      omega

theorem lineOf_feed {u t : List UInt8} (hi : Lib.indexByte (u ++ 10 :: t) 10 = u.length) (n : Nat) : lineOf (u ++ 10 :: t) (n + 1) = lineOf t n := by
  unfold lineOf
  rw [begAt_feed hi, begAt_feed hi]
  have e : u ++ 10 :: t = (u ++ [10]) ++ t := by simp
  have el : u.length + 1 = (u ++ [10]).length := by simp
  rw [e, el, List.take_length_add_append, List.drop_length_add_append]

theorem lineOf_feed0 {u t : List UInt8} (hi : Lib.indexByte (u ++ 10 :: t) 10 = u.length) : lineOf (u ++ 10 :: t) 0 = u ++ [10] := by
  unfold lineOf
  rw [begAt_feed hi]
  have e : u ++ 10 :: t = (u ++ [10]) ++ t := by simp
  have el : u.length + 1 + begAt 0 t = (u ++ [10]).length := by simp [begAt]
  rw [e, el, List.take_left, begAt, List.drop_zero]

/-- a line: bytes other than the line feed, and the line feed; or, as the last, without -/
theorem line_facts : ∀ (n : Nat) (s : List UInt8), n < nlines s → ∃ u, (∀ c ∈ u, c ≠ 10) ∧ (lineOf s n = u ++ [10] ∨ (lineOf s n = u ∧ u ≠ [] ∧ n + 1 = nlines s))
  | n, s => by
    rcases split_line s with ⟨h, hc⟩ | ⟨u, t, rfl, hu, hi⟩
    · rw [nlines_none s hc]
      split
      · intro h; omega
      · rename_i hs
        intro hn
        obtain rfl : n = 0 := by omega
        refine ⟨s, hc, .inr ⟨?_, hs, rfl⟩⟩
        unfold lineOf
        rw [begAt_none_at h, List.take_length, begAt, List.drop_zero]
    · intro hn
      rw [nlines_feed u t hu] at hn ⊢
      cases n with
      | zero => exact ⟨u, hu, .inl (lineOf_feed0 hi)⟩
      | succ n =>
        obtain ⟨v, hv, h⟩ := line_facts n t (by omega)
        refine ⟨v, hv, ?_⟩
        rw [lineOf_feed hi]
        rcases h with h | ⟨h1, h2, h3⟩
        · exact .inl h
        · exact .inr ⟨h1, h2, by omega⟩

theorem begAt_end : ∀ (m : Nat) (s : List UInt8), nlines s = m → begAt m s = s.length
  | 0, s, h => by
    have : s = [] := by
      rcases split_line s with ⟨_, hc⟩ | ⟨u, t, rfl, hu, hi⟩
      · rw [nlines_none s hc] at h
        split at h
        · assumption
        · cases h
      · rw [nlines_feed u t hu] at h; omega
    subst this; rfl
  | m + 1, s, h => by
    rcases split_line s with ⟨h1, hc⟩ | ⟨u, t, rfl, hu, hi⟩
    · rw [begAt_none_at h1]
    · rw [nlines_feed u t hu] at h
      rw [begAt_feed hi, begAt_end m t (by omega)]
      simp; omega

theorem take_line (s : List UInt8) (n : Nat) : s.take (begAt n s) ++ lineOf s n = s.take (begAt (n + 1) s) := by
  have h := begAt_mono n s
  unfold lineOf
  have e : s.take (begAt n s) = (s.take (begAt (n + 1) s)).take (begAt n s) := by rw [List.take_take, Nat.min_eq_left h]
  rw [e, List.take_append_drop]

theorem suffix_feed (u : List UInt8) : Lib.hasSuffix (u ++ [10]) [10] = true ∧ Lib.trimSuffix (u ++ [10]) [10] = u := by
  have h : Lib.hasSuffix (u ++ [10]) [10] = true := by simp [Lib.hasSuffix]
  refine ⟨h, ?_⟩
  simp [Lib.trimSuffix, h]

theorem suffix_none {u : List UInt8} (h : ∀ c ∈ u, c ≠ 10) : Lib.hasSuffix u [10] = false ∧ Lib.trimSuffix u [10] = u := by
  have h1 : Lib.hasSuffix u [10] = false := by
    rw [Bool.eq_false_iff]
    intro e
    obtain ⟨v, rfl⟩ := List.isSuffixOf_iff_suffix.1 e
    exact h 10 (by simp) rfl
  exact ⟨h1, by simp [Lib.trimSuffix, h1]⟩

/-- what Line answers, of a line that there is -/
theorem line_said {s : List UInt8} {n : Nat} (hn : n < nlines s) : ∃ u, lineT s n = u ∧ (∀ c ∈ u, c ≠ 10) ∧ lineE s n = 0 ∧
    ((lineH s n = true ∧ s.take (begAt n s) ++ (u ++ [10]) = s.take (begAt (n + 1) s)) ∨ (lineH s n = false ∧ n + 1 = nlines s ∧ s.take (begAt n s) ++ u = s.take (begAt (n + 1) s))) := by
  obtain ⟨u, hu, h⟩ := line_facts n s hn
  have hin : 0 ≤ (n : Int) ∧ (n : Int) < nlines s := ⟨by omega, by omega⟩
  have ht := take_line s n
  refine ⟨u, ?_, hu, by rw [lineE, if_pos hin], ?_⟩
  · rw [lineT, if_pos hin, Int.toNat_natCast]
    rcases h with h | ⟨h, _⟩
    · rw [h]; exact (suffix_feed u).2
    · rw [h]; exact (suffix_none hu).2
  · rw [lineH, if_pos hin, Int.toNat_natCast]
    rcases h with h | ⟨h, _, h3⟩
    · rw [h] at ht ⊢
      exact .inl ⟨(suffix_feed u).1, ht⟩
    · rw [h] at ht ⊢
      exact .inr ⟨(suffix_none hu).1, h3, ht⟩
end Go.Proofs.Ytenihlicjahjhaa

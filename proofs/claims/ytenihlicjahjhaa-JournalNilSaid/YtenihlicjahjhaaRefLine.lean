/-
  RefLine: the document's answers of layer 6: the walks of headgateref06.Line, Of and Cut.
-/
import Derived.Test.YtenihlicjahjhaaRefLines
set_option linter.unusedVariables false
set_option linter.unusedSimpArgs false
namespace Go.Proofs.Ytenihlicjahjhaa
open Go Go.RowKit Go.Proofs Go.Shelf

theorem own_slice {w : World} {base : Nat} {e : TypeId} {size : Nat} {v : Value} {n : Nat} {xs : List Value} (h : w.ownsRow base e size v n xs) : ∃ a c, v = .slice a n c := by
  obtain ⟨h1, h2⟩ := h
  rcases h2 with h2 | ⟨g, cap, cur, hv, _⟩
  · obtain ⟨rfl, rfl, _⟩ := h2
    exact ⟨_, _, rfl⟩
  · exact ⟨_, _, hv⟩

theorem RefOf_calls (s : List UInt8) (w : World) (hs : s.length ≤ 65536) :
    Calls Try.prog 57 #[.string ⟨s.toArray⟩] w fun e w' => e = .returned (.tuple #[.string ⟨s.toArray⟩, .int .i64 0]) ∧ w = w' := by
  have d : decide (65536 < (s.length : Int)) = false := by simp only [decide_eq_false_iff_not]; omega
  go_enter Try.func57, Try.ntmps57
  go_wp2_with fail
  go_ret2
  exact ⟨rfl, rfl⟩

set_option maxRecDepth 100000 in
theorem RefLine_calls (s : List UInt8) (n : Int) (w : World) (hs : s.length ≤ 65536) (h1 : -9223372036854775808 ≤ n) (h2 : n ≤ 9223372036854775807) :
    Calls Try.prog 116 #[.string ⟨s.toArray⟩, .int .i64 n] w fun e w' => e = .returned (.tuple #[.string ⟨(lineT s n).toArray⟩, .bool (lineH s n), .int .i64 (lineE s n)]) ∧ Below w.heap.size w w' := by
  by_cases hn : 0 ≤ n ∧ n < nlines s
  · have d1 : decide (n < 0) = false := by simp only [decide_eq_false_iff_not]; omega
    have d2 : decide ((nlines s : Int) ≤ n) = false := by simp only [decide_eq_false_iff_not]; omega
    obtain ⟨m, rfl⟩ : ∃ m : Nat, n = m := ⟨n.toNat, by omega⟩
    obtain ⟨u, hu, hl⟩ := line_facts m s (by omega)
    rw [lineT, lineH, lineE, if_pos hn, if_pos hn, if_pos hn, Int.toNat_natCast]
    have hxl : (lineOf s m).length ≤ 65536 := by rw [lineOf, List.length_drop, List.length_take]; omega
    obtain ⟨x, hx⟩ : ∃ x, x = lineOf s m := ⟨_, rfl⟩
    rw [← hx] at hl hxl ⊢
    have Hx := Lib.hid hx
    have Hu := Lib.hid hu
    clear hx hu
    rcases hl with rfl | ⟨rfl, hne, _⟩
    · have hul : u.length ≤ 65535 := by simp only [List.length_append, List.length_cons, List.length_nil] at hxl; omega
      have hb2 : ((((⟨(u ++ [10]).toArray⟩ : ByteArray)[u.length]'(by show u.length < (u ++ [10]).length; simp)).toNat : Int) == 10) = true := by
        rw [beq_iff_eq]; show (((u ++ [10])[u.length]'(by simp)).toNat : Int) = 10; simp
      have hex : (⟨(u ++ [10]).toArray⟩ : ByteArray).extract 0 u.length = ⟨u.toArray⟩ := by rw [extract_str, List.drop_zero, List.take_left]
      rw [(suffix_feed u).1, (suffix_feed u).2]
      go_enter Try.func116, Try.ntmps116
      go_wp2_with fail
      refine (RefLines_calls s w hs).mono ?_
      rintro e w1 ⟨v, rfl, hown, hb⟩
      obtain ⟨g, c, rfl⟩ := ownsRow_form hown (by omega)
      obtain ⟨hg, hc1, hc2, hcell, _⟩ := ownsRow_at hown
      have hc : w1.cell? ⟨g, m, none⟩ = some (.string ⟨(u ++ [10]).toArray⟩) := hcell m _ (by simp only [lineCells]; rw [List.getElem?_map, List.getElem?_range (by omega), Option.map_some, ← Hx.out])
      clear hcell hown
      unfold maxLen at hc2
      go_wp2_with fail
      go_ret3
      exact ⟨rfl, hb⟩
    · have hk0 : 0 < x.length := List.length_pos_iff.2 hne
      obtain ⟨k, hk⟩ : ∃ k, x.length = k + 1 := ⟨x.length - 1, by omega⟩
      have hkl : k ≤ 65535 := by omega
      have hb2 : ((((⟨x.toArray⟩ : ByteArray)[k]'(by show k < x.length; omega)).toNat : Int) == 10) = false := by
        rw [beq_eq_false_iff_ne]
        intro e
        have e2 : ((x[k]'(by omega)).toNat : Int) = 10 := e
        have e3 : x[k]'(by omega) = 10 := UInt8.toNat_inj.1 (by rw [show (10 : UInt8).toNat = 10 from rfl]; omega)
        exact Hu.out _ (List.getElem_mem (by omega)) e3
      rw [(suffix_none Hu.out).1, (suffix_none Hu.out).2]
      clear hk0 hxl
      go_enter Try.func116, Try.ntmps116
      go_wp2_with fail
      refine (RefLines_calls s w hs).mono ?_
      rintro e w1 ⟨v, rfl, hown, hb⟩
      obtain ⟨g, c, rfl⟩ := ownsRow_form hown (by omega)
      obtain ⟨hg, hc1, hc2, hcell, _⟩ := ownsRow_at hown
      have hc : w1.cell? ⟨g, m, none⟩ = some (.string ⟨x.toArray⟩) := hcell m _ (by simp only [lineCells]; rw [List.getElem?_map, List.getElem?_range (by omega), Option.map_some, ← Hx.out])
      clear hcell hown
      unfold maxLen at hc2
      go_wp2_with fail
      go_ret3
      exact ⟨rfl, hb⟩
  · rw [lineT, lineH, lineE, if_neg hn, if_neg hn, if_neg hn]
    by_cases h0 : n < 0
    · have d1 : decide (n < 0) = true := by simp only [decide_eq_true_eq]; omega
      go_enter Try.func116, Try.ntmps116
      go_wp2_with fail
      refine (RefLines_calls s w hs).mono ?_
      rintro e w1 ⟨v, rfl, hown, hb⟩
      go_wp2_with fail
      go_ret3
      exact ⟨rfl, hb⟩
    · have d1 : decide (n < 0) = false := by simp only [decide_eq_false_iff_not]; omega
      have d2 : decide ((nlines s : Int) ≤ n) = true := by simp only [decide_eq_true_eq]; omega
      go_enter Try.func116, Try.ntmps116
      go_wp2_with fail
      refine (RefLines_calls s w hs).mono ?_
      rintro e w1 ⟨v, rfl, hown, hb⟩
      obtain ⟨a, c, rfl⟩ := own_slice hown
      go_wp2_with fail
      go_ret3
      exact ⟨rfl, hb⟩

set_option maxRecDepth 100000 in
theorem RefCut_calls (s : List UInt8) (a b : Int) (w : World) (hs : s.length ≤ 65536) :
    Calls Try.prog 58 #[.string ⟨s.toArray⟩, .int .i64 a, .int .i64 b] w fun e w' => w = w' ∧
      e = .returned (if 0 ≤ a ∧ a ≤ b ∧ b ≤ s.length then .tuple #[.string ⟨((s.take b.toNat).drop a.toNat).toArray⟩, .int .i64 0] else .tuple #[.string ⟨#[]⟩, .int .i64 61]) := by
  by_cases h : 0 ≤ a ∧ a ≤ b ∧ b ≤ s.length
  · rw [if_pos h, ← extract_str]
    have d1 : decide (a < 0) = false := by simp only [decide_eq_false_iff_not]; omega
    have d2 : decide (b < a) = false := by simp only [decide_eq_false_iff_not]; omega
    have d3 : decide ((s.length : Int) < b) = false := by simp only [decide_eq_false_iff_not]; omega
    go_enter Try.func58, Try.ntmps58
    go_wp2_with fail
    go_ret2
    exact ⟨rfl, rfl⟩
  · rw [if_neg h]
    by_cases h1 : a < 0
    · have d1 : decide (a < 0) = true := by simp only [decide_eq_true_eq]; omega
      go_enter Try.func58, Try.ntmps58
      go_wp2_with fail
      go_ret2
      exact ⟨rfl, rfl⟩
    have d1 : decide (a < 0) = false := by simp only [decide_eq_false_iff_not]; omega
    by_cases h2 : b < a
    · have d2 : decide (b < a) = true := by simp only [decide_eq_true_eq]; omega
      go_enter Try.func58, Try.ntmps58
      go_wp2_with fail
      go_ret2
      exact ⟨rfl, rfl⟩
    have d2 : decide (b < a) = false := by simp only [decide_eq_false_iff_not]; omega
    have d3 : decide ((s.length : Int) < b) = true := by simp only [decide_eq_true_eq]; omega
    go_enter Try.func58, Try.ntmps58
    go_wp2_with fail
    go_ret2
    exact ⟨rfl, rfl⟩
end Go.Proofs.Ytenihlicjahjhaa

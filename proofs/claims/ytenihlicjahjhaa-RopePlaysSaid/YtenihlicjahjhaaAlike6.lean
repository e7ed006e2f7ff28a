/-
  Alike6: a rope tells what its text does: the walk of headgatelaw06.alike.
-/
import Derived.Test.YtenihlicjahjhaaRefLine
import Derived.Test.YtenihlicjahjhaaLaw6
set_option linter.unusedVariables false
set_option linter.unusedSimpArgs false
namespace Go.Proofs.Ytenihlicjahjhaa
open Go Go.RowKit Go.Proofs Go.Shelf

set_option maxRecDepth 100000 in
set_option maxHeartbeats 2000000 in
theorem alike_calls {p : Option Addr} {s : List UInt8} {n : Int} {w : World} (h : IsRope (fun _ => True) w p s) (hs : s.length ≤ 65536) (h1 : -9223372036854775808 ≤ n) (h2 : n ≤ 9223372036854775807) :
    Calls Try.prog 59 #[.pointer p, .string ⟨s.toArray⟩, .int .i64 n] w fun e w' => e = .returned (.bool true) ∧ Below w.heap.size w w' := by
  have H := Lib.hid h
  clear h
  by_cases hn : 0 ≤ n ∧ n < s.length
  · obtain ⟨m, rfl⟩ : ∃ m : Nat, n = m := ⟨n.toNat, by omega⟩
    have hm : m < s.length := by omega
    have hC : idxC s m = ((s[m]'hm).toNat : Int) := by
      rw [idxC, if_pos hn, Int.toNat_natCast, List.getD_eq_getElem?_getD, List.getElem?_eq_getElem hm]; rfl
    have hE : idxE s m = 0 := by rw [idxE, if_pos hn]
    have d1 : decide (0 ≤ (m : Int)) = true := by simp only [decide_eq_true_eq]; omega
    have d2 : decide ((m : Int) < s.length) = true := by simp only [decide_eq_true_eq]; omega
    have hb2 : (((s[m]'hm).toNat : Int) != (((⟨s.toArray⟩ : ByteArray)[m]'hm).toNat : Int)) = false := by
      show (((s[m]'hm).toNat : Int) != ((s[m]'hm).toNat : Int)) = false
      simp
    have HC := Lib.hid hC
    have HE := Lib.hid hE
    clear hC hE
    go_enter Try.func59, Try.ntmps59
    go_wp2_with fail
    refine (Index_any H.out hs).mono ?_
    rintro e w1 ⟨rfl, b1⟩
    rw [HC.out, HE.out]
    go_wp2_with fail
    refine (Line_any (H.out.bel b1) hs (fun _ _ => trivial)).mono ?_
    rintro e w2 ⟨rfl, b2⟩
    go_wp2_with fail
    refine (RefLine_calls s m _ hs (by omega) (by omega)).mono ?_
    rintro e w3 ⟨rfl, b3⟩
    go_wp2_with fail
    refine (Len_calls (((H.out.bel b1).bel b2).bel b3)).mono ?_
    rintro e w4 ⟨rfl, rfl⟩
    go_wp2_with fail
    refine (Text_calls (((H.out.bel b1).bel b2).bel b3) hs).mono ?_
    rintro e w4 ⟨rfl, b4⟩
    go_wp2_with fail
    refine (Lines_any ((((H.out.bel b1).bel b2).bel b3).bel b4) hs).mono ?_
    rintro e w5 ⟨rfl, b5⟩
    go_wp2_with fail
    refine (RefLines_calls s _ hs).mono ?_
    rintro e w6 ⟨v, rfl, hown, b6⟩
    obtain ⟨a, c, rfl⟩ := own_slice hown
    clear hown
    go_wp2_with fail
    go_ret
    exact ⟨rfl, below_then (below_then (below_then (below_then (below_then b1 b2) b3) b4) b5) b6⟩
  · have hC : idxC s n = 0 := by rw [idxC, if_neg hn]
    have hE : idxE s n = 61 := by rw [idxE, if_neg hn]
    have HC := Lib.hid hC
    have HE := Lib.hid hE
    have hin : (decide (0 ≤ n) && decide (n < (s.length : Int))) = false := by
      rw [Bool.and_eq_false_iff]
      simp only [decide_eq_false_iff_not]; omega
    clear hC hE
    by_cases h0 : 0 ≤ n
    · have d1 : decide (0 ≤ n) = true := by simp only [decide_eq_true_eq]; omega
      have d2 : decide (n < (s.length : Int)) = false := by simp only [decide_eq_false_iff_not]; omega
      clear hin
      go_enter Try.func59, Try.ntmps59
      go_wp2_with fail
      refine (Index_any H.out hs).mono ?_
      rintro e w1 ⟨rfl, b1⟩
      rw [HC.out, HE.out]
      go_wp2_with fail
      refine (Line_any (H.out.bel b1) hs (fun _ _ => trivial)).mono ?_
      rintro e w2 ⟨rfl, b2⟩
      go_wp2_with fail
      refine (RefLine_calls s n _ hs (by omega) (by omega)).mono ?_
      rintro e w3 ⟨rfl, b3⟩
      go_wp2_with fail
      refine (Len_calls (((H.out.bel b1).bel b2).bel b3)).mono ?_
      rintro e w4 ⟨rfl, rfl⟩
      go_wp2_with fail
      refine (Text_calls (((H.out.bel b1).bel b2).bel b3) hs).mono ?_
      rintro e w4 ⟨rfl, b4⟩
      go_wp2_with fail
      refine (Lines_any ((((H.out.bel b1).bel b2).bel b3).bel b4) hs).mono ?_
      rintro e w5 ⟨rfl, b5⟩
      go_wp2_with fail
      refine (RefLines_calls s _ hs).mono ?_
      rintro e w6 ⟨v, rfl, hown, b6⟩
      obtain ⟨a, c, rfl⟩ := own_slice hown
      clear hown
      go_wp2_with fail
      go_ret
      exact ⟨rfl, below_then (below_then (below_then (below_then (below_then b1 b2) b3) b4) b5) b6⟩
    · have d1 : decide (0 ≤ n) = false := by simp only [decide_eq_false_iff_not]; omega
      clear hin
      go_enter Try.func59, Try.ntmps59
      go_wp2_with fail
      refine (Index_any H.out hs).mono ?_
      rintro e w1 ⟨rfl, b1⟩
      rw [HC.out, HE.out]
      go_wp2_with fail
      refine (Line_any (H.out.bel b1) hs (fun _ _ => trivial)).mono ?_
      rintro e w2 ⟨rfl, b2⟩
      go_wp2_with fail
      refine (RefLine_calls s n _ hs (by omega) (by omega)).mono ?_
      rintro e w3 ⟨rfl, b3⟩
      go_wp2_with fail
      refine (Len_calls (((H.out.bel b1).bel b2).bel b3)).mono ?_
      rintro e w4 ⟨rfl, rfl⟩
      go_wp2_with fail
      refine (Text_calls (((H.out.bel b1).bel b2).bel b3) hs).mono ?_
      rintro e w4 ⟨rfl, b4⟩
      go_wp2_with fail
      refine (Lines_any ((((H.out.bel b1).bel b2).bel b3).bel b4) hs).mono ?_
      rintro e w5 ⟨rfl, b5⟩
      go_wp2_with fail
      refine (RefLines_calls s _ hs).mono ?_
      rintro e w6 ⟨v, rfl, hown, b6⟩
      obtain ⟨a, c, rfl⟩ := own_slice hown
      clear hown
      go_wp2_with fail
      go_ret
      exact ⟨rfl, below_then (below_then (below_then (below_then (below_then b1 b2) b3) b4) b5) b6⟩
end Go.Proofs.Ytenihlicjahjhaa

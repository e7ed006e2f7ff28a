/-
  Line: what Line answers of a rope.
-/
import Derived.Test.YtenihlicjahjhaaBegin
import Derived.Test.YtenihlicjahjhaaLaw6
set_option linter.unusedVariables false
set_option linter.unusedSimpArgs false
namespace Go.Proofs.Ytenihlicjahjhaa
open Go Go.RowKit Go.Proofs Go.Shelf

/-- the n-th line, with its line feed -/
def lineOf (s : List UInt8) (n : Nat) : List UInt8 := (s.take (begAt (n + 1) s)).drop (begAt n s)

theorem feeds_le (s : List UInt8) : feeds s ≤ s.length := List.count_le_length

theorem nlines_le (s : List UInt8) : nlines s ≤ s.length + 1 := by
  have := feeds_le s
  unfold nlines
  split
  · omega
  · split <;> omega

set_option maxRecDepth 100000 in
theorem Line_in {R : Nat → Prop} {p : Option Addr} {s : List UInt8} {n : Nat} {w : World} (h : IsRope R w p s) (hs : s.length ≤ 65536) (hR : ∀ j, w.heap.size ≤ j → R j) (hn : n < nlines s) :
    Calls Try.prog 55 #[.pointer p, .int .i64 n] w fun e w' =>
      e = .returned (.tuple #[.string ⟨(Lib.trimSuffix (lineOf s n) [10]).toArray⟩, .bool (Lib.hasSuffix (lineOf s n) [10]), .int .i64 0]) ∧ Below w.heap.size w w' := by
  have hnl := nlines_le s
  have h1 := begAt_le n s
  have h2 := begAt_le (n + 1) s
  have d1 : decide ((n : Int) < 0) = false := by simp only [decide_eq_false_iff_not]; omega
  have d2 : decide ((nlines s : Int) ≤ n) = false := by simp only [decide_eq_false_iff_not]; omega
  obtain ⟨u, hu⟩ : ∃ u, u = lineOf s n := ⟨_, rfl⟩
  have hul : u.length ≤ 65536 := by rw [hu, lineOf, List.length_drop, List.length_take]; omega
  rw [← hu]
  have Hu := Lib.hid hu
  clear hu
  go_enter Try.func55, Try.ntmps55
  go_wp2_with fail
  refine (Lines_calls h hs).mono ?_
  rintro e w1 ⟨rfl, q, rfl⟩
  go_wp2_with fail
  refine (begin_calls (h.drewN q) hs (by omega)).mono ?_
  rintro e w2 ⟨rfl, hb2⟩
  go_wp2_with fail
  rw [show (n : Int) + 1 = ((n + 1 : Nat) : Int) by omega]
  refine (begin_calls ((h.drewN q).bel hb2) hs (by omega)).mono ?_
  rintro e w3 ⟨rfl, hb3⟩
  go_wp2_with fail
  refine (cut_calls (((h.drewN q).bel hb2).bel hb3) hs (fun j hj => hR j (Nat.le_trans hb2.size (Nat.le_trans hb3.size hj))) (by omega) (by omega)).mono ?_
  rintro e w4 ⟨c, rfl, hc, hb4⟩
  rw [Int.toNat_natCast, Int.toNat_natCast, ← lineOf, ← Hu.out] at hc
  have Hc := Lib.hid hc
  clear hc
  go_wp2_with fail
  refine (Text_calls Hc.out hul).mono ?_
  rintro e w5 ⟨rfl, hb5⟩
  go_wp2_with fail
  refine (Try.strings_CutSuffix _ _ _ (by show u.length ≤ _; omega)).mono ?_
  rintro e w6 ⟨rfl, rfl⟩
  go_wp2_with fail
  go_ret3
  exact ⟨rfl, below_then (below_then (below_then (below_then (below_drewN (Below.refl _ w) q) hb2) hb3) hb4) hb5⟩

theorem Line_out {R : Nat → Prop} {p : Option Addr} {s : List UInt8} {n : Int} {w : World} (h : IsRope R w p s) (hs : s.length ≤ 65536) (hn : n < 0 ∨ nlines s ≤ n) :
    Calls Try.prog 55 #[.pointer p, .int .i64 n] w fun e w' => e = .returned (.tuple #[.string ⟨#[]⟩, .bool false, .int .i64 61]) ∧ Below w.heap.size w w' := by
  by_cases h0 : n < 0
  · have d1 : decide (n < 0) = true := by simp only [decide_eq_true_eq]; omega
    go_enter Try.func55, Try.ntmps55
    go_wp2_with fail
    go_ret3
    exact ⟨rfl, Below.refl _ _⟩
  · have d1 : decide (n < 0) = false := by simp only [decide_eq_false_iff_not]; omega
    have d2 : decide ((nlines s : Int) ≤ n) = true := by simp only [decide_eq_true_eq]; omega
    go_enter Try.func55, Try.ntmps55
    go_wp2_with fail
    refine (Lines_calls h hs).mono ?_
    rintro e w1 ⟨rfl, q, rfl⟩
    go_wp2_with fail
    go_ret3
    exact ⟨rfl, below_drewN (Below.refl _ _) _⟩
/-- what Index answers -/
def idxC (s : List UInt8) (n : Int) : Int := if 0 ≤ n ∧ n < s.length then ((s.getD n.toNat 0).toNat : Int) else 0
def idxE (s : List UInt8) (n : Int) : Int := if 0 ≤ n ∧ n < s.length then 0 else 61

theorem Index_any {R : Nat → Prop} {p : Option Addr} {s : List UInt8} {n : Int} {w : World} (h : IsRope R w p s) (hs : s.length ≤ 65536) :
    Calls Try.prog 56 #[.pointer p, .int .i64 n] w fun e w' => e = .returned (.tuple #[.int .u8 (idxC s n), .int .i64 (idxE s n)]) ∧ Below w.heap.size w w' := by
  by_cases hn : 0 ≤ n ∧ n < s.length
  · rw [idxC, idxE, if_pos hn, if_pos hn]
    obtain ⟨m, rfl⟩ : ∃ m : Nat, n = m := ⟨n.toNat, by omega⟩
    refine (Index_in (n := m) (c := s.getD m 0) h ?_ hs).mono ?_
    · rw [List.getD_eq_getElem?_getD, List.getElem?_eq_getElem (by omega)]; rfl
    · rintro e w' ⟨rfl, q, rfl⟩
      exact ⟨rfl, below_drewN (Below.refl _ _) _⟩
  · rw [idxC, idxE, if_neg hn, if_neg hn]
    refine (Index_out h (by omega)).mono ?_
    rintro e w' ⟨rfl, rfl⟩
    exact ⟨rfl, Below.refl _ _⟩

/-- what Line answers -/
def lineT (s : List UInt8) (n : Int) : List UInt8 := if 0 ≤ n ∧ n < nlines s then Lib.trimSuffix (lineOf s n.toNat) [10] else []
def lineH (s : List UInt8) (n : Int) : Bool := if 0 ≤ n ∧ n < nlines s then Lib.hasSuffix (lineOf s n.toNat) [10] else false
def lineE (s : List UInt8) (n : Int) : Int := if 0 ≤ n ∧ n < nlines s then 0 else 61

theorem Line_any {R : Nat → Prop} {p : Option Addr} {s : List UInt8} {n : Int} {w : World} (h : IsRope R w p s) (hs : s.length ≤ 65536) (hR : ∀ j, w.heap.size ≤ j → R j) :
    Calls Try.prog 55 #[.pointer p, .int .i64 n] w fun e w' => e = .returned (.tuple #[.string ⟨(lineT s n).toArray⟩, .bool (lineH s n), .int .i64 (lineE s n)]) ∧ Below w.heap.size w w' := by
  by_cases hn : 0 ≤ n ∧ n < nlines s
  · rw [lineT, lineH, lineE, if_pos hn, if_pos hn, if_pos hn]
    obtain ⟨m, rfl⟩ : ∃ m : Nat, n = m := ⟨n.toNat, by omega⟩
    exact Line_in h hs hR (by omega)
  · rw [lineT, lineH, lineE, if_neg hn, if_neg hn, if_neg hn]
    exact Line_out h hs (by omega)

theorem Lines_any {R : Nat → Prop} {p : Option Addr} {s : List UInt8} {w : World} (h : IsRope R w p s) (hs : s.length ≤ 65536) :
    Calls Try.prog 54 #[.pointer p] w fun e w' => e = .returned (.int .i64 (nlines s)) ∧ Below w.heap.size w w' :=
  (Lines_calls h hs).mono fun e w' ⟨he, q, hq⟩ => ⟨he, hq ▸ below_drewN (Below.refl _ _) _⟩

end Go.Proofs.Ytenihlicjahjhaa

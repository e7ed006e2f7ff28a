/-
  Law6: a part of the proofs about the given program: contracts of its functions, each with the conditions that stand ahead of its colon.
-/
import Derived.Test.YtenihlicjahjhaaLines
set_option linter.unusedVariables false
set_option linter.unusedSimpArgs false
namespace Go.Proofs.Ytenihlicjahjhaa
open Go Go.RowKit Go.Proofs Go.Shelf

/-- which of n things a number speaks of -/
def pickI (c n : Int) : Int := (if c < 0 then -(c + 1) else c) % n

theorem pickI_bd (c n : Int) (hn : 0 < n) : 0 ≤ pickI c n ∧ pickI c n < n := ⟨Int.emod_nonneg _ (by omega), Int.emod_lt_of_pos _ hn⟩

theorem pick6_calls (c n : Int) (w : World) (h1 : -9223372036854775808 ≤ c) (h2 : c ≤ 9223372036854775807) (hn : 0 < n) (hn2 : n ≤ 9223372036854775807) :
    Calls Try.prog 30 #[.int .i64 c, .int .i64 n] w fun e w' => e = .returned (.int .i64 (pickI c n)) ∧ w = w' := by
  by_cases hc : c < 0
  · go_enter Try.func30, Try.ntmps30
    go_wp2_with fail
    go_ret
    refine ⟨?_, rfl⟩
    have e : (-(c + 1)).tmod n = pickI c n := by rw [pickI, if_pos hc, Int.tmod_eq_emod_of_nonneg (by omega)]
    first | (rw [← Int.neg_tmod, e]; rfl) | simp [← e]
  · go_enter Try.func30, Try.ntmps30
    go_wp2_with fail
    go_ret
    exact ⟨by rw [pickI, if_neg (by omega)]; rfl, rfl⟩

set_option maxHeartbeats 1000000 in
theorem alive6_calls (w : World) :
    Calls Try.prog 29 #[] w fun e w' => e = .returned (.bool true) ∧ Below w.heap.size w w' := by
  have n3 : nlines ([97, 98, 10, 99] ++ [97, 98, 10, 99]) = 3 := by decide
  have N3 := Lib.hid n3
  clear n3
  go_enter Try.func29, Try.ntmps29
  go_wp2_with fail
  refine (Of_calls (fun _ => True) [97, 98, 10, 99] _ (fun _ _ => trivial) (by decide)).mono ?_
  rintro e w1 ⟨p, rfl, hp, hb1⟩
  go_wp2_with fail
  refine (Join_calls hp hp (by decide) (fun _ _ => trivial)).mono ?_
  rintro e w2 ⟨q, rfl, hq, hb2⟩
  go_wp2_with fail
  refine (Text_calls hq (by decide)).mono ?_
  rintro e w3 ⟨rfl, hb3⟩
  go_wp2_with fail
  refine (Lines_calls (hq.bel hb3) (by decide)).mono ?_
  rintro e w4 ⟨rfl, n, rfl⟩
  rw [N3.out]
  go_wp2_with fail
  refine (Len_calls ((hq.bel hb3).drewN _)).mono ?_
  rintro e w4 ⟨rfl, rfl⟩
  go_wp2_with fail
  go_ret
  exact ⟨rfl, below_drewN (hb1.trans ((hb2.mono hb1.size).trans (hb3.mono (Nat.le_trans hb1.size hb2.size)))) _⟩

/-- a rope of a text's start -/
theorem Of_take (l : List UInt8) (j : Nat) (w : World) (hj : j ≤ 65536) :
    Calls Try.prog 31 #[.string ((⟨l.toArray⟩ : ByteArray).extract 0 j)] w fun e w' => ∃ p, e = .returned (.tuple #[.pointer p, .int .i64 0]) ∧ IsRope (fun _ => True) w' p (l.take j) ∧ Below w.heap.size w w' := by
  rw [extract_str, List.drop_zero]
  exact Of_calls _ _ _ (fun _ _ => trivial) (by simp only [List.length_take]; omega)

theorem Of_take_large (l : List UInt8) (j : Nat) (w : World) (hj : 65536 < j) (hl : j ≤ l.length) :
    Calls Try.prog 31 #[.string ((⟨l.toArray⟩ : ByteArray).extract 0 j)] w fun e w' => e = .returned (.tuple #[.pointer none, .int .i64 73]) ∧ w = w' := by
  rw [extract_str, List.drop_zero]
  exact Of_large _ _ (by simp only [List.length_take]; omega)

theorem below_then {w w1 w2 : World} (a : Below w.heap.size w w1) (b : Below w1.heap.size w1 w2) : Below w.heap.size w w2 := a.trans (b.mono (a.size))

set_option maxRecDepth 100000 in
set_option maxHeartbeats 1000000 in
/-- a text doubled until it is too long -/
theorem RopeLarge_walk (s : List UInt8) (part : Int) (w : World) (h1 : -9223372036854775808 ≤ part) (h2 : part ≤ 9223372036854775807) :
    Calls Try.prog 4 #[.string ⟨s.toArray⟩, .int .i64 part] w fun e w' => e = .returned (.bool true) ∧ Below w.heap.size w w' := by
  by_cases hs0 : s.length = 0
  · have d1 : ((s.length : Int) == 0) = true := by simp [hs0]
    go_enter Try.func4, Try.ntmps4
    go_wp2_with fail
    refine (alive6_calls _).mono ?_
    rintro e w' ⟨rfl, hb⟩
    go_wp2_with fail
    go_ret
    exact ⟨rfl, hb⟩
  have d1 : ((s.length : Int) == 0) = false := by rw [beq_eq_false_iff_ne]; omega
  by_cases hs64 : 64 < s.length
  · have d2 : decide (64 < (s.length : Int)) = true := by simp only [decide_eq_true_eq, decide_eq_false_iff_not]; omega
    go_enter Try.func4, Try.ntmps4
    go_wp2_with fail
    refine (alive6_calls _).mono ?_
    rintro e w' ⟨rfl, hb⟩
    go_wp2_with fail
    go_ret
    exact ⟨rfl, hb⟩
  have d2 : decide (64 < (s.length : Int)) = false := by simp only [decide_eq_true_eq, decide_eq_false_iff_not]; omega
  go_enter Try.func4, Try.ntmps4
  go_wp2_with fail
  go_loopg [5] (131072 - s.length) (fun k r wr => wr = w ∧ ∃ l : List UInt8, r = Value.string ⟨l.toArray⟩ ∧ 0 < l.length ∧ l.length ≤ 131072 ∧ k = 131072 - l.length)
  case atStart => exact ⟨rfl, s, rfl, by omega, by omega, rfl⟩
  case round =>
    obtain ⟨rfl, l, rfl, hl0, hl1, hk⟩ := hrel
    by_cases hl : l.length ≤ 65536
    · have d3 : decide ((l.length : Int) ≤ 65536) = true := by simp only [decide_eq_true_eq]; omega
      go_wp2_with fail
      go_roundg (131072 - (l ++ l).length)
      case measure => simp only [List.length_append]; omega
      case rel => exact ⟨rfl, l ++ l, by rw [str_append], by simp only [List.length_append]; omega, by simp only [List.length_append]; omega, rfl⟩
    · have d3 : decide ((l.length : Int) ≤ 65536) = false := by simp only [decide_eq_false_iff_not]; omega
      have hpb := pickI_bd part 65536 (by omega)
      obtain ⟨n, hn⟩ : ∃ n, n = pickI part 65536 := ⟨_, rfl⟩
      rw [← hn] at hpb
      have Hk := Lib.hid hk
      clear hk
      go_wp2_with fail
      refine (pick6_calls part 65536 _ h1 h2 (by omega) (by omega)).mono ?_
      rintro e w' ⟨rfl, rfl⟩
      rw [← hn]
      have Hn := Lib.hid hn
      clear hn
      go_wp2_with fail
      refine (Of_take l _ _ (by omega)).mono ?_
      rintro e w1 ⟨p1, rfl, hp1, hb1⟩
      go_wp2_with fail
      refine (Of_take_large l _ _ (by omega) (by omega)).mono ?_
      rintro e w2 ⟨rfl, rfl⟩
      go_wp2_with fail
      refine (Of_take l _ _ (by omega)).mono ?_
      rintro e w2 ⟨p2, rfl, hp2, hb2⟩
      go_wp2_with fail
      refine (Of_take l _ _ (by omega)).mono ?_
      rintro e w3 ⟨p3, rfl, hp3, hb3⟩
      go_wp2_with fail
      refine (Join_large (hp2.bel hb3) hp3 (by simp only [List.length_take]; omega) (by simp only [List.length_take]; omega) (by simp only [List.length_take]; omega)).mono ?_
      rintro e w4 ⟨rfl, rfl⟩
      go_wp2_with fail
      refine (Join_calls ((hp1.bel hb2).bel hb3) (IsRope.nil (w := w3)) (by simp only [List.length_take, List.length_nil]; omega) (fun _ _ => trivial)).mono ?_
      rintro e w4 ⟨p4, rfl, hp4, hb4⟩
      have hp4' := Lib.hid hp4
      clear hp4
      go_wp2_with fail
      refine (alive6_calls _).mono ?_
      rintro e w5 ⟨rfl, hb5⟩
      go_wp2_with fail
      refine (Len_calls (hp4'.out.bel hb5)).mono ?_
      rintro e w6 ⟨rfl, rfl⟩
      have e5 : (((l.take 65536 ++ []).length : Nat) : Int) = 65536 := by simp only [List.append_nil, List.length_take]; omega
      rw [e5]
      go_wp2_with fail
      go_ret
      exact ⟨rfl, below_then (below_then (below_then (below_then hb1 hb2) hb3) hb4) hb5⟩
end Go.Proofs.Ytenihlicjahjhaa

/-
  LinesLaw: the walk of the statement RopeLines: it answers true at every input.
-/
import Derived.Test.YtenihlicjahjhaaLineLaw
import Derived.Test.YtenihlicjahjhaaCuts
set_option linter.unusedVariables false
set_option linter.unusedSimpArgs false
namespace Go.Proofs.Ytenihlicjahjhaa
open Go Go.RowKit Go.Proofs Go.Shelf

set_option maxRecDepth 100000 in
set_option maxHeartbeats 2000000 in
theorem RopeLines_walk (a b : List UInt8) (w : World) :
    Calls Try.prog 8 #[.string ⟨a.toArray⟩, .string ⟨b.toArray⟩] w fun e w' => e = .returned (.bool true) ∧ Below w.heap.size w w' := by
  by_cases ha : 300 < a.length
  · have d1 : decide (300 < (a.length : Int)) = true := by simp only [decide_eq_true_eq]; omega
    go_enter Try.func8, Try.ntmps8
    go_wp2_with fail
    refine (alive6_calls _).mono ?_
    rintro e w' ⟨rfl, hb⟩
    go_wp2_with fail
    go_ret
    exact ⟨rfl, hb⟩
  have d1 : decide (300 < (a.length : Int)) = false := by simp only [decide_eq_false_iff_not]; omega
  by_cases hb : 300 < b.length
  · have d2 : decide (300 < (b.length : Int)) = true := by simp only [decide_eq_true_eq]; omega
    go_enter Try.func8, Try.ntmps8
    go_wp2_with fail
    refine (alive6_calls _).mono ?_
    rintro e w' ⟨rfl, hb⟩
    go_wp2_with fail
    go_ret
    exact ⟨rfl, hb⟩
  have d2 : decide (300 < (b.length : Int)) = false := by simp only [decide_eq_false_iff_not]; omega
  go_enter Try.func8, Try.ntmps8
  go_wp2_with fail
  refine (Of_calls (fun _ => True) a _ (fun _ _ => trivial) (by omega)).mono ?_
  rintro e w1 ⟨p1, rfl, hp1, hb1⟩
  go_wp2_with fail
  refine (Of_calls (fun _ => True) b _ (fun _ _ => trivial) (by omega)).mono ?_
  rintro e w2 ⟨p2, rfl, hp2, hb2⟩
  go_wp2_with fail
  refine (Join_calls (hp1.bel hb2) hp2 (by omega) (fun _ _ => trivial)).mono ?_
  rintro e w3 ⟨p, rfl, hp3, hb3⟩
  obtain ⟨s, hs⟩ : ∃ s, s = a ++ b := ⟨_, rfl⟩
  have hsl : s.length ≤ 600 := by rw [hs, List.length_append]; omega
  have hab : (⟨a.toArray⟩ : ByteArray) ++ ⟨b.toArray⟩ = ⟨s.toArray⟩ := by rw [str_append, hs]
  rw [← hs] at hp3
  have Hp3 := Lib.hid hp3
  have Hb3 := Lib.hid (below_then (below_then hb1 hb2) hb3)
  clear hs hp3 hb1 hb2 hb3 hp1 hp2
  go_wp2_with fail
  refine (Lines_any Hp3.out (by omega)).mono ?_
  rintro e w4 ⟨rfl, hb4⟩
  have Hp4 := Lib.hid (Hp3.out.bel hb4)
  have hnl := nlines_le s
  obtain ⟨N, hN⟩ : ∃ N, N = nlines s := ⟨_, rfl⟩
  rw [← hN] at hnl ⊢
  have HN := Lib.hid hN
  clear hN
  go_wp2_with fail
  go_loopg [11, 13] N (fun k r q wr => Below w4.heap.size w4 wr ∧ ∃ i : Nat, r = .string ⟨(s.take (begAt i s)).toArray⟩ ∧ q = .int .i64 i ∧ i ≤ N ∧ k = N - i)
  case atStart => exact ⟨Below.refl _ _, 0, by simp [begAt], rfl, Nat.zero_le _, rfl⟩
  case round =>
    obtain ⟨hbr, i, rfl, rfl, hi, hk⟩ := hrel
    have Hbr := Lib.hid hbr
    have Hk := Lib.hid hk
    clear hk hbr
    by_cases hiN : i < N
    · have e1 : decide ((i : Int) < N) = true := by simp only [decide_eq_true_eq]; omega
      have e2 : decide ((i : Int) ≤ 600) = true := by simp only [decide_eq_true_eq]; omega
      obtain ⟨u, hu1, hu2, hu3, hu4⟩ := line_said (s := s) (n := i) (by rw [← HN.out]; exact hiN)
      have hul : u.length ≤ 600 := by
        have h1 := begAt_le (i + 1) s
        rcases hu4 with ⟨_, h⟩ | ⟨_, _, h⟩ <;> (have := congrArg List.length h; simp only [List.length_append, List.length_take] at this; omega)
      have Hu1 := Lib.hid hu1
      have Hu2 := Lib.hid hu2
      have Hu3 := Lib.hid hu3
      have Hu4 := Lib.hid hu4
      clear hu1 hu2 hu3 hu4
      go_wp2_with fail
      refine (Line_any (Hp4.out.bel Hbr.out) (by omega) (fun _ _ => trivial)).mono ?_
      rintro e w5 ⟨rfl, hb5⟩
      rw [Hu1.out, Hu3.out]
      obtain ⟨hh, hhh⟩ : ∃ hh, hh = lineH s i := ⟨_, rfl⟩
      rw [← hhh]
      have hlast : hh = true ∨ ((i : Int) == N - 1) = true := by
        rcases Hu4.out with ⟨h, _⟩ | ⟨_, h, _⟩
        · exact .inl (hhh.trans h)
        · refine .inr ?_
          rw [← HN.out] at h
          rw [beq_iff_eq]; omega
      have Hhh := Lib.hid hhh
      have Hlast := Lib.hid hlast
      clear hhh hlast
      cases hh with
      | true =>
        go_wp2_with fail
        go_loopg [17] u.length (fun k r wr => wr = w5 ∧ ∃ j : Nat, r = .int .i64 j ∧ j ≤ u.length ∧ k = u.length - j)
        case atStart => exact ⟨rfl, 0, rfl, Nat.zero_le _, rfl⟩
        case round =>
          obtain ⟨rfl, j, rfl, hj, hkj⟩ := hrel
          have Hkj := Lib.hid hkj
          clear hkj
          by_cases hju : j < u.length
          · have hlt : (j : Int) < u.length := by omega
            have hne : ((u[j]'hju).toNat : Int) ≠ 10 := fun e => Hu2.out _ (List.getElem_mem hju) (UInt8.toNat_inj.1 (by rw [show (10 : UInt8).toNat = 10 from rfl]; omega))
            have hne2 : ((((⟨u.toArray⟩ : ByteArray)[j]'hju).toNat : Int) == 10) = false := by rw [beq_eq_false_iff_ne]; exact hne
            go_wp2_with fail
            go_roundg (u.length - (j + 1))
            case measure => have := Hkj.out; omega
            case rel => exact ⟨rfl, j + 1, by rw [Int.natCast_add]; rfl, by omega, rfl⟩
          · have hlt : ¬ (j : Int) < u.length := by omega
            go_wp2_with fail
            go_roundg (N - (i + 1))
            case measure => have := Hk.out; omega
            case rel =>
              refine ⟨Hbr.out.trans (hb5.mono Hbr.out.size), i + 1, ?_, by rw [Int.natCast_add]; rfl, by omega, rfl⟩
              rcases Hu4.out with ⟨h, h2⟩ | ⟨h, _, h2⟩
              · rw [show (⟨#[10]⟩ : ByteArray) = ⟨([10] : List UInt8).toArray⟩ from rfl, str_append (s.take (begAt i s)) u, str_append (s.take (begAt i s) ++ u) [10], List.append_assoc, h2]
              · rw [← Hhh.out] at h; cases h
      | false =>
        have e3 : ((i : Int) == N - 1) = true := by simpa using Hlast.out
        go_wp2_with fail
        go_loopg [17] u.length (fun k r wr => wr = w5 ∧ ∃ j : Nat, r = .int .i64 j ∧ j ≤ u.length ∧ k = u.length - j)
        case atStart => exact ⟨rfl, 0, rfl, Nat.zero_le _, rfl⟩
        case round =>
          obtain ⟨rfl, j, rfl, hj, hkj⟩ := hrel
          have Hkj := Lib.hid hkj
          clear hkj
          by_cases hju : j < u.length
          · have hlt : (j : Int) < u.length := by omega
            have hne : ((u[j]'hju).toNat : Int) ≠ 10 := fun e => Hu2.out _ (List.getElem_mem hju) (UInt8.toNat_inj.1 (by rw [show (10 : UInt8).toNat = 10 from rfl]; omega))
            have hne2 : ((((⟨u.toArray⟩ : ByteArray)[j]'hju).toNat : Int) == 10) = false := by rw [beq_eq_false_iff_ne]; exact hne
            go_wp2_with fail
            go_roundg (u.length - (j + 1))
            case measure => have := Hkj.out; omega
            case rel => exact ⟨rfl, j + 1, by rw [Int.natCast_add]; rfl, by omega, rfl⟩
          · have hlt : ¬ (j : Int) < u.length := by omega
            go_wp2_with fail
            go_roundg (N - (i + 1))
            case measure => have := Hk.out; omega
            case rel =>
              refine ⟨Hbr.out.trans (hb5.mono Hbr.out.size), i + 1, ?_, by rw [Int.natCast_add]; rfl, by omega, rfl⟩
              rcases Hu4.out with ⟨h, h2⟩ | ⟨h, _, h2⟩
              · rw [← Hhh.out] at h; cases h
              · rw [str_append, h2]
    · have hiN' : i = N := by omega
      subst hiN'
      have e1 : decide ((i : Int) < i) = false := by simp only [decide_eq_false_iff_not]; omega
      have hall : s.take (begAt i s) = s := by rw [begAt_end i s HN.out.symm, List.take_length]
      rw [hall]
      have Hall := Lib.hid hall
      have hE : lineE s i = 61 := by rw [lineE, if_neg (by rw [← HN.out]; omega)]
      have HE := Lib.hid hE
      clear hall hE
      go_wp2_with fail
      refine (Line_any (Hp4.out.bel Hbr.out) (by omega) (fun _ _ => trivial)).mono ?_
      rintro e w5 ⟨rfl, hb5⟩
      rw [HE.out]
      go_wp2_with fail
      refine (alive6_calls _).mono ?_
      rintro e w6 ⟨rfl, hb6⟩
      go_wp2_with fail
      go_ret
      have hz : (((i : Int) == 0) == s.isEmpty) = true := by
        rw [HN.out]
        rcases split_line s with ⟨_, hc⟩ | ⟨u, t, rfl, hu, _⟩
        · rw [nlines_none s hc]
          cases s <;> simp
        · rw [nlines_feed u t hu]
          have e : (((nlines t + 1 : Nat) : Int) == 0) = false := by rw [beq_eq_false_iff_ne]; omega
          rw [e]
          cases u <;> simp
      refine ⟨?_, Hb3.out.trans ((below_then (below_then (below_then hb4 Hbr.out) hb5) hb6).mono Hb3.out.size)⟩
      show Ending.returned (.bool (((i : Int) == 0) == s.isEmpty)) = _
      rw [hz]
end Go.Proofs.Ytenihlicjahjhaa

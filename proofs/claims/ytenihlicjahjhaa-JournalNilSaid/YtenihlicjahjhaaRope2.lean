/-
  Rope2: a part of the proofs about the given program: contracts of its functions, each with the conditions that stand ahead of its colon.
-/
import Derived.Test.YtenihlicjahjhaaJoin
set_option linter.unusedVariables false
set_option linter.unusedSimpArgs false
namespace Go.Proofs.Ytenihlicjahjhaa
open Go Go.RowKit Go.Proofs Go.Shelf

theorem Len_same {R : Nat → Prop} {p : Option Addr} {s : List UInt8} {w : World} (h : IsRope R w p s) :
    Calls Try.prog 33 #[.pointer p] w fun e w' => e = .returned (.int .i64 s.length) ∧ w' = w :=
  (Len_calls h).mono fun _ _ ⟨he, hw⟩ => ⟨he, hw.symm⟩

theorem Join_calls {R : Nat → Prop} {a b : Option Addr} {s t : List UInt8} {w : World} (ha : IsRope R w a s) (hb : IsRope R w b t) (hl : s.length + t.length ≤ 65536) (hR : ∀ k, w.heap.size ≤ k → R k) :
    Calls Try.prog 32 #[.pointer a, .pointer b] w fun e w' => ∃ p, e = .returned (.tuple #[.pointer p, .int .i64 0]) ∧ IsRope R w' p (s ++ t) ∧ Below w.heap.size w w' := by
  go_enter Try.func32, Try.ntmps32
  go_wp2_with fail
  refine (Len_calls ha).mono ?_
  rintro e w' ⟨rfl, rfl⟩
  go_wp2_with fail
  refine (Len_calls hb).mono ?_
  rintro e w' ⟨rfl, rfl⟩
  go_wp2_with fail
  refine (join_calls ha hb hl hR).mono ?_
  rintro e w' ⟨p, rfl, hp, hb⟩
  go_wp2_with fail
  go_ret2
  exact ⟨_, rfl, hp, hb⟩

theorem Join_large {R : Nat → Prop} {a b : Option Addr} {s t : List UInt8} {w : World} (ha : IsRope R w a s) (hb : IsRope R w b t) (hl : 65536 < s.length + t.length) (h1 : s.length ≤ 65536) (h2 : t.length ≤ 65536) :
    Calls Try.prog 32 #[.pointer a, .pointer b] w fun e w' => e = .returned (.tuple #[.pointer none, .int .i64 73]) ∧ w = w' := by
  go_enter Try.func32, Try.ntmps32
  go_wp2_with fail
  refine (Len_calls ha).mono ?_
  rintro e w' ⟨rfl, rfl⟩
  go_wp2_with fail
  refine (Len_calls hb).mono ?_
  rintro e w' ⟨rfl, rfl⟩
  go_wp2_with fail
  go_ret2
  exact ⟨rfl, rfl⟩

theorem Index_out {R : Nat → Prop} {a : Option Addr} {s : List UInt8} {n : Int} {w : World} (ha : IsRope R w a s) (hn : n < 0 ∨ s.length ≤ n) :
    Calls Try.prog 56 #[.pointer a, .int .i64 n] w fun e w' => e = .returned (.tuple #[.int .u8 0, .int .i64 61]) ∧ w = w' := by
  by_cases h0 : n < 0
  · go_enter Try.func56, Try.ntmps56
    go_wp2_with fail
    go_ret2
    exact ⟨rfl, rfl⟩
  · have h1 : (s.length : Int) ≤ n := by omega
    go_enter Try.func56, Try.ntmps56
    go_wp2_with fail
    refine (Len_calls ha).mono ?_
    rintro e w' ⟨rfl, rfl⟩
    go_wp2_with fail
    go_ret2
    exact ⟨rfl, rfl⟩

/-- where a search for a byte stands -/
def Seeks (R : Nat → Prop) (w : World) (c : UInt8) (k : Nat) (r n : Value) (wr : World) : Prop :=
  ∃ (b : Addr) (ls : List (List UInt8)) (m : Nat), r = .pointer (some b) ∧ n = .int .i64 m ∧ RopeL R w (some b) ls ∧ ls.flatten[m]? = some c ∧ ls.flatten.length ≤ 65536 ∧ k = ls.length ∧ ∃ q, wr = w.drewN q

set_option maxRecDepth 100000 in
set_option maxHeartbeats 1000000 in
theorem Index_in {R : Nat → Prop} {a : Option Addr} {s : List UInt8} {n : Nat} {c : UInt8} {w : World} (ha : IsRope R w a s) (hn : s[n]? = some c) (hlen : s.length ≤ 65536) :
    Calls Try.prog 56 #[.pointer a, .int .i64 n] w fun e w' => e = .returned (.tuple #[.int .u8 c.toNat, .int .i64 0]) ∧ ∃ q, w' = w.drewN q := by
  have hlt : n < s.length := (List.getElem?_eq_some_iff.1 hn).1
  have hd1 : decide (s.length ≤ n) = false := by simp; omega
  have hd2 : decide ((n : Int) < 0) = false := by simp
  go_enter Try.func56, Try.ntmps56
  go_wp2_with fail
  refine (Len_calls ha).mono ?_
  rintro e w' ⟨rfl, rfl⟩
  go_wp2_with fail
  cases a with
  | none => exact absurd hlt (by rw [ha.none]; simp)
  | some a =>
  obtain ⟨ls, hL, hls⟩ := ha
  have Hn : Hid (ls.flatten[n]? = some c) := by rw [hls]; exact hn
  have Hl : Hid (ls.flatten.length ≤ 65536) := by rw [hls]; exact hlen
  clear hn hls
  go_loopg [0, 1] ls.length (fun k r m wr => Seeks R w c k r m wr)
  case atStart => exact ⟨a, ls, n, rfl, rfl, hL, Hn.out, Hl.out, rfl, 0, rfl⟩
  case round =>
    obtain ⟨b, l1, m, rfl, rfl, h1, hc, hb6, hk, q, rfl⟩ := hrel
    have Hb6 := Lib.hid hb6
    have Hc := Lib.hid hc
    have Hk := Lib.hid hk
    have Hlt : m < l1.flatten.length := (List.getElem?_eq_some_iff.1 hc).1
    clear hc hk hb6
    cases h1 with
    | leaf b s hRb hb hs =>
      have c0 : w.cell? ⟨b, 0, none⟩ = some (.string ⟨s.toArray⟩) := cell_row hb 0
      have c1 : w.cell? ⟨b, 1, none⟩ = some (.pointer none) := cell_row hb 1
      have hml : (m : Int) < (s.length : Int) := by simp at Hlt; omega
      clear hb Hlt
      go_wp2_with fail
      go_ret2
      refine ⟨?_, q, rfl⟩
      have e : (⟨s.toArray⟩ : ByteArray)[m]'(by have : (⟨s.toArray⟩ : ByteArray).size = s.length := rfl; omega) = s[m]'(by omega) := rfl
      have h5 := Hc.out
      simp only [List.flatten_cons, List.flatten_nil, List.append_nil] at h5
      rw [List.getElem?_eq_getElem (by omega)] at h5
      rw [e, Option.some.inj h5]; rfl
    | node b p1 q1 l m1 hRb hb hl hm hL1 hM1 =>
      have c1 : w.cell? ⟨b, 1, none⟩ = some (.pointer (some p1)) := cell_row hb 1
      have c2 : w.cell? ⟨b, 2, none⟩ = some (.pointer (some q1)) := cell_row hb 2
      obtain ⟨s1, hs1⟩ : ∃ x, x = l.flatten := ⟨_, rfl⟩
      obtain ⟨bp, tp, lp, rp, rfl, hRp, hs, hbp⟩ := IsRope.cells ⟨l, hL1, hs1.symm⟩
      have c3 : w.cell? ⟨bp, 3, none⟩ = some (.int .i64 s1.length) := cell_row hbp 3
      have Hs1 := Lib.hid hs1
      have hb1 : s1.length ≤ 65536 := by have := Hb6.out; rw [List.flatten_append, List.length_append, ← hs1] at this; omega
      have hb2 : m1.flatten.length ≤ 65536 := by have := Hb6.out; rw [List.flatten_append, List.length_append, ← hs1] at this; omega
      have hb3 : m ≤ 131072 := by have := Hb6.out; omega
      have Hb2 := Lib.hid hb2
      clear hb2
      have Hlt2 := Lib.hid Hlt
      clear hbp hb hs1 hs Hlt
      by_cases hml : (m : Int) < (s1.length : Int)
      · go_wp2_with fail
        go_roundg l.length
        case measure => have := Hk.out; have := List.length_pos_iff.2 hm; simp at *; omega
        case rel =>
          refine ⟨_, l, m, rfl, rfl, hL1, ?_, by rw [← Hs1.out]; exact hb1, rfl, q, rfl⟩
          have := Hc.out
          rw [List.flatten_append, List.getElem?_append_left (by rw [← Hs1.out]; omega)] at this
          exact this
      · go_wp2_with fail
        go_quiet (fail)
        go_wp2_with fail
        go_roundg m1.length
        case measure => have := Hk.out; have := List.length_pos_iff.2 hl; simp at *; omega
        case rel =>
          refine ⟨_, m1, m - s1.length, rfl, by go_num, hM1, ?_, Hb2.out, rfl, q + nq, by simp⟩
          have := Hc.out
          rw [List.flatten_append, List.getElem?_append_right (by rw [← Hs1.out]; omega)] at this
          rw [Hs1.out]
          exact this
end Go.Proofs.Ytenihlicjahjhaa

/-
  Lines: a part of the proofs about the given program: contracts of its functions, each with the conditions that stand ahead of its colon.
-/
import Derived.Test.YtenihlicjahjhaaCut
set_option linter.unusedVariables false
set_option linter.unusedSimpArgs false
namespace Go.Proofs.Ytenihlicjahjhaa
open Go Go.RowKit Go.Proofs Go.Shelf

/-- how many lines a text has -/
def nlines (s : List UInt8) : Nat := if s = [] then 0 else if s.getLast? = some 10 then feeds s else feeds s + 1

set_option maxRecDepth 100000 in
theorem Lines_calls {R : Nat → Prop} {p : Option Addr} {s : List UInt8} {w : World} (h : IsRope R w p s) (hlen : s.length ≤ 65536) :
    Calls Try.prog 54 #[.pointer p] w fun e w' => e = .returned (.int .i64 (nlines s)) ∧ ∃ q, w' = w.drewN q := by
  cases p with
  | none =>
    obtain rfl := h.none
    go_enter Try.func54, Try.ntmps54
    go_wp2_with fail
    refine (Len_calls h).mono ?_
    rintro e w' ⟨rfl, rfl⟩
    go_wp2_with fail
    go_ret
    exact ⟨rfl, 0, rfl⟩
  | some a =>
    obtain ⟨b, t, l, r, rfl, hRb, hs, hb⟩ := h.cells
    have c3 : w.cell? ⟨b, 3, none⟩ = some (.int .i64 s.length) := cell_row hb 3
    have c4 : w.cell? ⟨b, 4, none⟩ = some (.int .i64 (feeds s)) := cell_row hb 4
    have hs0 : ((s.length : Int) == 0) = false := by simp [hs]
    have hpos : 0 < s.length := List.length_pos_iff.2 hs
    obtain ⟨c, hc⟩ : ∃ c, s[s.length - 1]? = some c := ⟨_, List.getElem?_eq_getElem (by omega)⟩
    have hf : feeds s ≤ s.length := List.count_le_length
    have hn : nlines s = if c = 10 then feeds s else feeds s + 1 := by
      unfold nlines
      rw [if_neg hs, List.getLast?_eq_getElem?, hc]; simp
    have Hn := Lib.hid hn
    have Hc := Lib.hid hc
    clear hn hc hs hb
    by_cases h10 : c = 10
    · subst h10
      have hi := Index_in h Hc.out hlen
      rw [Int.natCast_sub (by omega : 1 ≤ s.length)] at hi
      have Hi := Lib.hid hi
      clear hi
      go_enter Try.func54, Try.ntmps54
      go_wp2_with fail
      refine (Len_calls h).mono ?_
      rintro e w' ⟨rfl, rfl⟩
      go_wp2_with fail
      refine Hi.out.mono ?_
      rintro e w' ⟨rfl, q, rfl⟩
      go_wp2_with fail
      go_ret
      exact ⟨by rw [Hn.out]; rfl, _, rfl⟩
    · have h10' : ((c.toNat : Int) == 10) = false := by
        simp only [beq_eq_false_iff_ne]
        intro e
        exact h10 (UInt8.toNat_inj.1 (by simpa using (by exact_mod_cast e : c.toNat = 10)))
      have hi := Index_in h Hc.out hlen
      rw [Int.natCast_sub (by omega : 1 ≤ s.length)] at hi
      have Hi := Lib.hid hi
      clear hi
      go_enter Try.func54, Try.ntmps54
      go_wp2_with fail
      refine (Len_calls h).mono ?_
      rintro e w' ⟨rfl, rfl⟩
      go_wp2_with fail
      refine Hi.out.mono ?_
      rintro e w' ⟨rfl, q, rfl⟩
      go_wp2_with fail
      go_ret
      exact ⟨by rw [Hn.out, if_neg h10]; rfl, _, rfl⟩
end Go.Proofs.Ytenihlicjahjhaa

/-
  Rope1: a part of the proofs about the given program: contracts of its functions, each with the conditions that stand ahead of its colon.
-/
import Derived.Test.YtenihlicjahjhaaRope0
import Derived.Test.YtenihlicjahjhaaShelf
import Derived.BigQuiet
import Derived.Deep.QuietTactic
import Derived.Deep.RegionWith
import Derived.Deep.RegionHeld3
import Derived.StillTailTactics
import Derived.WalkLawsBesides
import Derived.WalkSpells
set_option linter.unusedVariables false
set_option linter.unusedSimpArgs false
namespace Go.Proofs.Ytenihlicjahjhaa
open Go Go.RowKit Go.Proofs

theorem leaf_calls (R : Nat → Prop) (s : List UInt8) (w : World) (hR : ∀ k, w.heap.size ≤ k → R k) :
    Calls Try.prog 101 #[.string ⟨s.toArray⟩] w fun e w' => ∃ p, e = .returned (.pointer p) ∧ IsRope R w' p s ∧ Below w.heap.size w w' := by
  by_cases h0 : s = []
  · subst h0
    go_enter Try.func101, Try.ntmps101
    go_wp2
    go_ret
    exact ⟨_, rfl, IsRope.nil, Below.refl _ _⟩
  · have h1 : s.isEmpty = false := by simp [h0]
    go_enter Try.func101, Try.ntmps101
    go_wp2_with (go_at_call 134; refine (Try.strings_Count_one _ _ _).mono ?_; rintro e w' ⟨rfl, rfl⟩)
    go_ret
    refine ⟨_, rfl, ⟨[s], .leaf _ s (hR _ (Nat.le_refl _)) ?_ h0, by simp⟩, (Below.refl _ _).alloc (Nat.le_refl _) _⟩
    rw [heap_new]; simp [feeds, Lib.countByte]

theorem Of_calls (R : Nat → Prop) (s : List UInt8) (w : World) (hR : ∀ k, w.heap.size ≤ k → R k) (hl : s.length ≤ 65536) :
    Calls Try.prog 31 #[.string ⟨s.toArray⟩] w fun e w' => ∃ p, e = .returned (.tuple #[.pointer p, .int .i64 0]) ∧ IsRope R w' p s ∧ Below w.heap.size w w' := by
  go_enter Try.func31, Try.ntmps31
  go_wp2_with (go_at_call 101; refine (leaf_calls R _ _ hR).mono ?_; rintro e w' ⟨p, rfl, hp, hb⟩)
  go_ret2
  exact ⟨_, rfl, hp, hb⟩

theorem Of_large (s : List UInt8) (w : World) (hl : 65536 < s.length) :
    Calls Try.prog 31 #[.string ⟨s.toArray⟩] w fun e w' => e = .returned (.tuple #[.pointer none, .int .i64 73]) ∧ w = w' := by
  go_enter Try.func31, Try.ntmps31
  go_wp2_with fail
  go_ret2
  exact ⟨rfl, rfl⟩
end Go.Proofs.Ytenihlicjahjhaa

/-
  Join: a part of the proofs about the given program: contracts of its functions, each with the conditions that stand ahead of its colon.
-/
import Derived.Test.YtenihlicjahjhaaText
import Derived.StillTailTactics
set_option linter.unusedVariables false
set_option linter.unusedSimpArgs false
namespace Go.Proofs.Ytenihlicjahjhaa
open Go Go.RowKit Go.Proofs Go.Shelf

theorem str_append (s t : List UInt8) : (⟨s.toArray⟩ : ByteArray) ++ ⟨t.toArray⟩ = ⟨(s ++ t).toArray⟩ := by
  apply ByteArray.ext
  simp

set_option maxRecDepth 100000 in
set_option maxHeartbeats 1000000 in
theorem join_calls {R : Nat → Prop} {a b : Option Addr} {s t : List UInt8} {w : World} (ha : IsRope R w a s) (hb : IsRope R w b t) (hl : s.length + t.length ≤ 65536) (hR : ∀ k, w.heap.size ≤ k → R k) :
    Calls Try.prog 102 #[.pointer a, .pointer b] w fun e w' => ∃ p, e = .returned (.pointer p) ∧ IsRope R w' p (s ++ t) ∧ Below w.heap.size w w' := by
  cases a with
  | none =>
    obtain rfl := ha.none
    go_enter Try.func102, Try.ntmps102
    go_wp2_with (go_at_call 33; refine (Len_calls ha).mono ?_; rintro e w' ⟨rfl, rfl⟩)
    go_ret
    exact ⟨_, rfl, by simpa using hb, Below.refl _ _⟩
  | some a =>
    obtain ⟨ba, ta, la, ra, rfl, hRa, hs, hba⟩ := ha.cells
    have ha0 : ((s.length : Int) == 0) = false := by simp [hs]
    cases b with
    | none =>
      obtain rfl := hb.none
      go_enter Try.func102, Try.ntmps102
      go_wp2_with fail
      refine (Len_calls ha).mono ?_
      rintro e w' ⟨rfl, rfl⟩
      go_wp2_with fail
      refine (Len_calls hb).mono ?_
      rintro e w' ⟨rfl, rfl⟩
      go_wp2_with fail
      go_ret
      exact ⟨_, rfl, by simpa using ha, Below.refl _ _⟩
    | some b =>
      obtain ⟨bb, tb, lb, rb, rfl, hRb, ht, hbb⟩ := hb.cells
      have hb0 : ((t.length : Int) == 0) = false := by simp [ht]
      have a3 : w.cell? ⟨ba, 3, none⟩ = some (.int .i64 s.length) := cell_row hba 3
      have a4 : w.cell? ⟨ba, 4, none⟩ = some (.int .i64 (feeds s)) := cell_row hba 4
      have b3 : w.cell? ⟨bb, 3, none⟩ = some (.int .i64 t.length) := cell_row hbb 3
      have b4 : w.cell? ⟨bb, 4, none⟩ = some (.int .i64 (feeds t)) := cell_row hbb 4
      have f1 : feeds s ≤ s.length := List.count_le_length
      have f2 : feeds t ≤ t.length := List.count_le_length
      have Hs := Lib.hid hs
      have Ht := Lib.hid ht
      clear hba hbb hs ht
      by_cases h64 : s.length + t.length ≤ 64
      · go_enter Try.func102, Try.ntmps102
        go_wp2_with fail
        refine (Len_calls ha).mono ?_
        rintro e w' ⟨rfl, rfl⟩
        go_wp2_with fail
        refine (Len_calls hb).mono ?_
        rintro e w' ⟨rfl, rfl⟩
        go_wp2_with fail
        go_quiet (fail)
        go_wp2_with fail
        refine (Text_calls (ha.drewN _) (by omega)).mono ?_
        rintro e w1 ⟨rfl, hb1⟩
        go_wp2_with fail
        refine (Text_calls ((hb.drewN _).bel hb1) (by omega)).mono ?_
        rintro e w2 ⟨rfl, hb2⟩
        have hb12 := (below_drewN (Below.refl _ _) _).trans (hb1.trans (hb2.mono hb1.size))
        go_wp2_with fail
        rw [str_append]
        refine (leaf_calls R _ _ (fun k hk => hR k (by have := hb12.size; omega))).mono ?_
        rintro e w3 ⟨p, rfl, hp, hb3⟩
        go_wp2_with fail
        go_ret
        exact ⟨_, rfl, hp, hb12.trans (hb3.mono hb12.size)⟩
      · go_enter Try.func102, Try.ntmps102
        go_wp2_with fail
        refine (Len_calls ha).mono ?_
        rintro e w' ⟨rfl, rfl⟩
        go_wp2_with fail
        refine (Len_calls hb).mono ?_
        rintro e w' ⟨rfl, rfl⟩
        go_wp2_with fail
        go_quiet (fail)
        go_wp2_with fail
        refine wp_region_still_tail 21 (by kernel_rfl) (by kernel_rfl) ?_
        change wpStill _ _ (World.drew _) _ _ _
        simp only [List.take_succ_cons, List.take_zero, List.drop_succ_cons, List.drop_zero]
        repeat still_step
        refine wpStill_nil ?_
        change wpList _ _ _ _ _ (World.drew _)
        go_wp2_with fail
        go_ret
        obtain ⟨l, hL, rfl⟩ := ha
        obtain ⟨m, hM, rfl⟩ := hb
        refine ⟨some ⟨w.heap.size, 0, none⟩, rfl, ⟨l ++ m, .node _ _ _ l m (hR _ (Nat.le_refl _)) ?_ hL.some_ne.1 hM.some_ne.1 (hL.keep ?_) (hM.keep ?_), by simp⟩, ?_⟩
        · exact heap_new w _
        · intro k c f _ hk; exact (Below.heap_alloc w _ k (lt_of_heap hk))
        · intro k c f _ hk; exact (Below.heap_alloc w _ k (lt_of_heap hk))
        · exact ((Below.refl _ w).alloc (Nat.le_refl _) _).trans ⟨rfl, rfl, rfl, Nat.le_refl _, fun _ _ => rfl⟩
end Go.Proofs.Ytenihlicjahjhaa

/-
  Alike: the walk of the statement RopeAlike: it answers true at every input.
-/
import Derived.Test.YtenihlicjahjhaaLine
import Derived.Test.YtenihlicjahjhaaCuts
import Derived.LoopN
set_option linter.unusedVariables false
set_option linter.unusedSimpArgs false
namespace Go.Proofs.Ytenihlicjahjhaa
open Go Go.RowKit Go.Proofs Go.Shelf

/-- the two arrays: the texts, and the ropes -/
structure Arrays (w W : World) (x y z : List UInt8) (p q r : Option Addr) : Prop where
  l : W.heap[w.heap.size]? = some (.cells #[.string ⟨x.toArray⟩, .string ⟨y.toArray⟩, .string ⟨z.toArray⟩] 78)
  r : W.heap[w.heap.size + 1]? = some (.cells #[.pointer p, .pointer q, .pointer r] 79)
  below : Below w.heap.size w W

theorem Arrays.bel {w W W' : World} {x y z : List UInt8} {p q r : Option Addr} (h : Arrays w W x y z p q r) (hb : Below W.heap.size W W') : Arrays w W' x y z p q r :=
  ⟨(hb.block _ (lt_of_heap h.l)).trans h.l, (hb.block _ (lt_of_heap h.r)).trans h.r, h.below.trans (hb.mono h.below.size)⟩

theorem Arrays.free {w W : World} {x y z : List UInt8} {p q r : Option Addr} (h : Arrays w W x y z p q r) (j : Nat) : W.frozen? ⟨w.heap.size + 1, j, none⟩ = false := by
  simp [World.frozen?, h.r]

theorem row_set {W : World} {b j : Nat} {c : Array Value} {t : Nat} (h : W.heap[b]? = some (.cells c t)) (u : Value) : (W.setCell ⟨b, j, none⟩ u).heap[b]? = some (.cells (c.setIfInBounds j u) t) := by
  have := lt_of_heap h
  simp [World.setCell, Array.getElem?_modify, h]

theorem IsRope.only {R : Nat → Prop} {w w' : World} {p : Option Addr} {s : List UInt8} (h : IsRope R w p s) {t : Nat} (ho : Only (· = t) w w') (ht : ¬ 173 = t) : IsRope R w' p s :=
  h.keep fun k c f _ hk => (ho.cell hk ht).trans hk.symm

theorem Arrays.only {w W : World} {x y z : List UInt8} {p q r : Option Addr} (h : Arrays w W x y z p q r) (j : Nat) (u : Value) : Only (· = 79) W (W.setCell ⟨w.heap.size + 1, j, none⟩ u) :=
  (Only.refl (· = 79) W).setCell (a := ⟨w.heap.size + 1, j, none⟩) h.r rfl u

theorem Arrays.set0 {w W : World} {x y z : List UInt8} {p q r : Option Addr} (h : Arrays w W x y z p q r) (u : Option Addr) : Arrays w (W.setCell ⟨w.heap.size + 1, 0, none⟩ (.pointer u)) x y z u q r :=
  ⟨(Below.heap_setCell _ _ _ _ (by show w.heap.size ≠ w.heap.size + 1; omega)).trans h.l, row_set h.r _, h.below.setCell (Nat.le_succ _) _⟩
theorem Arrays.set1 {w W : World} {x y z : List UInt8} {p q r : Option Addr} (h : Arrays w W x y z p q r) (u : Option Addr) : Arrays w (W.setCell ⟨w.heap.size + 1, 1, none⟩ (.pointer u)) x y z p u r :=
  ⟨(Below.heap_setCell _ _ _ _ (by show w.heap.size ≠ w.heap.size + 1; omega)).trans h.l, row_set h.r _, h.below.setCell (Nat.le_succ _) _⟩
theorem Arrays.set2 {w W : World} {x y z : List UInt8} {p q r : Option Addr} (h : Arrays w W x y z p q r) (u : Option Addr) : Arrays w (W.setCell ⟨w.heap.size + 1, 2, none⟩ (.pointer u)) x y z p q u :=
  ⟨(Below.heap_setCell _ _ _ _ (by show w.heap.size ≠ w.heap.size + 1; omega)).trans h.l, row_set h.r _, h.below.setCell (Nat.le_succ _) _⟩

set_option maxRecDepth 100000 in
set_option maxHeartbeats 2000000 in
theorem RopeAlike_walk (x y z : List UInt8) (n : Int) (w : World) (hn : -9223372036854775808 ≤ n ∧ n ≤ 9223372036854775807) :
    Calls Try.prog 9 #[.agg #[.string ⟨x.toArray⟩, .string ⟨y.toArray⟩, .string ⟨z.toArray⟩], .int .i64 n] w fun e w' => e = .returned (.bool true) ∧ Below w.heap.size w w' := by
  go_enter Try.func9, Try.ntmps9
  go_wp2_with fail
  obtain ⟨W0, hW0⟩ : ∃ W0, W0 = (w.alloc (.cells #[.string ⟨x.toArray⟩, .string ⟨y.toArray⟩, .string ⟨z.toArray⟩] 78)).alloc (.cells #[.pointer none, .pointer none, .pointer none] 79) := ⟨_, rfl⟩
  rw [← hW0]
  have hA0 : Arrays w W0 x y z none none none := by
    rw [hW0]
    refine ⟨?_, ?_, ((Below.refl _ w).alloc (Nat.le_refl _) _).alloc (by simp) _⟩
    · rw [Below.heap_alloc _ _ _ (by simp)]; exact heap_new _ _
    · have := heap_new (w.alloc (.cells #[.string ⟨x.toArray⟩, .string ⟨y.toArray⟩, .string ⟨z.toArray⟩] 78)) (.cells #[.pointer none, .pointer none, .pointer none] 79)
      rwa [World.size_alloc] at this
  clear hW0
  refine wp_loop_rounds 4 ?_
  rw [rounds_succ]
  have c := cell_row hA0.l 0
  by_cases hx : 300 < x.length
  · have d : decide (300 < (x.length : Int)) = true := by simp only [decide_eq_true_eq]; omega
    go_wp2_with fail
    refine (alive6_calls _).mono ?_
    rintro e w' ⟨rfl, hb⟩
    go_wp2_with fail
    go_ret
    exact ⟨rfl, hA0.below.trans (hb.mono hA0.below.size)⟩
  have d : decide (300 < (x.length : Int)) = false := by simp only [decide_eq_false_iff_not]; omega
  go_wp2_with fail
  refine (Of_calls (fun _ => True) x _ (fun _ _ => trivial) (by omega)).mono ?_
  rintro e W1 ⟨p0, rfl, hp0_0, hb1⟩
  have hA1 := hA0.bel hb1
  have f := hA1.free 0
  have g := cell_row hA1.r 0
  have hA2 := hA1.set0 p0
  have hp0_1 := hp0_0.only (hA1.only 0 (.pointer p0)) (by decide)
  clear c d
  go_wp2_with fail
  clear f g
  rw [rounds_succ]
  have c := cell_row hA2.l 1
  by_cases hy : 300 < y.length
  · have d : decide (300 < (y.length : Int)) = true := by simp only [decide_eq_true_eq]; omega
    go_wp2_with fail
    refine (alive6_calls _).mono ?_
    rintro e w' ⟨rfl, hb⟩
    go_wp2_with fail
    go_ret
    exact ⟨rfl, hA2.below.trans (hb.mono hA2.below.size)⟩
  have d : decide (300 < (y.length : Int)) = false := by simp only [decide_eq_false_iff_not]; omega
  go_wp2_with fail
  refine (Of_calls (fun _ => True) y _ (fun _ _ => trivial) (by omega)).mono ?_
  rintro e W2 ⟨p1, rfl, hp1_0, hb2⟩
  have hA3 := hA2.bel hb2
  have f := hA3.free 1
  have g := cell_row hA3.r 1
  have hA4 := hA3.set1 p1
  have hp0_2 := (hp0_1.bel hb2).only (hA3.only 1 (.pointer p1)) (by decide)
  have hp1_1 := hp1_0.only (hA3.only 1 (.pointer p1)) (by decide)
  clear c d
  go_wp2_with fail
  clear f g
  rw [rounds_succ]
  have c := cell_row hA4.l 2
  by_cases hz : 300 < z.length
  · have d : decide (300 < (z.length : Int)) = true := by simp only [decide_eq_true_eq]; omega
    go_wp2_with fail
    refine (alive6_calls _).mono ?_
    rintro e w' ⟨rfl, hb⟩
    go_wp2_with fail
    go_ret
    exact ⟨rfl, hA4.below.trans (hb.mono hA4.below.size)⟩
  have d : decide (300 < (z.length : Int)) = false := by simp only [decide_eq_false_iff_not]; omega
  go_wp2_with fail
  refine (Of_calls (fun _ => True) z _ (fun _ _ => trivial) (by omega)).mono ?_
  rintro e W3 ⟨p2, rfl, hp2_0, hb3⟩
  have hA5 := hA4.bel hb3
  have f := hA5.free 2
  have g := cell_row hA5.r 2
  have hA6 := hA5.set2 p2
  have hp0_3 := (hp0_2.bel hb3).only (hA5.only 2 (.pointer p2)) (by decide)
  have hp1_2 := (hp1_1.bel hb3).only (hA5.only 2 (.pointer p2)) (by decide)
  have hp2_1 := hp2_0.only (hA5.only 2 (.pointer p2)) (by decide)
  clear c d
  go_wp2_with fail
  clear f g
  rw [rounds_succ]
  obtain ⟨W4, hW4⟩ : ∃ W4, W4 = W3.setCell ⟨w.heap.size + 1, 2, none⟩ (.pointer p2) := ⟨_, rfl⟩
  rw [← hW4] at hA6 hp0_3 hp1_2 hp2_1 ⊢
  clear hW4 hA0 hA1 hA2 hA3 hA4 hA5 hp0_0 hp0_1 hp0_2 hp1_0 hp1_1 hp2_0
  obtain ⟨s, hs⟩ : ∃ s, s = (x ++ y) ++ z := ⟨_, rfl⟩
  have hs' : s = x ++ (y ++ z) := by rw [hs, List.append_assoc]
  have hsl : s.length ≤ 900 := by rw [hs]; simp only [List.length_append]; omega
  have hxy : ((⟨x.toArray⟩ : ByteArray) ++ ⟨y.toArray⟩) ++ ⟨z.toArray⟩ = ⟨s.toArray⟩ := by rw [str_append, str_append, hs]
  have Hs := Lib.hid hs
  have Hs' := Lib.hid hs'
  clear hs hs'
  have r0 : W4.cell? ⟨w.heap.size + 1, 0, none⟩ = some (.pointer p0) := cell_row hA6.r 0
  have r1 : W4.cell? ⟨w.heap.size + 1, 1, none⟩ = some (.pointer p1) := cell_row hA6.r 1
  go_wp2_with fail
  refine (Join_calls hp0_3 hp1_2 (by omega) (fun _ _ => trivial)).mono ?_
  rintro e W5 ⟨q1, rfl, hq1, hb5⟩
  have hA7 := hA6.bel hb5
  have r2 : W5.cell? ⟨w.heap.size + 1, 2, none⟩ = some (.pointer p2) := cell_row hA7.r 2
  clear r0 r1
  go_wp2_with fail
  refine (Join_calls hq1 (hp2_1.bel hb5) (by simp only [List.length_append]; omega) (fun _ _ => trivial)).mono ?_
  rintro e W6 ⟨qa, rfl, hqa, hb6⟩
  rw [← Hs.out] at hqa
  have Hqa := Lib.hid hqa
  have hA8 := hA7.bel hb6
  have r1 : W6.cell? ⟨w.heap.size + 1, 1, none⟩ = some (.pointer p1) := cell_row hA8.r 1
  have r3 : W6.cell? ⟨w.heap.size + 1, 2, none⟩ = some (.pointer p2) := cell_row hA8.r 2
  clear hqa r2
  go_wp2_with fail
  refine (Join_calls ((hp1_2.bel hb5).bel hb6) ((hp2_1.bel hb5).bel hb6) (by omega) (fun _ _ => trivial)).mono ?_
  rintro e W7 ⟨q2, rfl, hq2, hb7⟩
  have hA9 := hA8.bel hb7
  have r0 : W7.cell? ⟨w.heap.size + 1, 0, none⟩ = some (.pointer p0) := cell_row hA9.r 0
  clear r1 r3
  go_wp2_with fail
  refine (Join_calls (((hp0_3.bel hb5).bel hb6).bel hb7) hq2 (by simp only [List.length_append]; omega) (fun _ _ => trivial)).mono ?_
  rintro e W8 ⟨qb, rfl, hqb, hb8⟩
  rw [← Hs'.out] at hqb
  have Hqb := Lib.hid hqb
  have hA10 := hA9.bel hb8
  clear hqb r0 hA6 hA7 hA8 hA9
  have Ha := Lib.hid ((Hqa.out.bel hb7).bel hb8)
  go_wp2_with fail
  refine (Index_any Ha.out (by omega)).mono ?_
  rintro e W9 ⟨rfl, hb9⟩
  go_wp2_with fail
  refine (Index_any (Hqb.out.bel hb9) (by omega)).mono ?_
  rintro e W10 ⟨rfl, hb10⟩
  go_wp2_with fail
  refine (Line_any ((Ha.out.bel hb9).bel hb10) (by omega) (fun _ _ => trivial)).mono ?_
  rintro e W11 ⟨rfl, hb11⟩
  go_wp2_with fail
  refine (Line_any (((Hqb.out.bel hb9).bel hb10).bel hb11) (by omega) (fun _ _ => trivial)).mono ?_
  rintro e W12 ⟨rfl, hb12⟩
  have hA := (((hA10.bel hb9).bel hb10).bel hb11).bel hb12
  have Ra := Lib.hid ((((Ha.out.bel hb9).bel hb10).bel hb11).bel hb12)
  have Rb := Lib.hid ((((Hqb.out.bel hb9).bel hb10).bel hb11).bel hb12)
  have s0 : W12.cell? ⟨w.heap.size, 0, none⟩ = some (.string ⟨x.toArray⟩) := cell_row hA.l 0
  have s1 : W12.cell? ⟨w.heap.size, 1, none⟩ = some (.string ⟨y.toArray⟩) := cell_row hA.l 1
  have s2 : W12.cell? ⟨w.heap.size, 2, none⟩ = some (.string ⟨z.toArray⟩) := cell_row hA.l 2
  go_wp2_with fail
  have z1 : ¬ (9223372036854775807 < x.length + y.length) := by omega
  have z2 : ¬ (9223372036854775807 < x.length + y.length + z.length) := by omega
  refine lOpen [(13, (fun W => W.cell? ⟨w.heap.size, 0, none⟩ = some (.string ⟨x.toArray⟩))), (15, (fun W => W.cell? ⟨w.heap.size, 1, none⟩ = some (.string ⟨y.toArray⟩))), (18, (fun W => W.cell? ⟨w.heap.size, 2, none⟩ = some (.string ⟨z.toArray⟩)))] [(0, []), (11, []), (24, [13, 15, 18]), (26, [13, 15, 18]), (31, [13, 15, 18]), (33, [13, 15, 18])] [13, 15, 18] (by kernel_rfl) ?_
  refine lE (i := 0) (live' := [13, 15, 18]) rfl (by kernel_rfl) (by kernel_rfl) ⟨s0, s1, s2, trivial⟩ (fun K hK => ?_)
  go_simp
  refine (alive6_calls _).mono ?_
  rintro e V1 ⟨rfl, k1⟩
  have hB1 := (hA.bel ((Below.refl _ W12).drew)).bel k1
  refine hK _ _ ?_
  clear hK K
  try simp only [put_lit, put_none, List.set_cons_succ, List.set_cons_zero]
  refine lP (i := 1) (v := ?_) rfl (by kernel_rfl) (fun _ _ _ h => h) rfl ?_ ?_
  rotate_left
  · intro W; go_simp; try with_reducible rfl
  try simp only [put_lit, put_none, List.set_cons_succ, List.set_cons_zero]
  refine lP (i := 2) (v := ?_) rfl (by kernel_rfl) (fun _ _ _ h => h) rfl ?_ ?_
  rotate_left
  · intro W; go_simp; try with_reducible rfl
  try simp only [put_lit, put_none, List.set_cons_succ, List.set_cons_zero]
  refine lP (i := 3) (v := ?_) rfl (by kernel_rfl) (fun _ _ _ h => h) rfl ?_ ?_
  rotate_left
  · intro W; go_simp; try with_reducible rfl
  try simp only [put_lit, put_none, List.set_cons_succ, List.set_cons_zero]
  refine lP (i := 4) (v := ?_) rfl (by kernel_rfl) (fun _ _ _ h => h) rfl ?_ ?_
  rotate_left
  · intro W; go_simp; try with_reducible rfl
  try simp only [put_lit, put_none, List.set_cons_succ, List.set_cons_zero]
  refine lP (i := 5) (v := ?_) rfl (by kernel_rfl) (fun _ _ _ h => h) rfl ?_ ?_
  rotate_left
  · intro W; go_simp; try with_reducible rfl
  try simp only [put_lit, put_none, List.set_cons_succ, List.set_cons_zero]
  refine lP (i := 6) (v := ?_) rfl (by kernel_rfl) (fun _ _ _ h => h) rfl ?_ ?_
  rotate_left
  · intro W; go_simp; try with_reducible rfl
  try simp only [put_lit, put_none, List.set_cons_succ, List.set_cons_zero]
  refine lP (i := 7) (v := ?_) rfl (by kernel_rfl) (fun _ _ _ h => h) rfl ?_ ?_
  rotate_left
  · intro W; go_simp; try with_reducible rfl
  try simp only [put_lit, put_none, List.set_cons_succ, List.set_cons_zero]
  refine lP (i := 8) (v := ?_) rfl (by kernel_rfl) (fun _ _ _ h => h) rfl ?_ ?_
  rotate_left
  · intro W; go_simp; try with_reducible rfl
  try simp only [put_lit, put_none, List.set_cons_succ, List.set_cons_zero]
  refine lP (i := 9) (v := ?_) rfl (by kernel_rfl) (fun _ _ _ h => h) rfl ?_ ?_
  rotate_left
  · intro W; go_simp; try with_reducible rfl
  try simp only [put_lit, put_none, List.set_cons_succ, List.set_cons_zero]
  refine lP (i := 10) (v := ?_) rfl (by kernel_rfl) (fun _ _ _ h => h) rfl ?_ ?_
  rotate_left
  · intro W; go_simp; try with_reducible rfl
  try simp only [put_lit, put_none, List.set_cons_succ, List.set_cons_zero]
  refine lP (i := 12) (v := ?_) rfl (by kernel_rfl) (fun _ _ _ h => h) rfl ?_ ?_
  rotate_left
  · intro W; go_simp; try with_reducible rfl
  try simp only [put_lit, put_none, List.set_cons_succ, List.set_cons_zero]
  refine lP (i := 14) (v := ?_) rfl (by kernel_rfl) (fun _ _ _ h => h) rfl ?_ ?_
  rotate_left
  · intro W; go_simp; try with_reducible rfl
  try simp only [put_lit, put_none, List.set_cons_succ, List.set_cons_zero]
  refine lP (i := 17) (v := ?_) rfl (by kernel_rfl) (fun _ _ _ h => h) rfl ?_ ?_
  rotate_left
  · intro W; go_simp; try with_reducible rfl
  try simp only [put_lit, put_none, List.set_cons_succ, List.set_cons_zero]
  refine lR (i := 13) (v := ?_) rfl (by kernel_rfl) (fun _ _ _ h => h) rfl ?_ ?_
  rotate_left
  · intro W hS; have hc : (fun W => W.cell? ⟨w.heap.size, 0, none⟩ = some (.string ⟨x.toArray⟩)) W := hS; clear hS; dsimp only at hc; go_simp; try with_reducible rfl
  try simp only [put_lit, put_none, List.set_cons_succ, List.set_cons_zero]
  refine lR (i := 15) (v := ?_) rfl (by kernel_rfl) (fun _ _ _ h => h) rfl ?_ ?_
  rotate_left
  · intro W hS; have hc : (fun W => W.cell? ⟨w.heap.size, 1, none⟩ = some (.string ⟨y.toArray⟩)) W := hS; clear hS; dsimp only at hc; go_simp; try with_reducible rfl
  try simp only [put_lit, put_none, List.set_cons_succ, List.set_cons_zero]
  refine lP (i := 16) (v := ?_) rfl (by kernel_rfl) (fun _ _ _ h => h) rfl ?_ ?_
  rotate_left
  · intro W; go_simp; try with_reducible rfl
  try simp only [put_lit, put_none, List.set_cons_succ, List.set_cons_zero]
  refine lR (i := 18) (v := ?_) rfl (by kernel_rfl) (fun _ _ _ h => h) rfl ?_ ?_
  rotate_left
  · intro W hS; have hc : (fun W => W.cell? ⟨w.heap.size, 2, none⟩ = some (.string ⟨z.toArray⟩)) W := hS; clear hS; dsimp only at hc; go_simp; try with_reducible rfl
  try simp only [put_lit, put_none, List.set_cons_succ, List.set_cons_zero]
  refine lP (i := 19) (v := ?_) rfl (by kernel_rfl) (fun _ _ _ h => h) rfl ?_ ?_
  rotate_left
  · intro W; go_simp; try with_reducible rfl
  try simp only [put_lit, put_none, List.set_cons_succ, List.set_cons_zero]
  refine lE (i := 11) (live' := [13, 15, 18]) rfl (by kernel_rfl) (by kernel_rfl) ⟨cell_row hB1.l 0, cell_row hB1.l 1, cell_row hB1.l 2, trivial⟩ (fun K hK => ?_)
  go_simp
  refine (Text_calls (Ra.out.drew.bel k1) (by omega)).mono ?_
  rintro e V2 ⟨rfl, k2⟩
  have hB2 := hB1.bel k2
  refine hK _ _ ?_
  clear hK K
  try simp only [put_lit, put_none, List.set_cons_succ, List.set_cons_zero]
  refine lP (i := 20) (v := ?_) rfl (by kernel_rfl) (fun _ _ _ h => h) rfl ?_ ?_
  rotate_left
  · intro W; go_simp; try with_reducible rfl
  try simp only [put_lit, put_none, List.set_cons_succ, List.set_cons_zero]
  refine lP (i := 21) (v := ?_) rfl (by kernel_rfl) (fun _ _ _ h => h) rfl ?_ ?_
  rotate_left
  · intro W; go_simp; try with_reducible rfl
  try simp only [put_lit, put_none, List.set_cons_succ, List.set_cons_zero]
  refine lP (i := 22) (v := ?_) rfl (by kernel_rfl) (fun _ _ _ h => h) rfl ?_ ?_
  rotate_left
  · intro W; go_simp; try with_reducible rfl
  try simp only [put_lit, put_none, List.set_cons_succ, List.set_cons_zero]
  refine lP (i := 23) (v := ?_) rfl (by kernel_rfl) (fun _ _ _ h => h) rfl ?_ ?_
  rotate_left
  · intro W; go_simp; try with_reducible rfl
  try simp only [put_lit, put_none, List.set_cons_succ, List.set_cons_zero]
  refine lP (i := 25) (v := ?_) rfl (by kernel_rfl) (fun _ _ _ h => h) rfl ?_ ?_
  rotate_left
  · intro W; go_simp; try with_reducible rfl
  try simp only [put_lit, put_none, List.set_cons_succ, List.set_cons_zero]
  refine lE (i := 24) (live' := []) rfl (by kernel_rfl) (by kernel_rfl) ⟨cell_row hB2.l 0, cell_row hB2.l 1, cell_row hB2.l 2, trivial⟩ (fun K hK => ?_)
  go_simp
  refine (Text_calls ((Rb.out.drew.bel k1).bel k2) (by omega)).mono ?_
  rintro e V3 ⟨rfl, k3⟩
  refine hK _ _ ?_
  clear hK K
  try simp only [put_lit, put_none, List.set_cons_succ, List.set_cons_zero]
  refine lE (i := 26) (live' := []) rfl (by kernel_rfl) (by kernel_rfl) trivial (fun K hK => ?_)
  go_simp
  refine (Text_calls (((Ra.out.drew.bel k1).bel k2).bel k3) (by omega)).mono ?_
  rintro e V4 ⟨rfl, k4⟩
  refine hK _ _ ?_
  clear hK K
  try simp only [put_lit, put_none, List.set_cons_succ, List.set_cons_zero]
  refine lP (i := 27) (v := ?_) rfl (by kernel_rfl) (fun _ _ _ h => h) rfl ?_ ?_
  rotate_left
  · intro W; go_simp; try with_reducible rfl
  try simp only [put_lit, put_none, List.set_cons_succ, List.set_cons_zero]
  refine lP (i := 28) (v := ?_) rfl (by kernel_rfl) (fun _ _ _ h => h) rfl ?_ ?_
  rotate_left
  · intro W; go_simp; try with_reducible rfl
  try simp only [put_lit, put_none, List.set_cons_succ, List.set_cons_zero]
  refine lP (i := 29) (v := ?_) rfl (by kernel_rfl) (fun _ _ _ h => h) rfl ?_ ?_
  rotate_left
  · intro W; go_simp; try with_reducible rfl
  try simp only [put_lit, put_none, List.set_cons_succ, List.set_cons_zero]
  refine lP (i := 30) (v := ?_) rfl (by kernel_rfl) (fun _ _ _ h => h) rfl ?_ ?_
  rotate_left
  · intro W; go_simp; try with_reducible rfl
  try simp only [put_lit, put_none, List.set_cons_succ, List.set_cons_zero]
  refine lP (i := 32) (v := ?_) rfl (by kernel_rfl) (fun _ _ _ h => h) rfl ?_ ?_
  rotate_left
  · intro W; go_simp; try with_reducible rfl
  try simp only [put_lit, put_none, List.set_cons_succ, List.set_cons_zero]
  refine lE (i := 31) (live' := []) rfl (by kernel_rfl) (by kernel_rfl) trivial (fun K hK => ?_)
  go_simp
  refine (Lines_any ((((Ra.out.drew.bel k1).bel k2).bel k3).bel k4) (by omega)).mono ?_
  rintro e V5 ⟨rfl, k5⟩
  refine hK _ _ ?_
  clear hK K
  try simp only [put_lit, put_none, List.set_cons_succ, List.set_cons_zero]
  refine lE (i := 33) (live' := []) rfl (by kernel_rfl) (by kernel_rfl) trivial (fun K hK => ?_)
  go_simp
  refine (Lines_any (((((Rb.out.drew.bel k1).bel k2).bel k3).bel k4).bel k5) (by omega)).mono ?_
  rintro e V6 ⟨rfl, k6⟩
  refine hK _ _ ?_
  clear hK K
  try simp only [put_lit, put_none, List.set_cons_succ, List.set_cons_zero]
  refine lP (i := 34) (v := ?_) rfl (by kernel_rfl) (fun _ _ _ h => h) rfl ?_ ?_
  rotate_left
  · intro W; go_simp; try with_reducible rfl
  try simp only [put_lit, put_none, List.set_cons_succ, List.set_cons_zero]
  refine lP (i := 35) (v := ?_) rfl (by kernel_rfl) (fun _ _ _ h => h) rfl ?_ ?_
  rotate_left
  · intro W; go_simp; try with_reducible rfl
  try simp only [put_lit, put_none, List.set_cons_succ, List.set_cons_zero]
  refine lP (i := 36) (v := ?_) rfl (by kernel_rfl) (fun _ _ _ h => h) rfl ?_ ?_
  rotate_left
  · intro W; go_simp; try with_reducible rfl
  try simp only [put_lit, put_none, List.set_cons_succ, List.set_cons_zero]
  refine lP (i := 37) (v := ?_) rfl (by kernel_rfl) (fun _ _ _ h => h) rfl ?_ ?_
  rotate_left
  · intro W; go_simp; try with_reducible rfl
  try simp only [put_lit, put_none, List.set_cons_succ, List.set_cons_zero]
  refine lP (i := 38) (v := ?_) rfl (by kernel_rfl) (fun _ _ _ h => h) rfl ?_ ?_
  rotate_left
  · intro W; go_simp; try with_reducible rfl
  try simp only [put_lit, put_none, List.set_cons_succ, List.set_cons_zero]
  refine lP (i := 39) (v := ?_) rfl (by kernel_rfl) (fun _ _ _ h => h) rfl ?_ ?_
  rotate_left
  · intro W; go_simp; try with_reducible rfl
  try simp only [put_lit, put_none, List.set_cons_succ, List.set_cons_zero]
  refine lP (i := 40) (v := ?_) rfl (by kernel_rfl) (fun _ _ _ h => h) rfl ?_ ?_
  rotate_left
  · intro W; go_simp; try with_reducible rfl
  try simp only [put_lit, put_none, List.set_cons_succ, List.set_cons_zero]
  refine lP (i := 41) (v := ?_) rfl (by kernel_rfl) (fun _ _ _ h => h) rfl ?_ ?_
  rotate_left
  · intro W; go_simp; try with_reducible rfl
  try simp only [put_lit, put_none, List.set_cons_succ, List.set_cons_zero]
  refine lP (i := 42) (v := ?_) rfl (by kernel_rfl) (fun _ _ _ h => h) rfl ?_ ?_
  rotate_left
  · intro W; go_simp; try with_reducible rfl
  try simp only [put_lit, put_none, List.set_cons_succ, List.set_cons_zero]
  refine lP (i := 43) (v := ?_) rfl (by kernel_rfl) (fun _ _ _ h => h) rfl ?_ ?_
  rotate_left
  · intro W; go_simp; try with_reducible rfl
  try simp only [put_lit, put_none, List.set_cons_succ, List.set_cons_zero]
  refine lP (i := 44) (v := ?_) rfl (by kernel_rfl) (fun _ _ _ h => h) rfl ?_ ?_
  rotate_left
  · intro W; go_simp; try with_reducible rfl
  try simp only [put_lit, put_none, List.set_cons_succ, List.set_cons_zero]
  refine lP (i := 45) (v := ?_) rfl (by kernel_rfl) (fun _ _ _ h => h) rfl ?_ ?_
  rotate_left
  · intro W; go_simp; try with_reducible rfl
  try simp only [put_lit, put_none, List.set_cons_succ, List.set_cons_zero]
  refine lP (i := 46) (v := ?_) rfl (by kernel_rfl) (fun _ _ _ h => h) rfl ?_ ?_
  rotate_left
  · intro W; go_simp; try with_reducible rfl
  try simp only [put_lit, put_none, List.set_cons_succ, List.set_cons_zero]
  refine lP (i := 47) (v := ?_) rfl (by kernel_rfl) (fun _ _ _ h => h) rfl ?_ ?_
  rotate_left
  · intro W; go_simp; try with_reducible rfl
  try simp only [put_lit, put_none, List.set_cons_succ, List.set_cons_zero]
  refine lP (i := 48) (v := ?_) rfl (by kernel_rfl) (fun _ _ _ h => h) rfl ?_ ?_
  rotate_left
  · intro W; go_simp; try with_reducible rfl
  try simp only [put_lit, put_none, List.set_cons_succ, List.set_cons_zero]
  refine lP (i := 49) (v := ?_) rfl (by kernel_rfl) (fun _ _ _ h => h) rfl ?_ ?_
  rotate_left
  · intro W; go_simp; try with_reducible rfl
  try simp only [put_lit, put_none, List.set_cons_succ, List.set_cons_zero]
  refine lP (i := 50) (v := ?_) rfl (by kernel_rfl) (fun _ _ _ h => h) rfl ?_ ?_
  rotate_left
  · intro W; go_simp; try with_reducible rfl
  try simp only [put_lit, put_none, List.set_cons_succ, List.set_cons_zero]
  refine lP (i := 51) (v := ?_) rfl (by kernel_rfl) (fun _ _ _ h => h) rfl ?_ ?_
  rotate_left
  · intro W; go_simp; try with_reducible rfl
  try simp only [put_lit, put_none, List.set_cons_succ, List.set_cons_zero]
  refine lP (i := 52) (v := ?_) rfl (by kernel_rfl) (fun _ _ _ h => h) rfl ?_ ?_
  rotate_left
  · intro W; go_simp; try with_reducible rfl
  try simp only [put_lit, put_none, List.set_cons_succ, List.set_cons_zero]
  refine lP (i := 53) (v := ?_) rfl (by kernel_rfl) (fun _ _ _ h => h) rfl ?_ ?_
  rotate_left
  · intro W; go_simp; try with_reducible rfl
  try simp only [put_lit, put_none, List.set_cons_succ, List.set_cons_zero]
  refine lP (i := 54) (v := ?_) rfl (by kernel_rfl) (fun _ _ _ h => h) rfl ?_ ?_
  rotate_left
  · intro W; go_simp; try with_reducible rfl
  try simp only [put_lit, put_none, List.set_cons_succ, List.set_cons_zero]
  refine lP (i := 55) (v := ?_) rfl (by kernel_rfl) (fun _ _ _ h => h) rfl ?_ ?_
  rotate_left
  · intro W; go_simp; try with_reducible rfl
  try simp only [put_lit, put_none, List.set_cons_succ, List.set_cons_zero]
  refine lP (i := 56) (v := ?_) rfl (by kernel_rfl) (fun _ _ _ h => h) rfl ?_ ?_
  rotate_left
  · intro W; go_simp; try with_reducible rfl
  try simp only [put_lit, put_none, List.set_cons_succ, List.set_cons_zero]
  refine lP (i := 57) (v := ?_) rfl (by kernel_rfl) (fun _ _ _ h => h) rfl ?_ ?_
  rotate_left
  · intro W; go_simp; try with_reducible rfl
  try simp only [put_lit, put_none, List.set_cons_succ, List.set_cons_zero]
  refine lP (i := 58) (v := ?_) rfl (by kernel_rfl) (fun _ _ _ h => h) rfl ?_ ?_
  rotate_left
  · intro W; go_simp; try with_reducible rfl
  try simp only [put_lit, put_none, List.set_cons_succ, List.set_cons_zero]
  refine lP (i := 59) (v := ?_) rfl (by kernel_rfl) (fun _ _ _ h => h) rfl ?_ ?_
  rotate_left
  · intro W; go_simp; try with_reducible rfl
  try simp only [put_lit, put_none, List.set_cons_succ, List.set_cons_zero]
  refine lP (i := 60) (v := ?_) rfl (by kernel_rfl) (fun _ _ _ h => h) rfl ?_ ?_
  rotate_left
  · intro W; go_simp; try with_reducible rfl
  try simp only [put_lit, put_none, List.set_cons_succ, List.set_cons_zero]
  refine lP (i := 61) (v := ?_) rfl (by kernel_rfl) (fun _ _ _ h => h) rfl ?_ ?_
  rotate_left
  · intro W; go_simp; try with_reducible rfl
  try simp only [put_lit, put_none, List.set_cons_succ, List.set_cons_zero]
  refine lDone (by kernel_rfl) (by exact trivial) ?_ _
  go_wp2_with fail
  go_ret
  exact ⟨rfl, hA.below.trans ((below_then (below_then (below_then (below_then (below_then (below_then ((Below.refl _ W12).drew) k1) k2) k3) k4) k5) k6).mono hA.below.size)⟩
end Go.Proofs.Ytenihlicjahjhaa

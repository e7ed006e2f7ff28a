/-
  Cuts: the walk of the statement RopeCuts: it answers true at every input.
-/
import Derived.Test.YtenihlicjahjhaaLaw6
set_option linter.unusedVariables false
set_option linter.unusedSimpArgs false
namespace Go.Proofs.Ytenihlicjahjhaa
open Go Go.RowKit Go.Proofs Go.Shelf

theorem below_box {w w1 : World} {o : Obj} (h : Below (w.alloc o).heap.size (w.alloc o) w1) : Below w.heap.size w w1 :=
  below_then ((Below.refl _ w).alloc (Nat.le_refl _) o) h

set_option maxRecDepth 100000 in
set_option maxHeartbeats 2000000 in
theorem RopeCuts_walk (a b : List UInt8) (x y z : Int) (w : World) (hx : -9223372036854775808 ≤ x ∧ x ≤ 9223372036854775807) (hy : -9223372036854775808 ≤ y ∧ y ≤ 9223372036854775807) (hz : -9223372036854775808 ≤ z ∧ z ≤ 9223372036854775807) :
    Calls Try.prog 5 #[.string ⟨a.toArray⟩, .string ⟨b.toArray⟩, .agg #[.int .i64 x, .int .i64 y, .int .i64 z]] w fun e w' => e = .returned (.bool true) ∧ Below w.heap.size w w' := by
  by_cases ha : 300 < a.length
  · have d1 : decide (300 < (a.length : Int)) = true := by simp only [decide_eq_true_eq]; omega
    go_enter Try.func5, Try.ntmps5
    go_wp2_with fail
    refine (alive6_calls _).mono ?_
    rintro e w' ⟨rfl, hb⟩
    go_wp2_with fail
    go_ret
    exact ⟨rfl, below_box hb⟩
  have d1 : decide (300 < (a.length : Int)) = false := by simp only [decide_eq_false_iff_not]; omega
  by_cases hb : 300 < b.length
  · have d2 : decide (300 < (b.length : Int)) = true := by simp only [decide_eq_true_eq]; omega
    go_enter Try.func5, Try.ntmps5
    go_wp2_with fail
    refine (alive6_calls _).mono ?_
    rintro e w' ⟨rfl, hb⟩
    go_wp2_with fail
    go_ret
    exact ⟨rfl, below_box hb⟩
  have d2 : decide (300 < (b.length : Int)) = false := by simp only [decide_eq_false_iff_not]; omega
  go_enter Try.func5, Try.ntmps5
  go_wp2_with fail
  refine (Of_calls (fun _ => True) a _ (fun _ _ => trivial) (by omega)).mono ?_
  rintro e w1 ⟨p1, rfl, hp1, hb1⟩
  go_wp2_with fail
  refine (Of_calls (fun _ => True) b _ (fun _ _ => trivial) (by omega)).mono ?_
  rintro e w2 ⟨p2, rfl, hp2, hb2⟩
  go_wp2_with fail
  refine (Join_calls (hp1.bel hb2) hp2 (by omega) (fun _ _ => trivial)).mono ?_
  rintro e w3 ⟨p, rfl, hp3, hb3⟩
  obtain ⟨s, hs⟩ : ∃ s, s = a ++ b := ⟨_, rfl⟩
  have hsl : s.length ≤ 600 := by rw [hs, List.length_append]; omega
  have hab : (⟨a.toArray⟩ : ByteArray) ++ ⟨b.toArray⟩ = ⟨s.toArray⟩ := by rw [str_append, hs]
  rw [← hs] at hp3
  have Hs := Lib.hid hs
  have Hp3 := Lib.hid hp3
  clear hs hp3
  obtain ⟨B, hB⟩ : ∃ B, B = w.heap.size := ⟨_, rfl⟩
  have hbw := below_box (below_then (below_then hb1 hb2) hb3)
  have hbx := below_then (below_then hb1 hb2) hb3
  have hcx : ∀ j, w3.cell? ⟨B, j, none⟩ = (#[Value.int .i64 x, Value.int .i64 y, Value.int .i64 z])[j]? := by
    intro j
    rw [hbx.cell (by show B < (w.heap.push _).size; rw [Array.size_push]; omega), hB]
    exact cell_row (heap_new _ _) j
  have hBl : B < w3.heap.size := Nat.lt_of_lt_of_le (by rw [hB]; show w.heap.size < (w.heap.push _).size; rw [Array.size_push]; omega) hbx.size
  rw [← hB] at hbw ⊢
  have HB := Lib.hid hB
  clear hB hbx
  have hc0 : w3.cell? ⟨B, 0, none⟩ = some (.int .i64 x) := hcx 0
  have hc1 : w3.cell? ⟨B, 1, none⟩ = some (.int .i64 y) := hcx 1
  have hc2 : w3.cell? ⟨B, 2, none⟩ = some (.int .i64 z) := hcx 2
  clear hcx
  have hw1 : IntKind.i64.wrap ((s.length : Int) + 1) = (s.length : Int) + 1 := by rw [IntKind.wrap_i64] <;> omega
  go_wp2_with fail
  refine region_open (fun W => W.cell? ⟨B, 0, none⟩ = some (.int .i64 x)) (fun i => List.contains [3, 4] i) (by kernel_rfl) ?_
  refine tP (i := 0) (v := ?_) rfl (by kernel_rfl) (fun _ _ _ h => h) (fun h => absurd h (by decide)) rfl ?_ ?_
  rotate_left
  · intro W; go_simp; try with_reducible rfl
  simp only [put_lit, List.set_cons_succ, List.set_cons_zero]
  refine tP (i := 2) (v := ?_) rfl (by kernel_rfl) (fun _ _ _ h => h) (fun h => absurd h (by decide)) rfl ?_ ?_
  rotate_left
  · intro W; go_simp; try with_reducible rfl
  simp only [put_lit, List.set_cons_succ, List.set_cons_zero]
  refine tR (i := 1) (v := ?_) rfl (by kernel_rfl) (fun _ _ _ h => h) (hc0) rfl ?_ ?_
  rotate_left
  · intro W hS; skip; go_simp; try with_reducible rfl
  simp only [put_lit, List.set_cons_succ, List.set_cons_zero]
  refine tE (i := 3) rfl (by kernel_rfl) (fun K hK => ?_)
  go_simp
  refine (Len_calls Hp3.out.drew).mono ?_
  rintro e W1 ⟨rfl, rfl⟩
  refine hK _ _ (fun _ => hc0) ?_
  clear hK K
  refine tP (i := 4) (v := ?_) rfl (by kernel_rfl) (fun _ _ _ h => h) (fun _ => hc0) rfl ?_ ?_
  rotate_left
  · intro W; go_simp; try with_reducible rfl
  simp only [put_lit, List.set_cons_succ, List.set_cons_zero]
  refine tE (i := 5) rfl (by kernel_rfl) (fun K hK => ?_)
  go_simp
  refine (pick6_calls x _ _ (by omega) (by omega) (by omega) (by omega)).mono ?_
  rintro e W2 ⟨rfl, rfl⟩
  refine hK _ _ (fun h => absurd h (by decide)) ?_
  clear hK K
  refine tP (i := 6) (v := ?_) rfl (by kernel_rfl) (fun _ _ _ h => h) (fun h => absurd h (by decide)) rfl ?_ ?_
  rotate_left
  · intro W; go_simp; try with_reducible rfl
  simp only [put_lit, List.set_cons_succ, List.set_cons_zero]
  refine takeDone (by kernel_rfl) ?_ _
  obtain ⟨i, hi⟩ : ∃ i, i = pickI x ((s.length : Int) + 1) := ⟨_, rfl⟩
  have hib := pickI_bd x ((s.length : Int) + 1) (by omega)
  rw [← hi] at hib ⊢
  clear hi hw1 hc0
  go_wp2_with fail
  refine (Cut_calls Hp3.out.drew (by omega) (fun _ _ => trivial) (Int.le_refl 0) (by omega) (by omega)).mono ?_
  rintro e w4 ⟨pp, rfl, hpp, hb4⟩
  have Hpp := Lib.hid hpp
  clear hpp
  go_wp2_with fail
  refine (Len_calls (Hp3.out.drew.bel hb4)).mono ?_
  rintro e w5 ⟨rfl, rfl⟩
  go_wp2_with fail
  refine (Cut_calls (Hp3.out.drew.bel hb4) (by omega) (fun _ _ => trivial) (by omega) (by omega) (by omega)).mono ?_
  rintro e w5 ⟨pq, rfl, hpq, hb5⟩
  have hj : ((s.take i.toNat).drop (0 : Int).toNat) ++ ((s.take ((s.length : Int)).toNat).drop i.toNat) = s := by simp
  have Hpq := Lib.hid hpq
  have Hj := Lib.hid hj
  clear hpq hj
  go_wp2_with fail
  refine (Join_calls (Hpp.out.bel hb5) Hpq.out (by simp only [List.length_take, List.length_drop]; omega) (fun _ _ => trivial)).mono ?_
  rintro e w6 ⟨pz, rfl, hpz, hb6⟩
  rw [Hj.out] at hpz
  have Hpz := Lib.hid hpz
  clear hpz
  go_wp2_with fail
  refine (Text_calls Hpz.out (by omega)).mono ?_
  rintro e w7 ⟨rfl, hb7⟩
  go_wp2_with fail
  refine (Text_calls ((((Hp3.out.drew.bel hb4).bel hb5).bel hb6).bel hb7) (by omega)).mono ?_
  rintro e w8 ⟨rfl, hb8⟩
  have hb38 := below_then (below_then (below_then (below_then hb4 hb5) hb6) hb7) hb8
  have hc1' : w8.cell? ⟨B, 1, none⟩ = some (.int .i64 y) := (hb38.cell (p := ⟨B, 1, none⟩) hBl).trans hc1
  have hc2' : w8.cell? ⟨B, 2, none⟩ = some (.int .i64 z) := (hb38.cell (p := ⟨B, 2, none⟩) hBl).trans hc2
  clear hc1 hc2
  obtain ⟨k, hk⟩ : ∃ k, k = pickI y (i + 1) := ⟨_, rfl⟩
  have hkb := pickI_bd y (i + 1) (by omega)
  rw [← hk] at hkb
  have Hk := Lib.hid hk
  clear hk
  obtain ⟨n, hn⟩ : ∃ n, n = pickI z (i - k + 1) := ⟨_, rfl⟩
  have hnb := pickI_bd z (i - k + 1) (by omega)
  rw [← hn] at hnb
  have Hn := Lib.hid hn
  clear hn
  go_wp2_with fail
  refine (pick6_calls y _ _ (by omega) (by omega) (by omega) (by omega)).mono ?_
  rintro e w9 ⟨rfl, rfl⟩
  rw [← Hk.out]
  go_wp2_with fail
  refine (pick6_calls z _ _ (by omega) (by omega) (by omega) (by omega)).mono ?_
  rintro e w9 ⟨rfl, rfl⟩
  rw [← Hn.out]
  go_wp2_with fail
  refine (Cut_calls ((((Hpp.out.bel hb5).bel hb6).bel hb7).bel hb8) (by simp only [List.length_take, List.length_drop]; omega) (fun _ _ => trivial) (by omega) (by omega) (by simp only [List.length_take, List.length_drop]; omega)).mono ?_
  rintro e w9 ⟨pc, rfl, hpc, hb9⟩
  have Hpc := Lib.hid hpc
  clear hpc
  go_wp2_with fail
  refine (Cut_calls ((((((Hp3.out.drew.bel hb4).bel hb5).bel hb6).bel hb7).bel hb8).bel hb9) (by omega) (fun _ _ => trivial) (by omega) (by omega) (by omega)).mono ?_
  rintro e w10 ⟨pd, rfl, hpd, hb10⟩
  have hcd : ((((s.take i.toNat).drop (0 : Int).toNat).take (k + n).toNat).drop k.toNat) = (s.take (k + n).toNat).drop k.toNat := by
    rw [show (0 : Int).toNat = 0 from rfl, List.drop_zero, List.take_take, Nat.min_eq_left (by omega)]
  have hpc := Hpc.out
  rw [hcd] at hpc
  clear Hpc
  obtain ⟨u, hu⟩ : ∃ u, u = (s.take (k + n).toNat).drop k.toNat := ⟨_, rfl⟩
  have hul : ((u.length : Nat) : Int) = n := by rw [hu]; simp only [List.length_drop, List.length_take]; omega
  rw [← hu] at hpc hpd
  have Hu := Lib.hid hu
  have Hpd := Lib.hid hpd
  have Hpc := Lib.hid hpc
  have Hul := Lib.hid hul
  clear hpd hpc hu hul hcd
  go_wp2_with fail
  refine (alive6_calls _).mono ?_
  rintro e w11 ⟨rfl, hb11⟩
  go_wp2_with fail
  refine (Text_calls ((Hpc.out.bel hb10).bel hb11) (by have := Hul.out; omega)).mono ?_
  rintro e w12 ⟨rfl, hb12⟩
  go_wp2_with fail
  refine (Text_calls ((Hpd.out.bel hb11).bel hb12) (by have := Hul.out; omega)).mono ?_
  rintro e w13 ⟨rfl, hb13⟩
  go_wp2_with fail
  refine (Len_calls ((((Hpc.out.bel hb10).bel hb11).bel hb12).bel hb13)).mono ?_
  rintro e w14 ⟨rfl, rfl⟩
  have hul := Hul.out
  rw [hul]
  have hw2 : k + n - k = n := by omega
  go_wp2_with fail
  go_ret
  have hbw' : Below w.heap.size w w3 := by rw [← HB.out]; exact hbw
  refine ⟨?_, below_then (below_then (below_then (below_then (below_then (below_then (below_then hbw' ((Below.refl _ w3).drew)) hb38) hb9) hb10) hb11) hb12) hb13⟩
  first | rfl | (simp [hw2]; done) | trace_state
end Go.Proofs.Ytenihlicjahjhaa

/-
  Cut: a part of the proofs about the given program: contracts of its functions, each with the conditions that stand ahead of its colon.
-/
import Derived.Test.YtenihlicjahjhaaRope2
import Derived.Test.YtenihlicjahjhaaReg
import Derived.Deep.RegionHeld3
set_option linter.unusedVariables false
set_option linter.unusedSimpArgs false
namespace Go.Proofs.Ytenihlicjahjhaa
open Go Go.RowKit Go.Proofs Go.Shelf

theorem extract_str (s : List UInt8) (i j : Nat) : (⟨s.toArray⟩ : ByteArray).extract i j = ⟨((s.take j).drop i).toArray⟩ := by
  apply ByteArray.ext
  simp [List.drop_take]

theorem cut_none (p : Option Addr) (a b : Int) (w : World) (h : b ≤ a) :
    Calls Try.prog 103 #[.pointer p, .int .i64 a, .int .i64 b] w fun e w' => e = .returned (.pointer none) ∧ w = w' := by
  go_enter Try.func103, Try.ntmps103
  go_wp2_with fail
  go_ret
  exact ⟨rfl, rfl⟩

theorem cut_text0 (s1 s2 : List UInt8) (m n : Nat) : List.drop (min m s1.length) (List.take (min n s1.length) s1) ++ List.drop (m - s1.length) (List.take (n - s1.length) s2) = ((s1 ++ s2).take n).drop m := by
  rw [List.take_append, List.drop_append, List.length_take]
  have e1 : List.take (min n s1.length) s1 = List.take n s1 := by
    rcases Nat.le_total n s1.length with h | h
    · rw [Nat.min_eq_left h]
    · rw [Nat.min_eq_right h, List.take_of_length_le (Nat.le_refl _), List.take_of_length_le h]
  rw [e1]
  rcases Nat.le_total m s1.length with h | h
  · rw [Nat.min_eq_left h]
    congr 1
    rcases Nat.le_total n s1.length with h2 | h2
    · have : n - s1.length = 0 := by omega
      rw [this]; simp
    · rw [show m - s1.length = 0 by omega, show m - min n s1.length = 0 by omega]
  · rw [Nat.min_eq_right h]
    rcases Nat.le_total n s1.length with h2 | h2
    · rw [show n - s1.length = 0 by omega]; simp; omega
    · rw [Nat.min_eq_right h2, List.take_of_length_le h2, List.drop_eq_nil_of_le (Nat.le_refl _), List.drop_eq_nil_of_le h]

theorem cut_text (s1 s2 : List UInt8) (a b : Int) (ha : 0 ≤ a) (hb : 0 ≤ b) :
    List.drop (min a (s1.length : Int)).toNat (List.take (min b (s1.length : Int)).toNat s1) ++ List.drop (max (a - (s1.length : Int)) 0).toNat (List.take (max (b - (s1.length : Int)) 0).toNat s2) =
      ((s1 ++ s2).take b.toNat).drop a.toNat := by
  obtain ⟨m, rfl⟩ := Int.eq_ofNat_of_zero_le ha
  obtain ⟨n, rfl⟩ := Int.eq_ofNat_of_zero_le hb
  rw [show (min (m : Int) (s1.length : Int)).toNat = min m s1.length by omega, show (min (n : Int) (s1.length : Int)).toNat = min n s1.length by omega,
    show (max ((m : Int) - (s1.length : Int)) 0).toNat = m - s1.length by omega, show (max ((n : Int) - (s1.length : Int)) 0).toNat = n - s1.length by omega]
  simp only [Int.toNat_natCast]
  exact cut_text0 s1 s2 m n

/-- what a cut leaves -/
def CutPost (R : Nat → Prop) (w : World) (s : List UInt8) (a b : Int) (e : Ending) (w' : World) : Prop :=
  ∃ q, e = .returned (.pointer q) ∧ IsRope R w' q ((s.take b.toNat).drop a.toNat) ∧ Below w.heap.size w w'

set_option maxRecDepth 100000 in
set_option maxHeartbeats 4000000 in
theorem cut_aux (R : Nat → Prop) (k : Nat) : ∀ (ls : List (List UInt8)) (p : Addr) (w : World) (a b : Int), ls.length ≤ k → RopeL R w (some p) ls → ls.flatten.length ≤ 65536 → (∀ j, w.heap.size ≤ j → R j) → 0 ≤ a → b ≤ ls.flatten.length →
    Calls Try.prog 103 #[.pointer (some p), .int .i64 a, .int .i64 b] w (CutPost R w ls.flatten a b) := by
  induction k with
  | zero =>
    intro ls p w a b hk h
    have := List.length_pos_iff.2 h.some_ne.1
    omega
  | succ k ih =>
    intro ls p w a b hk h hlen hR ha hb
    by_cases hab : b ≤ a
    · refine (cut_none _ a b w hab).mono ?_
      rintro e w' ⟨rfl, rfl⟩
      exact ⟨none, rfl, by rw [List.drop_eq_nil_of_le (by simp; omega)]; exact IsRope.nil, Below.refl _ _⟩
    obtain ⟨s, hs⟩ : ∃ s, s = ls.flatten := ⟨_, rfl⟩
    rw [← hs] at hlen hb ⊢
    have Hs := Lib.hid hs
    obtain ⟨bp, tp, lp, rp, rfl, hRp, hsn, hbp⟩ := IsRope.cells ⟨ls, h, hs.symm⟩
    have c3 : w.cell? ⟨bp, 3, none⟩ = some (.int .i64 s.length) := cell_row hbp 3
    clear hbp hs
    by_cases hwhole : a = 0 ∧ b = s.length
    · obtain ⟨rfl, rfl⟩ := hwhole
      have h0 : ((s.length : Int) == s.length) = true := by simp
      go_enter Try.func103, Try.ntmps103
      go_wp2_with fail
      go_ret
      exact ⟨_, rfl, by simp; exact ⟨ls, h, Hs.out.symm⟩, Below.refl _ _⟩
    · have hgo : (a == 0) = true → (b == (s.length : Int)) = false := by
        intro h0; rw [beq_iff_eq] at h0; subst h0
        by_cases e : b = s.length
        · exact absurd ⟨rfl, e⟩ hwhole
        · simpa using e
      cases h with
      | leaf _ s1 hRb hbk hs1 =>
        obtain rfl : s = s1 := by simp [Hs.out]
        have c0 : w.cell? ⟨bp, 0, none⟩ = some (.string ⟨s.toArray⟩) := cell_row hbk 0
        have c1 : w.cell? ⟨bp, 1, none⟩ = some (.pointer none) := cell_row hbk 1
        clear hbk
        by_cases h0 : (a == 0) = true
        · have h1 := hgo h0
          clear hgo hwhole
          go_enter Try.func103, Try.ntmps103
          go_wp2_with fail
          rw [extract_str]
          refine (leaf_calls R _ _ hR).mono ?_
          rintro e w1 ⟨q, rfl, hq, hb1⟩
          go_wp2_with fail
          go_ret
          exact ⟨_, rfl, hq, hb1⟩
        · have h0' : (a == 0) = false := by simpa using h0
          clear hgo hwhole h0
          go_enter Try.func103, Try.ntmps103
          go_wp2_with fail
          rw [extract_str]
          refine (leaf_calls R _ _ hR).mono ?_
          rintro e w1 ⟨q, rfl, hq, hb1⟩
          go_wp2_with fail
          go_ret
          exact ⟨_, rfl, hq, hb1⟩
      | node _ p1 q1 l m hRb hbk hl hm hL hM =>
        have c1 : w.cell? ⟨bp, 1, none⟩ = some (.pointer (some p1)) := cell_row hbk 1
        have c2 : w.cell? ⟨bp, 2, none⟩ = some (.pointer (some q1)) := cell_row hbk 2
        obtain ⟨s1, hs1⟩ : ∃ x, x = l.flatten := ⟨_, rfl⟩
        obtain ⟨s2, hs2⟩ : ∃ x, x = m.flatten := ⟨_, rfl⟩
        obtain ⟨b1, t1, l1, r1, rfl, hR1, hn1, hb1⟩ := IsRope.cells ⟨l, hL, hs1.symm⟩
        have d3 : w.cell? ⟨b1, 3, none⟩ = some (.int .i64 s1.length) := cell_row hb1 3
        have hss : s = s1 ++ s2 := by rw [Hs.out, hs1, hs2]; simp
        have hlen1 : s1.length + s2.length = s.length := by rw [hss]; simp
        have Hss := Lib.hid hss
        have Hs1 := Lib.hid hs1
        have Hs2 := Lib.hid hs2
        have hls : s1.length ≤ 65536 := by omega
        have hlss : s.length ≤ s1.length + s2.length := by omega
        clear hbk hb1 hs1 hs2 hss hlen1
        have hbl : bp < w.heap.size := by
          rcases Nat.lt_or_ge bp w.heap.size with h | h
          · exact h
          · simp [World.cell?, Array.getElem?_eq_none h] at c1
        have hkl : l.length ≤ k := by have := List.length_pos_iff.2 hm; simp at hk; omega
        have hkm : m.length ≤ k := by have := List.length_pos_iff.2 hl; simp at hk; omega
        have child : ∀ (W : World) (p : Addr) (x : List (List UInt8)) (y : List UInt8) (a' b' : Int), Below w.heap.size w W → RopeL R w (some p) x → x.length ≤ k → Hid (y = x.flatten) → y.length ≤ 65536 → 0 ≤ a' → b' ≤ y.length →
            Calls Try.prog 103 #[.pointer (some p), .int .i64 a', .int .i64 b'] W (fun e W' => ∃ q, e = .returned (.pointer q) ∧ IsRope R W' q ((y.take b'.toNat).drop a'.toNat) ∧ Below w.heap.size w W' ∧ Below W.heap.size W W') := by
          intro W p x y a' b' hB hx hxk hy hy6 ha' hb'
          have hyx := hy.out
          subst hyx
          refine (ih x p W a' b' hxk (hx.keep fun i c f _ hi => hB.block i (lt_of_heap hi)) hy6 (fun j hj => hR j (Nat.le_trans hB.size hj)) ha' hb').mono ?_
          rintro e W' ⟨q, he, hq, hB'⟩
          exact ⟨q, he, hq, hB.trans (hB'.mono hB.size), hB'⟩
        have HI := Lib.hid ih
        have HM := Lib.hid hM
        clear ih hk hl hm
        have hs2l : s2.length ≤ 65536 := by have := congrArg List.length Hss.out; simp at this; omega
        have hwa : IntKind.i64.wrap (a - (s1.length : Int)) = a - s1.length := by rw [IntKind.wrap_i64] <;> omega
        have hwb : IntKind.i64.wrap (b - (s1.length : Int)) = b - s1.length := by rw [IntKind.wrap_i64] <;> omega
        by_cases h0 : (a == 0) = true
        · have h1 := hgo h0
          clear hgo hwhole
          go_enter Try.func103, Try.ntmps103
          go_wp2_with fail
          refine region_open (fun W => W.cell? ⟨bp, 1, none⟩ = some (.pointer (some ⟨b1, 0, none⟩)) ∧ W.cell? ⟨bp, 2, none⟩ = some (.pointer (some q1))) (fun i => List.contains [10, 14] i) (by kernel_rfl) ?_
          refine tP (i := 0) (v := ?_) rfl (by kernel_rfl) (fun _ _ _ h => h) (fun h => absurd h (by decide)) rfl ?_ ?_
          rotate_left
          · intro W; go_simp; try with_reducible rfl
          simp only [put_lit, List.set_cons_succ, List.set_cons_zero]
          refine tP (i := 1) (v := ?_) rfl (by kernel_rfl) (fun _ _ _ h => h) (fun h => absurd h (by decide)) rfl ?_ ?_
          rotate_left
          · intro W; go_simp; try with_reducible rfl
          simp only [put_lit, List.set_cons_succ, List.set_cons_zero]
          refine tP (i := 2) (v := ?_) rfl (by kernel_rfl) (fun _ _ _ h => h) (fun h => absurd h (by decide)) rfl ?_ ?_
          rotate_left
          · intro W; go_simp; try with_reducible rfl
          simp only [put_lit, List.set_cons_succ, List.set_cons_zero]
          refine tP (i := 4) (v := ?_) rfl (by kernel_rfl) (fun _ _ _ h => h) (fun h => absurd h (by decide)) rfl ?_ ?_
          rotate_left
          · intro W; go_simp; try with_reducible rfl
          simp only [put_lit, List.set_cons_succ, List.set_cons_zero]
          refine tP (i := 5) (v := ?_) rfl (by kernel_rfl) (fun _ _ _ h => h) (fun h => absurd h (by decide)) rfl ?_ ?_
          rotate_left
          · intro W; go_simp; try with_reducible rfl
          simp only [put_lit, List.set_cons_succ, List.set_cons_zero]
          refine tP (i := 6) (v := ?_) rfl (by kernel_rfl) (fun _ _ _ h => h) (fun h => absurd h (by decide)) rfl ?_ ?_
          rotate_left
          · intro W; go_simp; try with_reducible rfl
          simp only [put_lit, List.set_cons_succ, List.set_cons_zero]
          refine tP (i := 7) (v := ?_) rfl (by kernel_rfl) (fun _ _ _ h => h) (fun h => absurd h (by decide)) rfl ?_ ?_
          rotate_left
          · intro W; go_simp; try with_reducible rfl
          simp only [put_lit, List.set_cons_succ, List.set_cons_zero]
          refine tP (i := 8) (v := ?_) rfl (by kernel_rfl) (fun _ _ _ h => h) (fun h => absurd h (by decide)) rfl ?_ ?_
          rotate_left
          · intro W; go_simp; try with_reducible rfl
          simp only [put_lit, List.set_cons_succ, List.set_cons_zero]
          refine tP (i := 9) (v := ?_) rfl (by kernel_rfl) (fun _ _ _ h => h) (fun h => absurd h (by decide)) rfl ?_ ?_
          rotate_left
          · intro W; go_simp; try with_reducible rfl
          simp only [put_lit, List.set_cons_succ, List.set_cons_zero]
          refine tP (i := 11) (v := ?_) rfl (by kernel_rfl) (fun _ _ _ h => h) (fun h => absurd h (by decide)) rfl ?_ ?_
          rotate_left
          · intro W; go_simp; try with_reducible rfl
          simp only [put_lit, List.set_cons_succ, List.set_cons_zero]
          refine tP (i := 12) (v := ?_) rfl (by kernel_rfl) (fun _ _ _ h => h) (fun h => absurd h (by decide)) rfl ?_ ?_
          rotate_left
          · intro W; go_simp; try with_reducible rfl
          simp only [put_lit, List.set_cons_succ, List.set_cons_zero]
          refine tP (i := 13) (v := ?_) rfl (by kernel_rfl) (fun _ _ _ h => h) (fun h => absurd h (by decide)) rfl ?_ ?_
          rotate_left
          · intro W; go_simp; try with_reducible rfl
          simp only [put_lit, List.set_cons_succ, List.set_cons_zero]
          refine tP (i := 15) (v := ?_) rfl (by kernel_rfl) (fun _ _ _ h => h) (fun h => absurd h (by decide)) rfl ?_ ?_
          rotate_left
          · intro W; go_simp; try with_reducible rfl
          simp only [put_lit, List.set_cons_succ, List.set_cons_zero]
          refine tP (i := 16) (v := ?_) rfl (by kernel_rfl) (fun _ _ _ h => h) (fun h => absurd h (by decide)) rfl ?_ ?_
          rotate_left
          · intro W; go_simp; try with_reducible rfl
          simp only [put_lit, List.set_cons_succ, List.set_cons_zero]
          refine tP (i := 17) (v := ?_) rfl (by kernel_rfl) (fun _ _ _ h => h) (fun h => absurd h (by decide)) rfl ?_ ?_
          rotate_left
          · intro W; go_simp; try with_reducible rfl
          simp only [put_lit, List.set_cons_succ, List.set_cons_zero]
          refine tP (i := 18) (v := ?_) rfl (by kernel_rfl) (fun _ _ _ h => h) (fun h => absurd h (by decide)) rfl ?_ ?_
          rotate_left
          · intro W; go_simp; try with_reducible rfl
          simp only [put_lit, List.set_cons_succ, List.set_cons_zero]
          refine tP (i := 19) (v := ?_) rfl (by kernel_rfl) (fun _ _ _ h => h) (fun h => absurd h (by decide)) rfl ?_ ?_
          rotate_left
          · intro W; go_simp; try with_reducible rfl
          simp only [put_lit, List.set_cons_succ, List.set_cons_zero]
          refine tP (i := 20) (v := ?_) rfl (by kernel_rfl) (fun _ _ _ h => h) (fun h => absurd h (by decide)) rfl ?_ ?_
          rotate_left
          · intro W; go_simp; try with_reducible rfl
          simp only [put_lit, List.set_cons_succ, List.set_cons_zero]
          refine tP (i := 21) (v := ?_) rfl (by kernel_rfl) (fun _ _ _ h => h) (fun h => absurd h (by decide)) rfl ?_ ?_
          rotate_left
          · intro W; go_simp; try with_reducible rfl
          simp only [put_lit, List.set_cons_succ, List.set_cons_zero]
          refine tP (i := 22) (v := ?_) rfl (by kernel_rfl) (fun _ _ _ h => h) (fun h => absurd h (by decide)) rfl ?_ ?_
          rotate_left
          · intro W; go_simp; try with_reducible rfl
          simp only [put_lit, List.set_cons_succ, List.set_cons_zero]
          refine tR (i := 3) (v := ?_) rfl (by kernel_rfl) (fun _ _ _ h => h) (⟨c1, c2⟩) rfl ?_ ?_
          rotate_left
          · intro W hS; obtain ⟨c1, c2⟩ := hS; go_simp; try with_reducible rfl
          simp only [put_lit, List.set_cons_succ, List.set_cons_zero]
          refine tR (i := 14) (v := ?_) rfl (by kernel_rfl) (fun _ _ _ h => h) (⟨c1, c2⟩) rfl ?_ ?_
          rotate_left
          · intro W hS; obtain ⟨c1, c2⟩ := hS; go_simp; try with_reducible rfl
          simp only [put_lit, List.set_cons_succ, List.set_cons_zero]
          refine tE (i := 10) rfl (by kernel_rfl) (fun K hK => ?_)
          go_simp
          refine (child _ _ _ _ _ _ (Below.refl _ _).drew hL hkl Hs1 hls (by omega) (by omega)).mono ?_
          rintro e W1 ⟨qa, rfl, hqa, hBa, hBa'⟩
          have e1 := (hBa.cell (p := ⟨bp, 1, none⟩) hbl).trans c1
          have e2 := (hBa.cell (p := ⟨bp, 2, none⟩) hbl).trans c2
          refine hK _ _ (fun _ => ⟨e1, e2⟩) ?_
          clear hK K
          refine tE (i := 23) rfl (by kernel_rfl) (fun K hK => ?_)
          go_simp
          refine (child _ _ _ _ _ _ hBa HM.out hkm Hs2 hs2l (by omega) (by omega)).mono ?_
          rintro e W2 ⟨qb, rfl, hqb, hBb, hBb'⟩
          refine hK _ _ (fun h => absurd h (by decide)) ?_
          clear hK K
          refine tE (i := 24) rfl (by kernel_rfl) (fun K hK => ?_)
          go_simp
          refine (join_calls (R := R) (hqa.bel hBb') hqb (by simp only [List.length_drop, List.length_take]; omega) (fun j hj => hR j (Nat.le_trans hBb.size hj))).mono ?_
          rintro e W3 ⟨qc, rfl, hqc, hBc⟩
          refine hK _ _ (fun h => absurd h (by decide)) ?_
          clear hK K
          refine tP (i := 25) (v := ?_) rfl (by kernel_rfl) (fun _ _ _ h => h) (fun h => absurd h (by decide)) rfl ?_ ?_
          rotate_left
          · intro W; go_simp; try with_reducible rfl
          simp only [put_lit, List.set_cons_succ, List.set_cons_zero]
          refine takeDone (by kernel_rfl) ?_ _
          go_wp2_with fail
          go_ret
          exact ⟨qc, rfl, by rw [cut_text s1 s2 a b ha (by omega)] at hqc; rw [Hss.out]; exact hqc, hBb.trans (hBc.mono hBb.size)⟩
        · have h0' : (a == 0) = false := by simpa using h0
          clear hgo hwhole h0
          go_enter Try.func103, Try.ntmps103
          go_wp2_with fail
          refine region_open (fun W => W.cell? ⟨bp, 1, none⟩ = some (.pointer (some ⟨b1, 0, none⟩)) ∧ W.cell? ⟨bp, 2, none⟩ = some (.pointer (some q1))) (fun i => List.contains [10, 14] i) (by kernel_rfl) ?_
          refine tP (i := 0) (v := ?_) rfl (by kernel_rfl) (fun _ _ _ h => h) (fun h => absurd h (by decide)) rfl ?_ ?_
          rotate_left
          · intro W; go_simp; try with_reducible rfl
          simp only [put_lit, List.set_cons_succ, List.set_cons_zero]
          refine tP (i := 1) (v := ?_) rfl (by kernel_rfl) (fun _ _ _ h => h) (fun h => absurd h (by decide)) rfl ?_ ?_
          rotate_left
          · intro W; go_simp; try with_reducible rfl
          simp only [put_lit, List.set_cons_succ, List.set_cons_zero]
          refine tP (i := 2) (v := ?_) rfl (by kernel_rfl) (fun _ _ _ h => h) (fun h => absurd h (by decide)) rfl ?_ ?_
          rotate_left
          · intro W; go_simp; try with_reducible rfl
          simp only [put_lit, List.set_cons_succ, List.set_cons_zero]
          refine tP (i := 4) (v := ?_) rfl (by kernel_rfl) (fun _ _ _ h => h) (fun h => absurd h (by decide)) rfl ?_ ?_
          rotate_left
          · intro W; go_simp; try with_reducible rfl
          simp only [put_lit, List.set_cons_succ, List.set_cons_zero]
          refine tP (i := 5) (v := ?_) rfl (by kernel_rfl) (fun _ _ _ h => h) (fun h => absurd h (by decide)) rfl ?_ ?_
          rotate_left
          · intro W; go_simp; try with_reducible rfl
          simp only [put_lit, List.set_cons_succ, List.set_cons_zero]
          refine tP (i := 6) (v := ?_) rfl (by kernel_rfl) (fun _ _ _ h => h) (fun h => absurd h (by decide)) rfl ?_ ?_
          rotate_left
          · intro W; go_simp; try with_reducible rfl
          simp only [put_lit, List.set_cons_succ, List.set_cons_zero]
          refine tP (i := 7) (v := ?_) rfl (by kernel_rfl) (fun _ _ _ h => h) (fun h => absurd h (by decide)) rfl ?_ ?_
          rotate_left
          · intro W; go_simp; try with_reducible rfl
          simp only [put_lit, List.set_cons_succ, List.set_cons_zero]
          refine tP (i := 8) (v := ?_) rfl (by kernel_rfl) (fun _ _ _ h => h) (fun h => absurd h (by decide)) rfl ?_ ?_
          rotate_left
          · intro W; go_simp; try with_reducible rfl
          simp only [put_lit, List.set_cons_succ, List.set_cons_zero]
          refine tP (i := 9) (v := ?_) rfl (by kernel_rfl) (fun _ _ _ h => h) (fun h => absurd h (by decide)) rfl ?_ ?_
          rotate_left
          · intro W; go_simp; try with_reducible rfl
          simp only [put_lit, List.set_cons_succ, List.set_cons_zero]
          refine tP (i := 11) (v := ?_) rfl (by kernel_rfl) (fun _ _ _ h => h) (fun h => absurd h (by decide)) rfl ?_ ?_
          rotate_left
          · intro W; go_simp; try with_reducible rfl
          simp only [put_lit, List.set_cons_succ, List.set_cons_zero]
          refine tP (i := 12) (v := ?_) rfl (by kernel_rfl) (fun _ _ _ h => h) (fun h => absurd h (by decide)) rfl ?_ ?_
          rotate_left
          · intro W; go_simp; try with_reducible rfl
          simp only [put_lit, List.set_cons_succ, List.set_cons_zero]
          refine tP (i := 13) (v := ?_) rfl (by kernel_rfl) (fun _ _ _ h => h) (fun h => absurd h (by decide)) rfl ?_ ?_
          rotate_left
          · intro W; go_simp; try with_reducible rfl
          simp only [put_lit, List.set_cons_succ, List.set_cons_zero]
          refine tP (i := 15) (v := ?_) rfl (by kernel_rfl) (fun _ _ _ h => h) (fun h => absurd h (by decide)) rfl ?_ ?_
          rotate_left
          · intro W; go_simp; try with_reducible rfl
          simp only [put_lit, List.set_cons_succ, List.set_cons_zero]
          refine tP (i := 16) (v := ?_) rfl (by kernel_rfl) (fun _ _ _ h => h) (fun h => absurd h (by decide)) rfl ?_ ?_
          rotate_left
          · intro W; go_simp; try with_reducible rfl
          simp only [put_lit, List.set_cons_succ, List.set_cons_zero]
          refine tP (i := 17) (v := ?_) rfl (by kernel_rfl) (fun _ _ _ h => h) (fun h => absurd h (by decide)) rfl ?_ ?_
          rotate_left
          · intro W; go_simp; try with_reducible rfl
          simp only [put_lit, List.set_cons_succ, List.set_cons_zero]
          refine tP (i := 18) (v := ?_) rfl (by kernel_rfl) (fun _ _ _ h => h) (fun h => absurd h (by decide)) rfl ?_ ?_
          rotate_left
          · intro W; go_simp; try with_reducible rfl
          simp only [put_lit, List.set_cons_succ, List.set_cons_zero]
          refine tP (i := 19) (v := ?_) rfl (by kernel_rfl) (fun _ _ _ h => h) (fun h => absurd h (by decide)) rfl ?_ ?_
          rotate_left
          · intro W; go_simp; try with_reducible rfl
          simp only [put_lit, List.set_cons_succ, List.set_cons_zero]
          refine tP (i := 20) (v := ?_) rfl (by kernel_rfl) (fun _ _ _ h => h) (fun h => absurd h (by decide)) rfl ?_ ?_
          rotate_left
          · intro W; go_simp; try with_reducible rfl
          simp only [put_lit, List.set_cons_succ, List.set_cons_zero]
          refine tP (i := 21) (v := ?_) rfl (by kernel_rfl) (fun _ _ _ h => h) (fun h => absurd h (by decide)) rfl ?_ ?_
          rotate_left
          · intro W; go_simp; try with_reducible rfl
          simp only [put_lit, List.set_cons_succ, List.set_cons_zero]
          refine tP (i := 22) (v := ?_) rfl (by kernel_rfl) (fun _ _ _ h => h) (fun h => absurd h (by decide)) rfl ?_ ?_
          rotate_left
          · intro W; go_simp; try with_reducible rfl
          simp only [put_lit, List.set_cons_succ, List.set_cons_zero]
          refine tR (i := 3) (v := ?_) rfl (by kernel_rfl) (fun _ _ _ h => h) (⟨c1, c2⟩) rfl ?_ ?_
          rotate_left
          · intro W hS; obtain ⟨c1, c2⟩ := hS; go_simp; try with_reducible rfl
          simp only [put_lit, List.set_cons_succ, List.set_cons_zero]
          refine tR (i := 14) (v := ?_) rfl (by kernel_rfl) (fun _ _ _ h => h) (⟨c1, c2⟩) rfl ?_ ?_
          rotate_left
          · intro W hS; obtain ⟨c1, c2⟩ := hS; go_simp; try with_reducible rfl
          simp only [put_lit, List.set_cons_succ, List.set_cons_zero]
          refine tE (i := 10) rfl (by kernel_rfl) (fun K hK => ?_)
          go_simp
          refine (child _ _ _ _ _ _ (Below.refl _ _).drew hL hkl Hs1 hls (by omega) (by omega)).mono ?_
          rintro e W1 ⟨qa, rfl, hqa, hBa, hBa'⟩
          have e1 := (hBa.cell (p := ⟨bp, 1, none⟩) hbl).trans c1
          have e2 := (hBa.cell (p := ⟨bp, 2, none⟩) hbl).trans c2
          refine hK _ _ (fun _ => ⟨e1, e2⟩) ?_
          clear hK K
          refine tE (i := 23) rfl (by kernel_rfl) (fun K hK => ?_)
          go_simp
          refine (child _ _ _ _ _ _ hBa HM.out hkm Hs2 hs2l (by omega) (by omega)).mono ?_
          rintro e W2 ⟨qb, rfl, hqb, hBb, hBb'⟩
          refine hK _ _ (fun h => absurd h (by decide)) ?_
          clear hK K
          refine tE (i := 24) rfl (by kernel_rfl) (fun K hK => ?_)
          go_simp
          refine (join_calls (R := R) (hqa.bel hBb') hqb (by simp only [List.length_drop, List.length_take]; omega) (fun j hj => hR j (Nat.le_trans hBb.size hj))).mono ?_
          rintro e W3 ⟨qc, rfl, hqc, hBc⟩
          refine hK _ _ (fun h => absurd h (by decide)) ?_
          clear hK K
          refine tP (i := 25) (v := ?_) rfl (by kernel_rfl) (fun _ _ _ h => h) (fun h => absurd h (by decide)) rfl ?_ ?_
          rotate_left
          · intro W; go_simp; try with_reducible rfl
          simp only [put_lit, List.set_cons_succ, List.set_cons_zero]
          refine takeDone (by kernel_rfl) ?_ _
          go_wp2_with fail
          go_ret
          exact ⟨qc, rfl, by rw [cut_text s1 s2 a b ha (by omega)] at hqc; rw [Hss.out]; exact hqc, hBb.trans (hBc.mono hBb.size)⟩

theorem cut_calls {R : Nat → Prop} {p : Option Addr} {s : List UInt8} {w : World} {a b : Int} (h : IsRope R w p s) (hlen : s.length ≤ 65536) (hR : ∀ j, w.heap.size ≤ j → R j) (ha : 0 ≤ a) (hb : b ≤ s.length) :
    Calls Try.prog 103 #[.pointer p, .int .i64 a, .int .i64 b] w (CutPost R w s a b) := by
  by_cases hab : b ≤ a
  · refine (cut_none _ a b w hab).mono ?_
    rintro e w' ⟨rfl, rfl⟩
    exact ⟨none, rfl, by rw [List.drop_eq_nil_of_le (by simp; omega)]; exact IsRope.nil, Below.refl _ _⟩
  · cases p with
    | none => have := h.none; subst this; simp at hb; omega
    | some p =>
      obtain ⟨ls, hl, rfl⟩ := h
      exact cut_aux R ls.length ls p w a b (Nat.le_refl _) hl hlen hR ha hb

theorem Cut_calls {R : Nat → Prop} {p : Option Addr} {s : List UInt8} {w : World} {a b : Int} (h : IsRope R w p s) (hlen : s.length ≤ 65536) (hR : ∀ j, w.heap.size ≤ j → R j) (ha : 0 ≤ a) (hab : a ≤ b) (hb : b ≤ s.length) :
    Calls Try.prog 34 #[.pointer p, .int .i64 a, .int .i64 b] w fun e w' => ∃ q, e = .returned (.tuple #[.pointer q, .int .i64 0]) ∧ IsRope R w' q ((s.take b.toNat).drop a.toNat) ∧ Below w.heap.size w w' := by
  go_enter Try.func34, Try.ntmps34
  go_wp2_with fail
  refine (Len_calls h).mono ?_
  rintro e w' ⟨rfl, rfl⟩
  go_wp2_with fail
  refine (cut_calls h hlen hR ha hb).mono ?_
  rintro e w' ⟨q, rfl, hq, hbl⟩
  go_wp2_with fail
  go_ret2
  exact ⟨_, rfl, hq, hbl⟩

theorem Cut_out {R : Nat → Prop} {p : Option Addr} {s : List UInt8} {w : World} {a b : Int} (h : IsRope R w p s) (hno : a < 0 ∨ b < a ∨ s.length < b) :
    Calls Try.prog 34 #[.pointer p, .int .i64 a, .int .i64 b] w fun e w' => e = .returned (.tuple #[.pointer none, .int .i64 61]) ∧ w = w' := by
  by_cases h1 : a < 0
  · go_enter Try.func34, Try.ntmps34
    go_wp2_with fail
    go_ret2
    exact ⟨rfl, rfl⟩
  · by_cases h2 : b < a
    · go_enter Try.func34, Try.ntmps34
      go_wp2_with fail
      go_ret2
      exact ⟨rfl, rfl⟩
    · have h3 : (s.length : Int) < b := by omega
      go_enter Try.func34, Try.ntmps34
      go_wp2_with fail
      refine (Len_calls h).mono ?_
      rintro e w' ⟨rfl, rfl⟩
      go_wp2_with fail
      go_ret2
      exact ⟨rfl, rfl⟩
end Go.Proofs.Ytenihlicjahjhaa

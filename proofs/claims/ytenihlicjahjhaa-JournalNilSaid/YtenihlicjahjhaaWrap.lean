/-
  Wrap: a record's frame: the walk.
-/
import Derived.Test.YtenihlicjahjhaaRec
import Derived.Test.YtenihlicjahjhaaRefLines
set_option linter.unusedVariables false
set_option linter.unusedSimpArgs false
namespace Go.Proofs.Ytenihlicjahjhaa
open Go Go.RowKit Go.Proofs

theorem Wrap_bad {Q : Nat → Prop} {w : World} {v : Value} {l : List UInt8} (hv : Bts Q w v l) (h : l.length = 0 ∨ 4096 < l.length) :
    Calls Try.prog 98 #[v] w fun e w' => e = .returned (.tuple #[.slice none 0 0, .int .i64 1]) ∧ w' = w := by
  have hlen := hv.len
  unfold maxLen at hlen
  obtain ⟨a, c, rfl, hc1, hc2, hrow⟩ := hv
  clear hrow
  by_cases h0 : l.length = 0
  · rw [h0]
    go_enter Try.func98, Try.ntmps98
    go_wp2_with fail
    go_ret2
    exact ⟨rfl, rfl⟩
  · have d1 : ((l.length : Int) == 0) = false := by rw [beq_eq_false_iff_ne]; omega
    have d2 : decide (4096 < (l.length : Int)) = true := by simp only [decide_eq_true_eq]; omega
    go_enter Try.func98, Try.ntmps98
    go_wp2_with fail
    go_ret2
    exact ⟨rfl, rfl⟩

theorem toNat_b8 (n : Nat) : (b8 n).toNat = n % 256 := by simp [b8]

theorem head_cells (n : Nat) (h0 : 1 ≤ n) (h1 : n ≤ 4096) : (#[.int .u8 167, .int .u8 (((n : Int) - 1) % 256), .int .u8 (((n : Int) - 1) / 256)] : Array Value) = (Lib.byteCells (headOf n)).toArray := by
  have e1 : (((b8 (n - 1)).toNat : Nat) : Int) = ((n : Int) - 1) % 256 := by rw [toNat_b8]; omega
  have e2 : (((b8 ((n - 1) / 256)).toNat : Nat) : Int) = ((n : Int) - 1) / 256 := by rw [toNat_b8]; omega
  simp only [Lib.byteCells, headOf, List.map_cons, List.map_nil, e1, e2]
  rfl

theorem row_new (w : World) (cs : List Value) (t n : Nat) (hn : cs.length = n) (hm : n ≤ maxLen) : (w.alloc (.cells cs.toArray t)).ownsRow w.heap.size t 1 (.slice (some ⟨w.heap.size, 0, none⟩) n n) n cs := by
  subst hn
  exact ⟨by simp, .inr ⟨w.heap.size, cs.length, cs.toArray, rfl, Nat.le_refl _, heap_new _ _, Nat.le_refl _, hm, by simp, by simp⟩⟩

set_option maxRecDepth 100000 in
set_option maxHeartbeats 1000000 in
theorem Wrap_calls {Q : Nat → Prop} {w : World} {v : Value} {l : List UInt8} (hv : Bts Q w v l) (h0 : 1 ≤ l.length) (h1 : l.length ≤ 4096) :
    Calls Try.prog 98 #[v] w fun e w' => ∃ u, e = .returned (.tuple #[u, .int .i64 0]) ∧ w'.ownsRow w.heap.size 5 1 u (7 + l.length) (Lib.byteCells (frame l)) ∧ Below w.heap.size w w' := by
  have H := Lib.hid hv
  obtain ⟨a, c, rfl, hc1, hc2, hrow⟩ := hv
  obtain ⟨g, o, rfl, hg, hr⟩ := hrow (by intro e; subst e; simp at h0)
  clear hrow
  have d1 : ((l.length : Int) == 0) = false := by rw [beq_eq_false_iff_ne]; omega
  have d2 : decide (4096 < (l.length : Int)) = false := by simp only [decide_eq_false_iff_not]; omega
  obtain ⟨i0, hi, hz0, hz1, hz2⟩ := info_parts infoU8
  have hS := more_lt 1 (headOf l.length ++ l)
  go_enter Try.func98, Try.ntmps98
  go_wp2_with fail
  rw [head_cells l.length h0 h1]
  obtain ⟨W0, hW0⟩ : ∃ W0, W0 = w.alloc (.cells (Lib.byteCells (headOf l.length)).toArray 5) := ⟨_, rfl⟩
  have hown0 : W0.ownsRow w.heap.size 5 1 (.slice (some ⟨w.heap.size, 0, none⟩) 3 3) 3 (Lib.byteCells (headOf l.length)) := by rw [hW0]; exact row_new w _ _ 3 rfl (by unfold maxLen; omega)
  have hb0 : Below w.heap.size w W0 := by rw [hW0]; exact (Below.refl _ w).alloc (Nat.le_refl _) _
  rw [← hW0]
  have Hb1 := Lib.hid (H.out.agree (Agree.below hb0))
  have Hown0 := Lib.hid hown0
  clear hW0 hown0
  refine (sum_calls (Bts.of_row Hown0.out (fun _ => True) (fun _ _ => trivial)) (Hb1.out.mono (fun _ _ _ => trivial))).mono ?_
  rintro e w1 ⟨rfl, rfl⟩
  obtain ⟨S, hS'⟩ : ∃ S, S = sumOf (headOf l.length ++ l) := ⟨_, rfl⟩
  have hS2 : S < 4294967296 := by rw [hS']; exact hS
  rw [← hS']
  have HS := Lib.hid hS'
  clear hS' hS
  go_wp2_with fail
  go_loopg [5, 28] 4 (fun k v q wr => ∃ i : Nat, i ≤ 4 ∧ q = .int .i64 i ∧ wr.ownsRow w.heap.size 5 1 v (3 + i) (Lib.byteCells (headOf l.length ++ (sumBytes S).take i)) ∧ Below w.heap.size w wr ∧ k = 4 - i)
  case atStart => exact ⟨0, Nat.zero_le _, rfl, by simpa using Hown0.out, hb0, rfl⟩
  case round =>
    obtain ⟨i, hi4, rfl, hown, hbel, hk⟩ := hrel
    have Hown := Lib.hid hown
    have Hk := Lib.hid hk
    clear hown hk
    have hbs := hbel.size
    by_cases h4 : i = 4
    · subst h4
      have Hb2 := Lib.hid (H.out.agree (Agree.below hbel))
      obtain ⟨a2, c2, hv2, _, _, hrow2⟩ := Hb2.out
      obtain ⟨g2, o2, ha2, _, hr2⟩ := hrow2 (by intro e; rw [e] at h0; simp at h0)
      cases hv2; cases ha2
      clear hrow2
      go_wp2_with (at_builtin; refine wpList_append_own _ rfl _ _ 22 rfl w.heap.size 5 i0 (.int .u8 0) 1 1 Try.underlying22 hi hz0 hz1 hz2 rfl (by decide) _ _ _ rfl Hown.out ⟨g, o, none⟩ l.length c (Lib.byteCells l) rfl (by rw [Lib.byteCells_length, Nat.mul_one]) ?c1 ?c2 ?c3 ?c4 ?c5 ?_)
      case c1 => intro j u hj; rw [Addr.add_mid]; exact hr2 j u hj
      case c2 => exact byteCells_one _
      case c3 => unfold maxLen; omega
      case c4 => omega
      case c5 => exact hbs
      intro v' w2 hown2 hgr2 _
      have hb2 := hbel.grown hgr2 hbs (fun r hr => own_block_ge Hown.out r hr)
      have e : headOf l.length ++ (sumBytes S).take 4 ++ l = frame l := by
        rw [frame, HS.out]; rfl
      rw [← byteCells_append, e] at hown2
      clear hgr2
      go_wp2_with fail
      go_ret2
      exact ⟨v', rfl, by rw [show 7 + l.length = 3 + 4 + l.length by omega]; exact hown2, hb2⟩
    · have hcase : i = 0 ∨ i = 1 ∨ i = 2 ∨ i = 3 := by omega
      clear h4
      rcases hcase with rfl | rfl | rfl | rfl
      · have ecell : Value.int .u8 ((S : Int) % 256) = .int .u8 (((sumBytes S).getD 0 0).toNat : Nat) := by
          have : (((sumBytes S).getD 0 0).toNat : Int) = (S : Int) % 256 := by
            show (((b8 (S)).toNat : Nat) : Int) = _
            rw [toNat_b8]; omega
          rw [this]
        have Hec := Lib.hid ecell
        clear ecell
        go_wp2_with (at_builtin; refine wpList_append_own _ rfl _ _ 22 rfl w.heap.size 5 i0 (.int .u8 0) 1 1 Try.underlying22 hi hz0 hz1 hz2 rfl (by decide) _ _ _ rfl (Hown.out.alloc _) ⟨wr.heap.size, 0, none⟩ 1 1 [.int .u8 ((S : Int) % 256)] rfl rfl ?c1 ?c2 ?c3 ?c4 ?c5 ?_)
        case c1 => exact cells_new _ _ _
        case c2 => intro u hu; simp at hu; subst hu; rfl
        case c3 => unfold maxLen; omega
        case c4 => omega
        case c5 => rw [World.size_alloc]; omega
        intro v' w2 hown2 hgr2 _
        have hb2 := (hbel.alloc hbs _).grown hgr2 (by rw [World.size_alloc]; omega) (fun r hr => own_block_ge Hown.out r hr)
        have e : Lib.byteCells (headOf l.length) ++ [.int .u8 ((S : Int) % 256)] = Lib.byteCells (headOf l.length ++ (sumBytes S).take 1) := by
          rw [Hec.out]
          simp [byteCells_append, sumBytes, Lib.byteCells]
        rw [e] at hown2
        have Hown2 := Lib.hid hown2
        clear hown2 hgr2 e
        go_wp2_with fail
        go_roundg (4 - 1)
        case measure => have := Hk.out; omega
        case rel => exact ⟨1, by omega, rfl, Hown2.out, hb2, rfl⟩
      · have ecell : Value.int .u8 ((S : Int) / 256 % 256) = .int .u8 (((sumBytes S).getD 1 0).toNat : Nat) := by
          have : (((sumBytes S).getD 1 0).toNat : Int) = (S : Int) / 256 % 256 := by
            show (((b8 (S / 256)).toNat : Nat) : Int) = _
            rw [toNat_b8]; omega
          rw [this]
        have Hec := Lib.hid ecell
        clear ecell
        go_wp2_with (at_builtin; refine wpList_append_own _ rfl _ _ 22 rfl w.heap.size 5 i0 (.int .u8 0) 1 1 Try.underlying22 hi hz0 hz1 hz2 rfl (by decide) _ _ _ rfl (Hown.out.alloc _) ⟨wr.heap.size, 0, none⟩ 1 1 [.int .u8 ((S : Int) / 256 % 256)] rfl rfl ?c1 ?c2 ?c3 ?c4 ?c5 ?_)
        case c1 => exact cells_new _ _ _
        case c2 => intro u hu; simp at hu; subst hu; rfl
        case c3 => unfold maxLen; omega
        case c4 => omega
        case c5 => rw [World.size_alloc]; omega
        intro v' w2 hown2 hgr2 _
        have hb2 := (hbel.alloc hbs _).grown hgr2 (by rw [World.size_alloc]; omega) (fun r hr => own_block_ge Hown.out r hr)
        have e : Lib.byteCells (headOf l.length ++ (sumBytes S).take 1) ++ [.int .u8 ((S : Int) / 256 % 256)] = Lib.byteCells (headOf l.length ++ (sumBytes S).take 2) := by
          rw [Hec.out]
          simp [byteCells_append, sumBytes, Lib.byteCells]
        rw [e] at hown2
        have Hown2 := Lib.hid hown2
        clear hown2 hgr2 e
        go_wp2_with fail
        go_roundg (4 - 2)
        case measure => have := Hk.out; omega
        case rel => exact ⟨2, by omega, rfl, Hown2.out, hb2, rfl⟩
      · have ecell : Value.int .u8 ((S : Int) / 65536 % 256) = .int .u8 (((sumBytes S).getD 2 0).toNat : Nat) := by
          have : (((sumBytes S).getD 2 0).toNat : Int) = (S : Int) / 65536 % 256 := by
            show (((b8 (S / 65536)).toNat : Nat) : Int) = _
            rw [toNat_b8]; omega
          rw [this]
        have Hec := Lib.hid ecell
        clear ecell
        go_wp2_with (at_builtin; refine wpList_append_own _ rfl _ _ 22 rfl w.heap.size 5 i0 (.int .u8 0) 1 1 Try.underlying22 hi hz0 hz1 hz2 rfl (by decide) _ _ _ rfl (Hown.out.alloc _) ⟨wr.heap.size, 0, none⟩ 1 1 [.int .u8 ((S : Int) / 65536 % 256)] rfl rfl ?c1 ?c2 ?c3 ?c4 ?c5 ?_)
        case c1 => exact cells_new _ _ _
        case c2 => intro u hu; simp at hu; subst hu; rfl
        case c3 => unfold maxLen; omega
        case c4 => omega
        case c5 => rw [World.size_alloc]; omega
        intro v' w2 hown2 hgr2 _
        have hb2 := (hbel.alloc hbs _).grown hgr2 (by rw [World.size_alloc]; omega) (fun r hr => own_block_ge Hown.out r hr)
        have e : Lib.byteCells (headOf l.length ++ (sumBytes S).take 2) ++ [.int .u8 ((S : Int) / 65536 % 256)] = Lib.byteCells (headOf l.length ++ (sumBytes S).take 3) := by
          rw [Hec.out]
          simp [byteCells_append, sumBytes, Lib.byteCells]
        rw [e] at hown2
        have Hown2 := Lib.hid hown2
        clear hown2 hgr2 e
        go_wp2_with fail
        go_roundg (4 - 3)
        case measure => have := Hk.out; omega
        case rel => exact ⟨3, by omega, rfl, Hown2.out, hb2, rfl⟩
      · have ecell : Value.int .u8 ((S : Int) / 16777216) = .int .u8 (((sumBytes S).getD 3 0).toNat : Nat) := by
          have : (((sumBytes S).getD 3 0).toNat : Int) = (S : Int) / 16777216 := by
            show (((b8 (S / 16777216)).toNat : Nat) : Int) = _
            rw [toNat_b8]; omega
          rw [this]
        have Hec := Lib.hid ecell
        clear ecell
        go_wp2_with (at_builtin; refine wpList_append_own _ rfl _ _ 22 rfl w.heap.size 5 i0 (.int .u8 0) 1 1 Try.underlying22 hi hz0 hz1 hz2 rfl (by decide) _ _ _ rfl (Hown.out.alloc _) ⟨wr.heap.size, 0, none⟩ 1 1 [.int .u8 ((S : Int) / 16777216)] rfl rfl ?c1 ?c2 ?c3 ?c4 ?c5 ?_)
        case c1 => exact cells_new _ _ _
        case c2 => intro u hu; simp at hu; subst hu; rfl
        case c3 => unfold maxLen; omega
        case c4 => omega
        case c5 => rw [World.size_alloc]; omega
        intro v' w2 hown2 hgr2 _
        have hb2 := (hbel.alloc hbs _).grown hgr2 (by rw [World.size_alloc]; omega) (fun r hr => own_block_ge Hown.out r hr)
        have e : Lib.byteCells (headOf l.length ++ (sumBytes S).take 3) ++ [.int .u8 ((S : Int) / 16777216)] = Lib.byteCells (headOf l.length ++ (sumBytes S).take 4) := by
          rw [Hec.out]
          simp [byteCells_append, sumBytes, Lib.byteCells]
        rw [e] at hown2
        have Hown2 := Lib.hid hown2
        clear hown2 hgr2 e
        go_wp2_with fail
        go_roundg (4 - 4)
        case measure => have := Hk.out; omega
        case rel => exact ⟨4, by omega, rfl, Hown2.out, hb2, rfl⟩
end Go.Proofs.Ytenihlicjahjhaa

/-
  Plays: the walk of the statement RopePlays: it answers true at every input.
-/
import Derived.Test.YtenihlicjahjhaaPair
import Derived.Test.YtenihlicjahjhaaCuts
import Derived.Deep.MidRow
import Derived.Deep.WholeRow
set_option linter.unusedVariables false
set_option linter.unusedSimpArgs false
namespace Go.Proofs.Ytenihlicjahjhaa
open Go Go.RowKit Go.Proofs Go.Shelf

/-- an act of a script -/
structure ActR where
  kind : Int
  i : Int
  j : Int
  frm : Int
  upto : Int
  s : List UInt8

def ActR.cells (x : ActR) : List Value := [.int .i64 x.kind, .int .i64 x.i, .int .i64 x.j, .int .i64 x.frm, .int .i64 x.upto, .string ⟨x.s.toArray⟩]
def i64ok (n : Int) : Prop := -9223372036854775808 ≤ n ∧ n ≤ 9223372036854775807
def ActR.ok (x : ActR) : Prop := i64ok x.kind ∧ i64ok x.i ∧ i64ok x.j ∧ i64ok x.frm ∧ i64ok x.upto

/-- a script in memory -/
structure Script (w : World) (v : Value) (Sc : List ActR) : Prop where
  form : ∃ a c, v = .slice a Sc.length c ∧ ∀ k x, Sc[k]? = some x → ∃ b o, a = some ⟨b, o, none⟩ ∧ b < w.heap.size ∧ w.rangeAt b (o + k * 6) x.cells
  ok : ∀ x ∈ Sc, x.ok
  len : Sc.length ≤ maxLen

theorem cell_lt {w : World} {b j : Nat} {v : Value} (h : w.cell? ⟨b, j, none⟩ = some v) : b < w.heap.size := by
  unfold World.cell? at h
  dsimp only at h
  cases hh : w.heap[b]? with
  | none => rw [hh] at h; cases h
  | some o => exact lt_of_heap hh

set_option maxRecDepth 100000 in
set_option maxHeartbeats 4000000 in
theorem RopePlays_walk (v : Value) (Sc : List ActR) (n : Int) (w : World) (hsc : Script w v Sc) (hn : i64ok n) :
    Calls Try.prog 10 #[v, .int .i64 n] w fun e w' => e = .returned (.bool true) ∧ Below w.heap.size w w' := by
  obtain ⟨a, c, rfl, hat⟩ := hsc.form
  have hok := hsc.ok
  have hl := hsc.len
  have Hat := Lib.hid hat
  have Hok := Lib.hid hok
  clear hat hok hsc
  unfold maxLen at hl
  go_enter Try.func10, Try.ntmps10
  go_wp2_with fail
  have hP0 := Pair.start w
  go_loopg [5, 6, 7] 40 (fun k v u q wr => ∃ L, ∃ i : Nat, 0 < L.length ∧ L.length ≤ i + 1 ∧ i ≤ 40 ∧ q = .int .i64 i ∧ Pair w.heap.size L L v u wr ∧ Below w.heap.size w wr ∧ k = 40 - i)
  case atStart => exact ⟨_, 0, by decide, by decide, by decide, rfl, hP0, ((Below.refl _ w).alloc (Nat.le_refl _) _).alloc (by simp) _, rfl⟩
  case round =>
    obtain ⟨L, i, hL0, hLi, hi40, rfl, hP, hbel, hk⟩ := hrel
    have HP := Lib.hid hP
    have Hk := Lib.hid hk
    clear hk hP0
    obtain ⟨g, c1, g', c2, rfl, rfl, hLm, hLr⟩ := hP.read hL0
    have HLr := Lib.hid hLr
    clear hP hLr
    by_cases hlt : i < Sc.length ∧ i < 40
    · have d1 : decide ((i : Int) < Sc.length) = true := by simp only [decide_eq_true_eq]; omega
      have d2 : decide ((i : Int) < 40) = true := by simp only [decide_eq_true_eq]; omega
      obtain ⟨b, o, rfl, hb, hrg⟩ := Hat.out i (Sc[i]'hlt.1) (List.getElem?_eq_getElem hlt.1)
      obtain ⟨x, hx⟩ : ∃ x, x = Sc[i]'hlt.1 := ⟨_, rfl⟩
      have hxo := Hok.out _ (List.getElem_mem hlt.1)
      rw [← hx] at hrg hxo
      clear hx
      have hrg' : wr.rangeAt b (o + i * 6) x.cells := fun j u hj => (hbel.cell hb).trans (hrg j u hj)
      obtain ⟨kd, xi, xj, fr, up, s⟩ := x
      obtain ⟨ok1, ok2, ok3, ok4, ok5⟩ := hxo
      unfold i64ok at ok1 ok2 ok3 ok4 ok5
      dsimp only at ok1 ok2 ok3 ok4 ok5
      have t0 : wr.cell? ⟨b, o + i * 6, none⟩ = some (.int .i64 kd) := hrg' 0 _ rfl
      have t1 : wr.cell? ⟨b, o + i * 6 + 1, none⟩ = some (.int .i64 xi) := hrg' 1 _ rfl
      have t2 : wr.cell? ⟨b, o + i * 6 + 2, none⟩ = some (.int .i64 xj) := hrg' 2 _ rfl
      have t3 : wr.cell? ⟨b, o + i * 6 + 3, none⟩ = some (.int .i64 fr) := hrg' 3 _ rfl
      have t4 : wr.cell? ⟨b, o + i * 6 + 4, none⟩ = some (.int .i64 up) := hrg' 4 _ rfl
      have t5 : wr.cell? ⟨b, o + i * 6 + 5, none⟩ = some (.string ⟨s.toArray⟩) := hrg' 5 _ rfl
      clear hrg hrg'
      go_wp2_with fail
      obtain ⟨W0, hW0⟩ : ∃ W0, W0 = wr.alloc (.cells #[.int .i64 kd, .int .i64 xi, .int .i64 xj, .int .i64 fr, .int .i64 up, .string ⟨s.toArray⟩] 87) := ⟨_, rfl⟩
      obtain ⟨A, hA⟩ : ∃ A, A = wr.heap.size := ⟨_, rfl⟩
      have hAb : W0.heap[A]? = some (.cells #[.int .i64 kd, .int .i64 xi, .int .i64 xj, .int .i64 fr, .int .i64 up, .string ⟨s.toArray⟩] 87) := by rw [hW0, hA]; exact heap_new _ _
      have hB0 : Below wr.heap.size wr W0 := by rw [hW0]; exact (Below.refl _ wr).alloc (Nat.le_refl _) _
      have hbel0 : Below w.heap.size w W0 := hbel.trans (hB0.mono hbel.size)
      have hP1 := HP.out.bel hB0
      have s0 : W0.cell? ⟨A, 0, none⟩ = some (.int .i64 kd) := cell_row hAb 0
      have s1 : W0.cell? ⟨A, 1, none⟩ = some (.int .i64 xi) := cell_row hAb 1
      have s2 : W0.cell? ⟨A, 2, none⟩ = some (.int .i64 xj) := cell_row hAb 2
      have s3 : W0.cell? ⟨A, 3, none⟩ = some (.int .i64 fr) := cell_row hAb 3
      have s4 : W0.cell? ⟨A, 4, none⟩ = some (.int .i64 up) := cell_row hAb 4
      have s5 : W0.cell? ⟨A, 5, none⟩ = some (.string ⟨s.toArray⟩) := cell_row hAb 5
      rw [← hW0, ← hA]
      have HP1 := Lib.hid hP1
      have HAb := Lib.hid hAb
      clear hW0 hA t0 t1 t2 t3 t4 t5 HP hbel hAb hP1
      have hx1 := pickI_bd xi L.length (by omega)
      have hy1 := pickI_bd xj L.length (by omega)
      obtain ⟨px, hpx⟩ : ∃ px : Nat, (px : Int) = pickI xi L.length := ⟨(pickI xi L.length).toNat, by omega⟩
      obtain ⟨py, hpy⟩ : ∃ py : Nat, (py : Int) = pickI xj L.length := ⟨(pickI xj L.length).toNat, by omega⟩
      rw [← hpx] at hx1
      rw [← hpy] at hy1
      have Hpx := Lib.hid hpx
      have Hpy := Lib.hid hpy
      clear hpx hpy
      refine (pick6_calls xi L.length W0 (by omega) (by omega) (by omega) (by omega)).mono ?_
      rintro e w1 ⟨rfl, rfl⟩
      rw [← Hpx.out]
      go_wp2_with fail
      refine (pick6_calls xj L.length W0 (by omega) (by omega) (by omega) (by omega)).mono ?_
      rintro e w1 ⟨rfl, rfl⟩
      rw [← Hpy.out]
      have hpxl : px < L.length := by omega
      have hpyl : py < L.length := by omega
      obtain ⟨rx, hrx⟩ : ∃ rx, rx = L[px]'hpxl := ⟨_, rfl⟩
      obtain ⟨ry, hry⟩ : ∃ ry, ry = L[py]'hpyl := ⟨_, rfl⟩
      obtain ⟨px1, tx⟩ := rx
      obtain ⟨py1, ty⟩ := ry
      have ex := HP1.out.each _ (List.getElem_mem hpxl)
      have ey := HP1.out.each _ (List.getElem_mem hpyl)
      have cx := HP1.out.at px _ (List.getElem?_eq_getElem hpxl)
      have cy := HP1.out.at py _ (List.getElem?_eq_getElem hpyl)
      rw [← hrx] at ex cx
      rw [← hry] at ey cy
      dsimp only at ex ey cx cy
      obtain ⟨ex1, ex2⟩ := ex
      obtain ⟨ey1, ey2⟩ := ey
      obtain ⟨cx1, cx2⟩ := cx
      obtain ⟨cy1, cy2⟩ := cy
      have Ex := Lib.hid ex1
      have Ey := Lib.hid ey1
      clear ex1 ey1 hrx hry HLr
      obtain ⟨i0, hi0, hz0, hz1, hz2⟩ := info_parts infoRp
      obtain ⟨i1, hi1, hy0, hy2, hy3⟩ := info_parts infoStr
      by_cases hk1 : kd = 1
      · have e1 : (kd == 1) = true := by simp [hk1]
        by_cases hs3 : s.length ≤ 300
        · have e2 : decide ((s.length : Int) ≤ 300) = true := by simp only [decide_eq_true_eq]; omega
          go_wp2_with fail
          refine (Of_calls (fun _ => True) s _ (fun _ _ => trivial) (by omega)).mono ?_
          rintro e w1 ⟨r, rfl, hr, hb1⟩
          have s5' : w1.cell? ⟨A, 5, none⟩ = some (.string ⟨s.toArray⟩) := (hb1.cell (p := ⟨A, 5, none⟩) (lt_of_heap HAb.out)).trans s5
          have Hr := Lib.hid hr
          clear hr
          go_wp2_with fail
          refine (RefOf_calls s _ (by omega)).mono ?_
          rintro e w2 ⟨rfl, rfl⟩
          have hPw := HP1.out.bel hb1
          have HPw := Lib.hid hPw
          have hbw : Below w.heap.size w w1 := hbel0.trans (hb1.mono hbel0.size)
          have hbs := hbw.size
          clear hPw
          go_wp2_with (at_builtin; refine wpList_append_own _ rfl _ _ 84 rfl w.heap.size 37 i0 (.pointer none) 1 8 Try.underlying84 hi0 hz0 hz1 hz2 rfl (by decide) _ _ _ rfl (HPw.out.ropes.alloc _) ⟨w1.heap.size, 0, none⟩ 1 1 [.pointer r] rfl rfl ?c1 ?c2 ?c3 ?c4 ?c5 ?_)
          case c1 => intro j u hj; exact cells_new _ _ _ j u hj
          case c2 => intro u hu; simp at hu; subst hu; rfl
          case c3 => unfold maxLen; omega
          case c4 => omega
          case c5 => rw [World.size_alloc]; omega
          intro v' w8 hown8 hgrow8 _
          have hP8 := HPw.out.rope Hr.out (by omega) hown8 hgrow8
          have hb8 : Below w.heap.size w w8 := (hbw.alloc hbs _).grown hgrow8 (by rw [World.size_alloc]; omega) (fun k hk => own_block_ge HPw.out.ropes k hk)
          have HP8 := Lib.hid hP8
          have hbs8 := hb8.size
          clear hown8 hgrow8 hP8
          go_wp2_with (at_builtin; refine wpList_append_own _ rfl _ _ 85 rfl w.heap.size 9 i1 (.string ⟨#[]⟩) 1 16 Try.underlying85 hi1 hy0 hy2 hy3 rfl (by decide) _ _ _ rfl (HP8.out.texts.alloc _) ⟨w8.heap.size, 0, none⟩ 1 1 [.string ⟨(s).toArray⟩] rfl rfl ?c1 ?c2 ?c3 ?c4 ?c5 ?_)
          case c1 => intro j u hj; exact cells_new _ _ _ j u hj
          case c2 => intro u hu; simp at hu; subst hu; rfl
          case c3 => unfold maxLen; omega
          case c4 => omega
          case c5 => rw [World.size_alloc]; omega
          intro u' w9 hown9 hgrow9 _
          have hP9 := HP8.out.text hown9 hgrow9
          have hb9 : Below w.heap.size w w9 := (hb8.alloc hbs8 _).grown hgrow9 (by rw [World.size_alloc]; omega) (fun k hk => own_block_ge HP8.out.texts k hk)
          have HP9 := Lib.hid hP9
          clear hown9 hgrow9 hP9
          go_wp2_with fail
          have e9 := HP9.out.each (r, s) (by simp)
          refine (alike_calls e9.1 e9.2 hn.1 hn.2).mono ?_
          rintro e w10 ⟨rfl, hb10⟩
          go_wp2_with fail
          go_roundg (40 - (i + 1))
          case measure => have := Hk.out; omega
          case rel => exact ⟨L ++ [(r, s)], i + 1, by simp, by simp; omega, by omega, by rw [Int.natCast_add]; rfl, HP9.out.bel hb10, hb9.trans (hb10.mono hb9.size), rfl⟩
        · have e2 : decide ((s.length : Int) ≤ 300) = false := by simp only [decide_eq_false_iff_not]; omega
          have e3 : (kd == 2) = false := by rw [hk1]; rfl
          go_wp2_with fail
          refine lOpen [(1, (fun W => W.heap = (W0).heap))] [] [1] (by kernel_rfl) ?_
          refine lP (i := 0) (v := ?_) rfl (by kernel_rfl) (fun _ _ _ h => h) rfl ?_ ?_
          rotate_left
          · intro W; go_simp; try with_reducible rfl
          try simp only [put_lit, put_none, List.set_cons_succ, List.set_cons_zero]
          refine lR (i := 1) (v := ?_) rfl (by kernel_rfl) (fun _ _ _ h => h) rfl ?_ ?_
          rotate_left
          · intro W hS; have hc := cell_of_same (show W.heap = (W0).heap from hS); clear hS; go_simp; try with_reducible rfl
          try simp only [put_lit, put_none, List.set_cons_succ, List.set_cons_zero]
          refine lP (i := 2) (v := ?_) rfl (by kernel_rfl) (fun _ _ _ h => h) rfl ?_ ?_
          rotate_left
          · intro W; go_simp; try with_reducible rfl
          try simp only [put_lit, put_none, List.set_cons_succ, List.set_cons_zero]
          refine lP (i := 3) (v := ?_) rfl (by kernel_rfl) (fun _ _ _ h => h) rfl ?_ ?_
          rotate_left
          · intro W; go_simp; try with_reducible rfl
          try simp only [put_lit, put_none, List.set_cons_succ, List.set_cons_zero]
          refine lN (i := 4) rfl (by kernel_rfl) (fun _ _ _ h => h) rfl ?_
          try simp only [put_lit, put_none, List.set_cons_succ, List.set_cons_zero]
          refine lN (i := 5) rfl (by kernel_rfl) (fun _ _ _ h => h) rfl ?_
          try simp only [put_lit, put_none, List.set_cons_succ, List.set_cons_zero]
          refine lN (i := 6) rfl (by kernel_rfl) (fun _ _ _ h => h) rfl ?_
          try simp only [put_lit, put_none, List.set_cons_succ, List.set_cons_zero]
          refine lN (i := 9) rfl (by kernel_rfl) (fun _ _ _ h => h) rfl ?_
          try simp only [put_lit, put_none, List.set_cons_succ, List.set_cons_zero]
          refine lN (i := 10) rfl (by kernel_rfl) (fun _ _ _ h => h) rfl ?_
          try simp only [put_lit, put_none, List.set_cons_succ, List.set_cons_zero]
          refine lN (i := 11) rfl (by kernel_rfl) (fun _ _ _ h => h) rfl ?_
          try simp only [put_lit, put_none, List.set_cons_succ, List.set_cons_zero]
          refine lN (i := 7) rfl (by kernel_rfl) (fun _ _ _ h => h) rfl ?_
          try simp only [put_lit, put_none, List.set_cons_succ, List.set_cons_zero]
          refine lN (i := 8) rfl (by kernel_rfl) (fun _ _ _ h => h) rfl ?_
          try simp only [put_lit, put_none, List.set_cons_succ, List.set_cons_zero]
          refine lN (i := 12) rfl (by kernel_rfl) (fun _ _ _ h => h) rfl ?_
          try simp only [put_lit, put_none, List.set_cons_succ, List.set_cons_zero]
          refine lN (i := 13) rfl (by kernel_rfl) (fun _ _ _ h => h) rfl ?_
          try simp only [put_lit, put_none, List.set_cons_succ, List.set_cons_zero]
          refine lN (i := 14) rfl (by kernel_rfl) (fun _ _ _ h => h) rfl ?_
          try simp only [put_lit, put_none, List.set_cons_succ, List.set_cons_zero]
          refine lN (i := 15) rfl (by kernel_rfl) (fun _ _ _ h => h) rfl ?_
          try simp only [put_lit, put_none, List.set_cons_succ, List.set_cons_zero]
          refine lP (i := 16) (v := ?_) rfl (by kernel_rfl) (fun _ _ _ h => h) rfl ?_ ?_
          rotate_left
          · intro W; go_simp; try with_reducible rfl
          try simp only [put_lit, put_none, List.set_cons_succ, List.set_cons_zero]
          refine lP (i := 17) (v := ?_) rfl (by kernel_rfl) (fun _ _ _ h => h) rfl ?_ ?_
          rotate_left
          · intro W; go_simp; try with_reducible rfl
          try simp only [put_lit, put_none, List.set_cons_succ, List.set_cons_zero]
          refine lDone (by kernel_rfl) (by exact ⟨rfl, trivial⟩) ?_ _
          obtain ⟨W1, hW1⟩ : ∃ W1, W1 = W0.drew := ⟨_, rfl⟩
          have hD : Below W0.heap.size W0 W1 := by rw [hW1]; exact (Below.refl _ W0).drew
          rw [← hW1]
          have v1 : W1.cell? ⟨g, px, none⟩ = some (.pointer px1) := by rw [hW1]; exact cx1
          have v2 : W1.cell? ⟨g, py, none⟩ = some (.pointer py1) := by rw [hW1]; exact cy1
          have v3 : W1.cell? ⟨g', px, none⟩ = some (.string ⟨tx.toArray⟩) := by rw [hW1]; exact cx2
          have v4 : W1.cell? ⟨g', py, none⟩ = some (.string ⟨ty.toArray⟩) := by rw [hW1]; exact cy2
          clear hW1
          have HPa := Lib.hid (HP1.out.bel hD)
          have hbel1 : Below w.heap.size w W1 := hbel0.trans (hD.mono hbel0.size)
          have Exa := Lib.hid (Ex.out.bel hD)
          have Eya := Lib.hid (Ey.out.bel hD)
          have u0 : W1.cell? ⟨A, 0, none⟩ = some (.int .i64 kd) := (hD.cell (p := ⟨A, 0, none⟩) (lt_of_heap HAb.out)).trans s0
          have u3 : W1.cell? ⟨A, 3, none⟩ = some (.int .i64 fr) := (hD.cell (p := ⟨A, 3, none⟩) (lt_of_heap HAb.out)).trans s3
          have u4 : W1.cell? ⟨A, 4, none⟩ = some (.int .i64 up) := (hD.cell (p := ⟨A, 4, none⟩) (lt_of_heap HAb.out)).trans s4
          go_wp2_with fail
          go_roundg (40 - (i + 1))
          case measure => have := Hk.out; omega
          case rel => exact ⟨L, i + 1, hL0, by omega, by omega, by rw [Int.natCast_add]; rfl, HPa.out, hbel1, rfl⟩
      · have e1 : (kd == 1) = false := by rw [beq_eq_false_iff_ne]; exact hk1
        by_cases hk2 : kd = 2
        · have e3 : (kd == 2) = true := by simp [hk2]
          have hwa : IntKind.i64.wrap ((tx.length : Int) + ty.length) = tx.length + ty.length := by rw [IntKind.wrap_i64] <;> omega
          by_cases h20 : tx.length + ty.length ≤ 20000
          · have e4 : decide ((tx.length : Int) + ty.length ≤ 20000) = true := by simp only [decide_eq_true_eq]; omega
            go_wp2_with fail
            refine lOpen [(1, (fun W => W.heap = (W0).heap)), (7, (fun W => W.heap = (W0).heap)), (12, (fun W => W.heap = (W0).heap))] [] [1, 7, 12] (by kernel_rfl) ?_
            refine lP (i := 0) (v := ?_) rfl (by kernel_rfl) (fun _ _ _ h => h) rfl ?_ ?_
            rotate_left
            · intro W; go_simp; try with_reducible rfl
            try simp only [put_lit, put_none, List.set_cons_succ, List.set_cons_zero]
            refine lR (i := 1) (v := ?_) rfl (by kernel_rfl) (fun _ _ _ h => h) rfl ?_ ?_
            rotate_left
            · intro W hS; have hc := cell_of_same (show W.heap = (W0).heap from hS); clear hS; go_simp; try with_reducible rfl
            try simp only [put_lit, put_none, List.set_cons_succ, List.set_cons_zero]
            refine lP (i := 2) (v := ?_) rfl (by kernel_rfl) (fun _ _ _ h => h) rfl ?_ ?_
            rotate_left
            · intro W; go_simp; try with_reducible rfl
            try simp only [put_lit, put_none, List.set_cons_succ, List.set_cons_zero]
            refine lP (i := 3) (v := ?_) rfl (by kernel_rfl) (fun _ _ _ h => h) rfl ?_ ?_
            rotate_left
            · intro W; go_simp; try with_reducible rfl
            try simp only [put_lit, put_none, List.set_cons_succ, List.set_cons_zero]
            refine lP (i := 4) (v := ?_) rfl (by kernel_rfl) (fun _ _ _ h => h) rfl ?_ ?_
            rotate_left
            · intro W; go_simp; try with_reducible rfl
            try simp only [put_lit, put_none, List.set_cons_succ, List.set_cons_zero]
            refine lP (i := 5) (v := ?_) rfl (by kernel_rfl) (fun _ _ _ h => h) rfl ?_ ?_
            rotate_left
            · intro W; go_simp; try with_reducible rfl
            try simp only [put_lit, put_none, List.set_cons_succ, List.set_cons_zero]
            refine lP (i := 6) (v := ?_) rfl (by kernel_rfl) (fun _ _ _ h => h) rfl ?_ ?_
            rotate_left
            · intro W; go_simp; try with_reducible rfl
            try simp only [put_lit, put_none, List.set_cons_succ, List.set_cons_zero]
            refine lP (i := 9) (v := ?_) rfl (by kernel_rfl) (fun _ _ _ h => h) rfl ?_ ?_
            rotate_left
            · intro W; go_simp; try with_reducible rfl
            try simp only [put_lit, put_none, List.set_cons_succ, List.set_cons_zero]
            refine lP (i := 10) (v := ?_) rfl (by kernel_rfl) (fun _ _ _ h => h) rfl ?_ ?_
            rotate_left
            · intro W; go_simp; try with_reducible rfl
            try simp only [put_lit, put_none, List.set_cons_succ, List.set_cons_zero]
            refine lP (i := 11) (v := ?_) rfl (by kernel_rfl) (fun _ _ _ h => h) rfl ?_ ?_
            rotate_left
            · intro W; go_simp; try with_reducible rfl
            try simp only [put_lit, put_none, List.set_cons_succ, List.set_cons_zero]
            refine lR (i := 7) (v := ?_) rfl (by kernel_rfl) (fun _ _ _ h => h) rfl ?_ ?_
            rotate_left
            · intro W hS; have hc := cell_of_same (show W.heap = (W0).heap from hS); clear hS; go_simp; try with_reducible rfl
            try simp only [put_lit, put_none, List.set_cons_succ, List.set_cons_zero]
            refine lP (i := 8) (v := ?_) rfl (by kernel_rfl) (fun _ _ _ h => h) rfl ?_ ?_
            rotate_left
            · intro W; go_simp; try with_reducible rfl
            try simp only [put_lit, put_none, List.set_cons_succ, List.set_cons_zero]
            refine lR (i := 12) (v := ?_) rfl (by kernel_rfl) (fun _ _ _ h => h) rfl ?_ ?_
            rotate_left
            · intro W hS; have hc := cell_of_same (show W.heap = (W0).heap from hS); clear hS; go_simp; try with_reducible rfl
            try simp only [put_lit, put_none, List.set_cons_succ, List.set_cons_zero]
            refine lP (i := 13) (v := ?_) rfl (by kernel_rfl) (fun _ _ _ h => h) rfl ?_ ?_
            rotate_left
            · intro W; go_simp; try with_reducible rfl
            try simp only [put_lit, put_none, List.set_cons_succ, List.set_cons_zero]
            refine lP (i := 14) (v := ?_) rfl (by kernel_rfl) (fun _ _ _ h => h) rfl ?_ ?_
            rotate_left
            · intro W; go_simp; try with_reducible rfl
            try simp only [put_lit, put_none, List.set_cons_succ, List.set_cons_zero]
            refine lP (i := 15) (v := ?_) rfl (by kernel_rfl) (fun _ _ _ h => h) rfl ?_ ?_
            rotate_left
            · intro W; go_simp; try with_reducible rfl
            try simp only [put_lit, put_none, List.set_cons_succ, List.set_cons_zero]
            refine lP (i := 16) (v := ?_) rfl (by kernel_rfl) (fun _ _ _ h => h) rfl ?_ ?_
            rotate_left
            · intro W; go_simp; try with_reducible rfl
            try simp only [put_lit, put_none, List.set_cons_succ, List.set_cons_zero]
            refine lP (i := 17) (v := ?_) rfl (by kernel_rfl) (fun _ _ _ h => h) rfl ?_ ?_
            rotate_left
            · intro W; go_simp; try with_reducible rfl
            try simp only [put_lit, put_none, List.set_cons_succ, List.set_cons_zero]
            refine lDone (by kernel_rfl) (by exact ⟨rfl, rfl, rfl, trivial⟩) ?_ _
            obtain ⟨W1, hW1⟩ : ∃ W1, W1 = W0.drew := ⟨_, rfl⟩
            have hD : Below W0.heap.size W0 W1 := by rw [hW1]; exact (Below.refl _ W0).drew
            rw [← hW1]
            have v1 : W1.cell? ⟨g, px, none⟩ = some (.pointer px1) := by rw [hW1]; exact cx1
            have v2 : W1.cell? ⟨g, py, none⟩ = some (.pointer py1) := by rw [hW1]; exact cy1
            have v3 : W1.cell? ⟨g', px, none⟩ = some (.string ⟨tx.toArray⟩) := by rw [hW1]; exact cx2
            have v4 : W1.cell? ⟨g', py, none⟩ = some (.string ⟨ty.toArray⟩) := by rw [hW1]; exact cy2
            clear hW1
            have HPa := Lib.hid (HP1.out.bel hD)
            have hbel1 : Below w.heap.size w W1 := hbel0.trans (hD.mono hbel0.size)
            have Exa := Lib.hid (Ex.out.bel hD)
            have Eya := Lib.hid (Ey.out.bel hD)
            have u0 : W1.cell? ⟨A, 0, none⟩ = some (.int .i64 kd) := (hD.cell (p := ⟨A, 0, none⟩) (lt_of_heap HAb.out)).trans s0
            have u3 : W1.cell? ⟨A, 3, none⟩ = some (.int .i64 fr) := (hD.cell (p := ⟨A, 3, none⟩) (lt_of_heap HAb.out)).trans s3
            have u4 : W1.cell? ⟨A, 4, none⟩ = some (.int .i64 up) := (hD.cell (p := ⟨A, 4, none⟩) (lt_of_heap HAb.out)).trans s4
            have z1 : ¬ (9223372036854775807 < tx.length + ty.length) := by omega
            go_wp2_with fail
            refine lOpen [(3, (fun W => W.heap = (W1).heap)), (7, (fun W => W.heap = (W1).heap))] [(8, [3, 7])] [3, 7] (by kernel_rfl) ?_
            refine lP (i := 0) (v := ?_) rfl (by kernel_rfl) (fun _ _ _ h => h) rfl ?_ ?_
            rotate_left
            · intro W; go_simp; try with_reducible rfl
            try simp only [put_lit, put_none, List.set_cons_succ, List.set_cons_zero]
            refine lP (i := 1) (v := ?_) rfl (by kernel_rfl) (fun _ _ _ h => h) rfl ?_ ?_
            rotate_left
            · intro W; go_simp; try with_reducible rfl
            try simp only [put_lit, put_none, List.set_cons_succ, List.set_cons_zero]
            refine lP (i := 2) (v := ?_) rfl (by kernel_rfl) (fun _ _ _ h => h) rfl ?_ ?_
            rotate_left
            · intro W; go_simp; try with_reducible rfl
            try simp only [put_lit, put_none, List.set_cons_succ, List.set_cons_zero]
            refine lP (i := 4) (v := ?_) rfl (by kernel_rfl) (fun _ _ _ h => h) rfl ?_ ?_
            rotate_left
            · intro W; go_simp; try with_reducible rfl
            try simp only [put_lit, put_none, List.set_cons_succ, List.set_cons_zero]
            refine lP (i := 5) (v := ?_) rfl (by kernel_rfl) (fun _ _ _ h => h) rfl ?_ ?_
            rotate_left
            · intro W; go_simp; try with_reducible rfl
            try simp only [put_lit, put_none, List.set_cons_succ, List.set_cons_zero]
            refine lP (i := 6) (v := ?_) rfl (by kernel_rfl) (fun _ _ _ h => h) rfl ?_ ?_
            rotate_left
            · intro W; go_simp; try with_reducible rfl
            try simp only [put_lit, put_none, List.set_cons_succ, List.set_cons_zero]
            refine lR (i := 3) (v := ?_) rfl (by kernel_rfl) (fun _ _ _ h => h) rfl ?_ ?_
            rotate_left
            · intro W hS; have hc := cell_of_same (show W.heap = (W1).heap from hS); clear hS; go_simp; try with_reducible rfl
            try simp only [put_lit, put_none, List.set_cons_succ, List.set_cons_zero]
            refine lR (i := 7) (v := ?_) rfl (by kernel_rfl) (fun _ _ _ h => h) rfl ?_ ?_
            rotate_left
            · intro W hS; have hc := cell_of_same (show W.heap = (W1).heap from hS); clear hS; go_simp; try with_reducible rfl
            try simp only [put_lit, put_none, List.set_cons_succ, List.set_cons_zero]
            refine lE (i := 8) (live' := []) rfl (by kernel_rfl) (by kernel_rfl) ⟨rfl, rfl, trivial⟩ (fun K hK => ?_)
            go_simp
            refine (Join_calls Exa.out.drew Eya.out.drew (by omega) (fun _ _ => trivial)).mono ?_
            rintro e V1 ⟨r, rfl, hr, hbj⟩
            have Hr := Lib.hid hr
            clear hr
            refine hK _ _ ?_
            clear hK K
            try simp only [put_lit, put_none, List.set_cons_succ, List.set_cons_zero]
            refine lP (i := 9) (v := ?_) rfl (by kernel_rfl) (fun _ _ _ h => h) rfl ?_ ?_
            rotate_left
            · intro W; go_simp; try with_reducible rfl
            try simp only [put_lit, put_none, List.set_cons_succ, List.set_cons_zero]
            refine lP (i := 10) (v := ?_) rfl (by kernel_rfl) (fun _ _ _ h => h) rfl ?_ ?_
            rotate_left
            · intro W; go_simp; try with_reducible rfl
            try simp only [put_lit, put_none, List.set_cons_succ, List.set_cons_zero]
            refine lP (i := 11) (v := ?_) rfl (by kernel_rfl) (fun _ _ _ h => h) rfl ?_ ?_
            rotate_left
            · intro W; go_simp; try with_reducible rfl
            try simp only [put_lit, put_none, List.set_cons_succ, List.set_cons_zero]
            refine lP (i := 12) (v := ?_) rfl (by kernel_rfl) (fun _ _ _ h => h) rfl ?_ ?_
            rotate_left
            · intro W; go_simp; try with_reducible rfl
            try simp only [put_lit, put_none, List.set_cons_succ, List.set_cons_zero]
            refine lP (i := 13) (v := ?_) rfl (by kernel_rfl) (fun _ _ _ h => h) rfl ?_ ?_
            rotate_left
            · intro W; go_simp; try with_reducible rfl
            try simp only [put_lit, put_none, List.set_cons_succ, List.set_cons_zero]
            refine lDone (by kernel_rfl) (by exact trivial) ?_ _
            have hbj' : Below W1.heap.size W1 V1 := below_then ((Below.refl _ W1).drew) hbj
            have v5 : V1.cell? ⟨g', px, none⟩ = some (.string ⟨tx.toArray⟩) := (hbj'.cell (p := ⟨g', px, none⟩) (cell_lt v3)).trans v3
            have v6 : V1.cell? ⟨g', py, none⟩ = some (.string ⟨ty.toArray⟩) := (hbj'.cell (p := ⟨g', py, none⟩) (cell_lt v4)).trans v4
            have HPb := Lib.hid (HPa.out.bel hbj')
            have hbelV : Below w.heap.size w V1 := hbel1.trans (hbj'.mono hbel1.size)
            clear v1 v2 v3 v4 hbj hbj'
            go_wp2_with fail
            refine lOpen [(3, (fun W => W.heap = (V1).heap)), (7, (fun W => W.heap = (V1).heap))] [(9, [3, 7])] [3, 7] (by kernel_rfl) ?_
            refine lP (i := 0) (v := ?_) rfl (by kernel_rfl) (fun _ _ _ h => h) rfl ?_ ?_
            rotate_left
            · intro W; go_simp; try with_reducible rfl
            try simp only [put_lit, put_none, List.set_cons_succ, List.set_cons_zero]
            refine lP (i := 1) (v := ?_) rfl (by kernel_rfl) (fun _ _ _ h => h) rfl ?_ ?_
            rotate_left
            · intro W; go_simp; try with_reducible rfl
            try simp only [put_lit, put_none, List.set_cons_succ, List.set_cons_zero]
            refine lP (i := 2) (v := ?_) rfl (by kernel_rfl) (fun _ _ _ h => h) rfl ?_ ?_
            rotate_left
            · intro W; go_simp; try with_reducible rfl
            try simp only [put_lit, put_none, List.set_cons_succ, List.set_cons_zero]
            refine lP (i := 4) (v := ?_) rfl (by kernel_rfl) (fun _ _ _ h => h) rfl ?_ ?_
            rotate_left
            · intro W; go_simp; try with_reducible rfl
            try simp only [put_lit, put_none, List.set_cons_succ, List.set_cons_zero]
            refine lP (i := 5) (v := ?_) rfl (by kernel_rfl) (fun _ _ _ h => h) rfl ?_ ?_
            rotate_left
            · intro W; go_simp; try with_reducible rfl
            try simp only [put_lit, put_none, List.set_cons_succ, List.set_cons_zero]
            refine lP (i := 6) (v := ?_) rfl (by kernel_rfl) (fun _ _ _ h => h) rfl ?_ ?_
            rotate_left
            · intro W; go_simp; try with_reducible rfl
            try simp only [put_lit, put_none, List.set_cons_succ, List.set_cons_zero]
            refine lR (i := 3) (v := ?_) rfl (by kernel_rfl) (fun _ _ _ h => h) rfl ?_ ?_
            rotate_left
            · intro W hS; have hc := cell_of_same (show W.heap = (V1).heap from hS); clear hS; go_simp; try with_reducible rfl
            try simp only [put_lit, put_none, List.set_cons_succ, List.set_cons_zero]
            refine lR (i := 7) (v := ?_) rfl (by kernel_rfl) (fun _ _ _ h => h) rfl ?_ ?_
            rotate_left
            · intro W hS; have hc := cell_of_same (show W.heap = (V1).heap from hS); clear hS; go_simp; try with_reducible rfl
            try simp only [put_lit, put_none, List.set_cons_succ, List.set_cons_zero]
            refine lP (i := 8) (v := ?_) rfl (by kernel_rfl) (fun _ _ _ h => h) rfl ?_ ?_
            rotate_left
            · intro W; go_simp; try with_reducible rfl
            try simp only [put_lit, put_none, List.set_cons_succ, List.set_cons_zero]
            refine lE (i := 9) (live' := []) rfl (by kernel_rfl) (by kernel_rfl) ⟨rfl, rfl, trivial⟩ (fun K hK => ?_)
            go_simp
            rw [str_append]
            refine (RefOf_calls (tx ++ ty) _ (by simp only [List.length_append]; omega)).mono ?_
            rintro e V2 ⟨rfl, rfl⟩
            refine hK _ _ ?_
            clear hK K
            try simp only [put_lit, put_none, List.set_cons_succ, List.set_cons_zero]
            refine lP (i := 10) (v := ?_) rfl (by kernel_rfl) (fun _ _ _ h => h) rfl ?_ ?_
            rotate_left
            · intro W; go_simp; try with_reducible rfl
            try simp only [put_lit, put_none, List.set_cons_succ, List.set_cons_zero]
            refine lP (i := 11) (v := ?_) rfl (by kernel_rfl) (fun _ _ _ h => h) rfl ?_ ?_
            rotate_left
            · intro W; go_simp; try with_reducible rfl
            try simp only [put_lit, put_none, List.set_cons_succ, List.set_cons_zero]
            refine lP (i := 12) (v := ?_) rfl (by kernel_rfl) (fun _ _ _ h => h) rfl ?_ ?_
            rotate_left
            · intro W; go_simp; try with_reducible rfl
            try simp only [put_lit, put_none, List.set_cons_succ, List.set_cons_zero]
            refine lP (i := 13) (v := ?_) rfl (by kernel_rfl) (fun _ _ _ h => h) rfl ?_ ?_
            rotate_left
            · intro W; go_simp; try with_reducible rfl
            try simp only [put_lit, put_none, List.set_cons_succ, List.set_cons_zero]
            refine lP (i := 14) (v := ?_) rfl (by kernel_rfl) (fun _ _ _ h => h) rfl ?_ ?_
            rotate_left
            · intro W; go_simp; try with_reducible rfl
            try simp only [put_lit, put_none, List.set_cons_succ, List.set_cons_zero]
            refine lDone (by kernel_rfl) (by exact trivial) ?_ _
            obtain ⟨V3, hV3⟩ : ∃ V3, V3 = V1.drew := ⟨_, rfl⟩
            rw [← hV3]
            have hbV : Below V1.heap.size V1 V3 := by rw [hV3]; exact (Below.refl _ V1).drew
            have Hr3 := Lib.hid (Hr.out.bel hbV)
            clear hV3 v5 v6
            have hPw := HPb.out.bel hbV
            have HPw := Lib.hid hPw
            have hbw : Below w.heap.size w V3 := hbelV.trans (hbV.mono hbelV.size)
            have hbs := hbw.size
            clear hPw
            go_wp2_with (at_builtin; refine wpList_append_own _ rfl _ _ 84 rfl w.heap.size 37 i0 (.pointer none) 1 8 Try.underlying84 hi0 hz0 hz1 hz2 rfl (by decide) _ _ _ rfl (HPw.out.ropes.alloc _) ⟨V3.heap.size, 0, none⟩ 1 1 [.pointer r] rfl rfl ?c1 ?c2 ?c3 ?c4 ?c5 ?_)
            case c1 => intro j u hj; exact cells_new _ _ _ j u hj
            case c2 => intro u hu; simp at hu; subst hu; rfl
            case c3 => unfold maxLen; omega
            case c4 => omega
            case c5 => rw [World.size_alloc]; omega
            intro v' w8 hown8 hgrow8 _
            have hP8 := HPw.out.rope Hr3.out (by simp only [List.length_append]; omega) hown8 hgrow8
            have hb8 : Below w.heap.size w w8 := (hbw.alloc hbs _).grown hgrow8 (by rw [World.size_alloc]; omega) (fun k hk => own_block_ge HPw.out.ropes k hk)
            have HP8 := Lib.hid hP8
            have hbs8 := hb8.size
            clear hown8 hgrow8 hP8
            go_wp2_with (at_builtin; refine wpList_append_own _ rfl _ _ 85 rfl w.heap.size 9 i1 (.string ⟨#[]⟩) 1 16 Try.underlying85 hi1 hy0 hy2 hy3 rfl (by decide) _ _ _ rfl (HP8.out.texts.alloc _) ⟨w8.heap.size, 0, none⟩ 1 1 [.string ⟨(tx ++ ty).toArray⟩] rfl rfl ?c1 ?c2 ?c3 ?c4 ?c5 ?_)
            case c1 => intro j u hj; exact cells_new _ _ _ j u hj
            case c2 => intro u hu; simp at hu; subst hu; rfl
            case c3 => unfold maxLen; omega
            case c4 => omega
            case c5 => rw [World.size_alloc]; omega
            intro u' w9 hown9 hgrow9 _
            have hP9 := HP8.out.text hown9 hgrow9
            have hb9 : Below w.heap.size w w9 := (hb8.alloc hbs8 _).grown hgrow9 (by rw [World.size_alloc]; omega) (fun k hk => own_block_ge HP8.out.texts k hk)
            have HP9 := Lib.hid hP9
            clear hown9 hgrow9 hP9
            go_wp2_with fail
            have e9 := HP9.out.each (r, tx ++ ty) (by simp)
            refine (alike_calls e9.1 e9.2 hn.1 hn.2).mono ?_
            rintro e w10 ⟨rfl, hb10⟩
            go_wp2_with fail
            go_roundg (40 - (i + 1))
            case measure => have := Hk.out; omega
            case rel => exact ⟨L ++ [(r, tx ++ ty)], i + 1, by simp, by simp; omega, by omega, by rw [Int.natCast_add]; rfl, HP9.out.bel hb10, hb9.trans (hb10.mono hb9.size), rfl⟩
          · have e4 : decide ((tx.length : Int) + ty.length ≤ 20000) = false := by simp only [decide_eq_false_iff_not]; omega
            go_wp2_with fail
            refine lOpen [(1, (fun W => W.heap = (W0).heap)), (7, (fun W => W.heap = (W0).heap)), (12, (fun W => W.heap = (W0).heap))] [] [1, 7, 12] (by kernel_rfl) ?_
            refine lP (i := 0) (v := ?_) rfl (by kernel_rfl) (fun _ _ _ h => h) rfl ?_ ?_
            rotate_left
            · intro W; go_simp; try with_reducible rfl
            try simp only [put_lit, put_none, List.set_cons_succ, List.set_cons_zero]
            refine lR (i := 1) (v := ?_) rfl (by kernel_rfl) (fun _ _ _ h => h) rfl ?_ ?_
            rotate_left
            · intro W hS; have hc := cell_of_same (show W.heap = (W0).heap from hS); clear hS; go_simp; try with_reducible rfl
            try simp only [put_lit, put_none, List.set_cons_succ, List.set_cons_zero]
            refine lP (i := 2) (v := ?_) rfl (by kernel_rfl) (fun _ _ _ h => h) rfl ?_ ?_
            rotate_left
            · intro W; go_simp; try with_reducible rfl
            try simp only [put_lit, put_none, List.set_cons_succ, List.set_cons_zero]
            refine lP (i := 3) (v := ?_) rfl (by kernel_rfl) (fun _ _ _ h => h) rfl ?_ ?_
            rotate_left
            · intro W; go_simp; try with_reducible rfl
            try simp only [put_lit, put_none, List.set_cons_succ, List.set_cons_zero]
            refine lP (i := 4) (v := ?_) rfl (by kernel_rfl) (fun _ _ _ h => h) rfl ?_ ?_
            rotate_left
            · intro W; go_simp; try with_reducible rfl
            try simp only [put_lit, put_none, List.set_cons_succ, List.set_cons_zero]
            refine lP (i := 5) (v := ?_) rfl (by kernel_rfl) (fun _ _ _ h => h) rfl ?_ ?_
            rotate_left
            · intro W; go_simp; try with_reducible rfl
            try simp only [put_lit, put_none, List.set_cons_succ, List.set_cons_zero]
            refine lP (i := 6) (v := ?_) rfl (by kernel_rfl) (fun _ _ _ h => h) rfl ?_ ?_
            rotate_left
            · intro W; go_simp; try with_reducible rfl
            try simp only [put_lit, put_none, List.set_cons_succ, List.set_cons_zero]
            refine lP (i := 9) (v := ?_) rfl (by kernel_rfl) (fun _ _ _ h => h) rfl ?_ ?_
            rotate_left
            · intro W; go_simp; try with_reducible rfl
            try simp only [put_lit, put_none, List.set_cons_succ, List.set_cons_zero]
            refine lP (i := 10) (v := ?_) rfl (by kernel_rfl) (fun _ _ _ h => h) rfl ?_ ?_
            rotate_left
            · intro W; go_simp; try with_reducible rfl
            try simp only [put_lit, put_none, List.set_cons_succ, List.set_cons_zero]
            refine lP (i := 11) (v := ?_) rfl (by kernel_rfl) (fun _ _ _ h => h) rfl ?_ ?_
            rotate_left
            · intro W; go_simp; try with_reducible rfl
            try simp only [put_lit, put_none, List.set_cons_succ, List.set_cons_zero]
            refine lR (i := 7) (v := ?_) rfl (by kernel_rfl) (fun _ _ _ h => h) rfl ?_ ?_
            rotate_left
            · intro W hS; have hc := cell_of_same (show W.heap = (W0).heap from hS); clear hS; go_simp; try with_reducible rfl
            try simp only [put_lit, put_none, List.set_cons_succ, List.set_cons_zero]
            refine lP (i := 8) (v := ?_) rfl (by kernel_rfl) (fun _ _ _ h => h) rfl ?_ ?_
            rotate_left
            · intro W; go_simp; try with_reducible rfl
            try simp only [put_lit, put_none, List.set_cons_succ, List.set_cons_zero]
            refine lR (i := 12) (v := ?_) rfl (by kernel_rfl) (fun _ _ _ h => h) rfl ?_ ?_
            rotate_left
            · intro W hS; have hc := cell_of_same (show W.heap = (W0).heap from hS); clear hS; go_simp; try with_reducible rfl
            try simp only [put_lit, put_none, List.set_cons_succ, List.set_cons_zero]
            refine lP (i := 13) (v := ?_) rfl (by kernel_rfl) (fun _ _ _ h => h) rfl ?_ ?_
            rotate_left
            · intro W; go_simp; try with_reducible rfl
            try simp only [put_lit, put_none, List.set_cons_succ, List.set_cons_zero]
            refine lP (i := 14) (v := ?_) rfl (by kernel_rfl) (fun _ _ _ h => h) rfl ?_ ?_
            rotate_left
            · intro W; go_simp; try with_reducible rfl
            try simp only [put_lit, put_none, List.set_cons_succ, List.set_cons_zero]
            refine lP (i := 15) (v := ?_) rfl (by kernel_rfl) (fun _ _ _ h => h) rfl ?_ ?_
            rotate_left
            · intro W; go_simp; try with_reducible rfl
            try simp only [put_lit, put_none, List.set_cons_succ, List.set_cons_zero]
            refine lP (i := 16) (v := ?_) rfl (by kernel_rfl) (fun _ _ _ h => h) rfl ?_ ?_
            rotate_left
            · intro W; go_simp; try with_reducible rfl
            try simp only [put_lit, put_none, List.set_cons_succ, List.set_cons_zero]
            refine lP (i := 17) (v := ?_) rfl (by kernel_rfl) (fun _ _ _ h => h) rfl ?_ ?_
            rotate_left
            · intro W; go_simp; try with_reducible rfl
            try simp only [put_lit, put_none, List.set_cons_succ, List.set_cons_zero]
            refine lDone (by kernel_rfl) (by exact ⟨rfl, rfl, rfl, trivial⟩) ?_ _
            obtain ⟨W1, hW1⟩ : ∃ W1, W1 = W0.drew := ⟨_, rfl⟩
            have hD : Below W0.heap.size W0 W1 := by rw [hW1]; exact (Below.refl _ W0).drew
            rw [← hW1]
            have v1 : W1.cell? ⟨g, px, none⟩ = some (.pointer px1) := by rw [hW1]; exact cx1
            have v2 : W1.cell? ⟨g, py, none⟩ = some (.pointer py1) := by rw [hW1]; exact cy1
            have v3 : W1.cell? ⟨g', px, none⟩ = some (.string ⟨tx.toArray⟩) := by rw [hW1]; exact cx2
            have v4 : W1.cell? ⟨g', py, none⟩ = some (.string ⟨ty.toArray⟩) := by rw [hW1]; exact cy2
            clear hW1
            have HPa := Lib.hid (HP1.out.bel hD)
            have hbel1 : Below w.heap.size w W1 := hbel0.trans (hD.mono hbel0.size)
            have Exa := Lib.hid (Ex.out.bel hD)
            have Eya := Lib.hid (Ey.out.bel hD)
            have u0 : W1.cell? ⟨A, 0, none⟩ = some (.int .i64 kd) := (hD.cell (p := ⟨A, 0, none⟩) (lt_of_heap HAb.out)).trans s0
            have u3 : W1.cell? ⟨A, 3, none⟩ = some (.int .i64 fr) := (hD.cell (p := ⟨A, 3, none⟩) (lt_of_heap HAb.out)).trans s3
            have u4 : W1.cell? ⟨A, 4, none⟩ = some (.int .i64 up) := (hD.cell (p := ⟨A, 4, none⟩) (lt_of_heap HAb.out)).trans s4
            go_wp2_with fail
            go_roundg (40 - (i + 1))
            case measure => have := Hk.out; omega
            case rel => exact ⟨L, i + 1, hL0, by omega, by omega, by rw [Int.natCast_add]; rfl, HPa.out, hbel1, rfl⟩
        · have e3 : (kd == 2) = false := by rw [beq_eq_false_iff_ne]; exact hk2
          by_cases hk3 : kd = 3
          · have e5 : (kd == 3) = true := by simp [hk3]
            go_wp2_with fail
            refine lOpen [(1, (fun W => W.heap = (W0).heap))] [] [1] (by kernel_rfl) ?_
            refine lP (i := 0) (v := ?_) rfl (by kernel_rfl) (fun _ _ _ h => h) rfl ?_ ?_
            rotate_left
            · intro W; go_simp; try with_reducible rfl
            try simp only [put_lit, put_none, List.set_cons_succ, List.set_cons_zero]
            refine lR (i := 1) (v := ?_) rfl (by kernel_rfl) (fun _ _ _ h => h) rfl ?_ ?_
            rotate_left
            · intro W hS; have hc := cell_of_same (show W.heap = (W0).heap from hS); clear hS; go_simp; try with_reducible rfl
            try simp only [put_lit, put_none, List.set_cons_succ, List.set_cons_zero]
            refine lP (i := 2) (v := ?_) rfl (by kernel_rfl) (fun _ _ _ h => h) rfl ?_ ?_
            rotate_left
            · intro W; go_simp; try with_reducible rfl
            try simp only [put_lit, put_none, List.set_cons_succ, List.set_cons_zero]
            refine lP (i := 3) (v := ?_) rfl (by kernel_rfl) (fun _ _ _ h => h) rfl ?_ ?_
            rotate_left
            · intro W; go_simp; try with_reducible rfl
            try simp only [put_lit, put_none, List.set_cons_succ, List.set_cons_zero]
            refine lN (i := 4) rfl (by kernel_rfl) (fun _ _ _ h => h) rfl ?_
            try simp only [put_lit, put_none, List.set_cons_succ, List.set_cons_zero]
            refine lN (i := 5) rfl (by kernel_rfl) (fun _ _ _ h => h) rfl ?_
            try simp only [put_lit, put_none, List.set_cons_succ, List.set_cons_zero]
            refine lN (i := 6) rfl (by kernel_rfl) (fun _ _ _ h => h) rfl ?_
            try simp only [put_lit, put_none, List.set_cons_succ, List.set_cons_zero]
            refine lN (i := 9) rfl (by kernel_rfl) (fun _ _ _ h => h) rfl ?_
            try simp only [put_lit, put_none, List.set_cons_succ, List.set_cons_zero]
            refine lN (i := 10) rfl (by kernel_rfl) (fun _ _ _ h => h) rfl ?_
            try simp only [put_lit, put_none, List.set_cons_succ, List.set_cons_zero]
            refine lN (i := 11) rfl (by kernel_rfl) (fun _ _ _ h => h) rfl ?_
            try simp only [put_lit, put_none, List.set_cons_succ, List.set_cons_zero]
            refine lN (i := 7) rfl (by kernel_rfl) (fun _ _ _ h => h) rfl ?_
            try simp only [put_lit, put_none, List.set_cons_succ, List.set_cons_zero]
            refine lN (i := 8) rfl (by kernel_rfl) (fun _ _ _ h => h) rfl ?_
            try simp only [put_lit, put_none, List.set_cons_succ, List.set_cons_zero]
            refine lN (i := 12) rfl (by kernel_rfl) (fun _ _ _ h => h) rfl ?_
            try simp only [put_lit, put_none, List.set_cons_succ, List.set_cons_zero]
            refine lN (i := 13) rfl (by kernel_rfl) (fun _ _ _ h => h) rfl ?_
            try simp only [put_lit, put_none, List.set_cons_succ, List.set_cons_zero]
            refine lN (i := 14) rfl (by kernel_rfl) (fun _ _ _ h => h) rfl ?_
            try simp only [put_lit, put_none, List.set_cons_succ, List.set_cons_zero]
            refine lN (i := 15) rfl (by kernel_rfl) (fun _ _ _ h => h) rfl ?_
            try simp only [put_lit, put_none, List.set_cons_succ, List.set_cons_zero]
            refine lP (i := 16) (v := ?_) rfl (by kernel_rfl) (fun _ _ _ h => h) rfl ?_ ?_
            rotate_left
            · intro W; go_simp; try with_reducible rfl
            try simp only [put_lit, put_none, List.set_cons_succ, List.set_cons_zero]
            refine lP (i := 17) (v := ?_) rfl (by kernel_rfl) (fun _ _ _ h => h) rfl ?_ ?_
            rotate_left
            · intro W; go_simp; try with_reducible rfl
            try simp only [put_lit, put_none, List.set_cons_succ, List.set_cons_zero]
            refine lDone (by kernel_rfl) (by exact ⟨rfl, trivial⟩) ?_ _
            obtain ⟨W1, hW1⟩ : ∃ W1, W1 = W0.drew := ⟨_, rfl⟩
            have hD : Below W0.heap.size W0 W1 := by rw [hW1]; exact (Below.refl _ W0).drew
            rw [← hW1]
            have v1 : W1.cell? ⟨g, px, none⟩ = some (.pointer px1) := by rw [hW1]; exact cx1
            have v2 : W1.cell? ⟨g, py, none⟩ = some (.pointer py1) := by rw [hW1]; exact cy1
            have v3 : W1.cell? ⟨g', px, none⟩ = some (.string ⟨tx.toArray⟩) := by rw [hW1]; exact cx2
            have v4 : W1.cell? ⟨g', py, none⟩ = some (.string ⟨ty.toArray⟩) := by rw [hW1]; exact cy2
            clear hW1
            have HPa := Lib.hid (HP1.out.bel hD)
            have hbel1 : Below w.heap.size w W1 := hbel0.trans (hD.mono hbel0.size)
            have Exa := Lib.hid (Ex.out.bel hD)
            have Eya := Lib.hid (Ey.out.bel hD)
            have u0 : W1.cell? ⟨A, 0, none⟩ = some (.int .i64 kd) := (hD.cell (p := ⟨A, 0, none⟩) (lt_of_heap HAb.out)).trans s0
            have u3 : W1.cell? ⟨A, 3, none⟩ = some (.int .i64 fr) := (hD.cell (p := ⟨A, 3, none⟩) (lt_of_heap HAb.out)).trans s3
            have u4 : W1.cell? ⟨A, 4, none⟩ = some (.int .i64 up) := (hD.cell (p := ⟨A, 4, none⟩) (lt_of_heap HAb.out)).trans s4
            go_wp2_with fail
            by_cases hin : 0 ≤ fr ∧ fr ≤ up ∧ up ≤ tx.length
            · refine lOpen [(3, (fun W => W.heap = (W1).heap)), (5, (fun W => W.heap = (W1).heap)), (7, (fun W => W.heap = (W1).heap))] [(8, [3, 5, 7])] [3, 5, 7] (by kernel_rfl) ?_
              refine lP (i := 0) (v := ?_) rfl (by kernel_rfl) (fun _ _ _ h => h) rfl ?_ ?_
              rotate_left
              · intro W; go_simp; try with_reducible rfl
              try simp only [put_lit, put_none, List.set_cons_succ, List.set_cons_zero]
              refine lP (i := 1) (v := ?_) rfl (by kernel_rfl) (fun _ _ _ h => h) rfl ?_ ?_
              rotate_left
              · intro W; go_simp; try with_reducible rfl
              try simp only [put_lit, put_none, List.set_cons_succ, List.set_cons_zero]
              refine lP (i := 2) (v := ?_) rfl (by kernel_rfl) (fun _ _ _ h => h) rfl ?_ ?_
              rotate_left
              · intro W; go_simp; try with_reducible rfl
              try simp only [put_lit, put_none, List.set_cons_succ, List.set_cons_zero]
              refine lP (i := 4) (v := ?_) rfl (by kernel_rfl) (fun _ _ _ h => h) rfl ?_ ?_
              rotate_left
              · intro W; go_simp; try with_reducible rfl
              try simp only [put_lit, put_none, List.set_cons_succ, List.set_cons_zero]
              refine lP (i := 6) (v := ?_) rfl (by kernel_rfl) (fun _ _ _ h => h) rfl ?_ ?_
              rotate_left
              · intro W; go_simp; try with_reducible rfl
              try simp only [put_lit, put_none, List.set_cons_succ, List.set_cons_zero]
              refine lR (i := 3) (v := ?_) rfl (by kernel_rfl) (fun _ _ _ h => h) rfl ?_ ?_
              rotate_left
              · intro W hS; have hc := cell_of_same (show W.heap = (W1).heap from hS); clear hS; go_simp; try with_reducible rfl
              try simp only [put_lit, put_none, List.set_cons_succ, List.set_cons_zero]
              refine lR (i := 5) (v := ?_) rfl (by kernel_rfl) (fun _ _ _ h => h) rfl ?_ ?_
              rotate_left
              · intro W hS; have hc := cell_of_same (show W.heap = (W1).heap from hS); clear hS; go_simp; try with_reducible rfl
              try simp only [put_lit, put_none, List.set_cons_succ, List.set_cons_zero]
              refine lR (i := 7) (v := ?_) rfl (by kernel_rfl) (fun _ _ _ h => h) rfl ?_ ?_
              rotate_left
              · intro W hS; have hc := cell_of_same (show W.heap = (W1).heap from hS); clear hS; go_simp; try with_reducible rfl
              try simp only [put_lit, put_none, List.set_cons_succ, List.set_cons_zero]
              refine lE (i := 8) (live' := []) rfl (by kernel_rfl) (by kernel_rfl) ⟨rfl, rfl, rfl, trivial⟩ (fun K hK => ?_)
              go_simp
              refine (Cut_calls Exa.out.drew ex2 (fun _ _ => trivial) hin.1 hin.2.1 hin.2.2).mono ?_
              rintro e V1 ⟨r, rfl, hr, hbj⟩
              have Hr := Lib.hid hr
              clear hr
              refine hK _ _ ?_
              clear hK K
              try simp only [put_lit, put_none, List.set_cons_succ, List.set_cons_zero]
              refine lP (i := 9) (v := ?_) rfl (by kernel_rfl) (fun _ _ _ h => h) rfl ?_ ?_
              rotate_left
              · intro W; go_simp; try with_reducible rfl
              try simp only [put_lit, put_none, List.set_cons_succ, List.set_cons_zero]
              refine lP (i := 10) (v := ?_) rfl (by kernel_rfl) (fun _ _ _ h => h) rfl ?_ ?_
              rotate_left
              · intro W; go_simp; try with_reducible rfl
              try simp only [put_lit, put_none, List.set_cons_succ, List.set_cons_zero]
              refine lP (i := 11) (v := ?_) rfl (by kernel_rfl) (fun _ _ _ h => h) rfl ?_ ?_
              rotate_left
              · intro W; go_simp; try with_reducible rfl
              try simp only [put_lit, put_none, List.set_cons_succ, List.set_cons_zero]
              refine lP (i := 12) (v := ?_) rfl (by kernel_rfl) (fun _ _ _ h => h) rfl ?_ ?_
              rotate_left
              · intro W; go_simp; try with_reducible rfl
              try simp only [put_lit, put_none, List.set_cons_succ, List.set_cons_zero]
              refine lP (i := 13) (v := ?_) rfl (by kernel_rfl) (fun _ _ _ h => h) rfl ?_ ?_
              rotate_left
              · intro W; go_simp; try with_reducible rfl
              try simp only [put_lit, put_none, List.set_cons_succ, List.set_cons_zero]
              refine lDone (by kernel_rfl) (by exact trivial) ?_ _
              have hbj' : Below W1.heap.size W1 V1 := below_then ((Below.refl _ W1).drew) hbj
              have v5 : V1.cell? ⟨g', px, none⟩ = some (.string ⟨tx.toArray⟩) := (hbj'.cell (p := ⟨g', px, none⟩) (cell_lt v3)).trans v3
              have v6 : V1.cell? ⟨A, 3, none⟩ = some (.int .i64 fr) := (hbj'.cell (p := ⟨A, 3, none⟩) (cell_lt u3)).trans u3
              have v7 : V1.cell? ⟨A, 4, none⟩ = some (.int .i64 up) := (hbj'.cell (p := ⟨A, 4, none⟩) (cell_lt u4)).trans u4
              have HPb := Lib.hid (HPa.out.bel hbj')
              have hbelV : Below w.heap.size w V1 := hbel1.trans (hbj'.mono hbel1.size)
              obtain ⟨t9, ht9⟩ : ∃ t, t = (tx.take up.toNat).drop fr.toNat := ⟨_, rfl⟩
              have ht9l : t9.length ≤ 65536 := by rw [ht9]; simp only [List.length_drop, List.length_take]; omega
              have Hr9 : Hid (IsRope (fun _ => True) V1 r t9) := Lib.hid (by rw [ht9]; exact Hr.out)
              have Ht9 := Lib.hid ht9
              clear v1 v2 v3 v4 hbj hbj' ht9
              go_wp2_with fail
              refine lOpen [(3, (fun W => W.heap = (V1).heap)), (5, (fun W => W.heap = (V1).heap)), (7, (fun W => W.heap = (V1).heap))] [(8, [3, 5, 7])] [3, 5, 7] (by kernel_rfl) ?_
              refine lP (i := 0) (v := ?_) rfl (by kernel_rfl) (fun _ _ _ h => h) rfl ?_ ?_
              rotate_left
              · intro W; go_simp; try with_reducible rfl
              try simp only [put_lit, put_none, List.set_cons_succ, List.set_cons_zero]
              refine lP (i := 1) (v := ?_) rfl (by kernel_rfl) (fun _ _ _ h => h) rfl ?_ ?_
              rotate_left
              · intro W; go_simp; try with_reducible rfl
              try simp only [put_lit, put_none, List.set_cons_succ, List.set_cons_zero]
              refine lP (i := 2) (v := ?_) rfl (by kernel_rfl) (fun _ _ _ h => h) rfl ?_ ?_
              rotate_left
              · intro W; go_simp; try with_reducible rfl
              try simp only [put_lit, put_none, List.set_cons_succ, List.set_cons_zero]
              refine lP (i := 4) (v := ?_) rfl (by kernel_rfl) (fun _ _ _ h => h) rfl ?_ ?_
              rotate_left
              · intro W; go_simp; try with_reducible rfl
              try simp only [put_lit, put_none, List.set_cons_succ, List.set_cons_zero]
              refine lP (i := 6) (v := ?_) rfl (by kernel_rfl) (fun _ _ _ h => h) rfl ?_ ?_
              rotate_left
              · intro W; go_simp; try with_reducible rfl
              try simp only [put_lit, put_none, List.set_cons_succ, List.set_cons_zero]
              refine lR (i := 3) (v := ?_) rfl (by kernel_rfl) (fun _ _ _ h => h) rfl ?_ ?_
              rotate_left
              · intro W hS; have hc := cell_of_same (show W.heap = (V1).heap from hS); clear hS; go_simp; try with_reducible rfl
              try simp only [put_lit, put_none, List.set_cons_succ, List.set_cons_zero]
              refine lR (i := 5) (v := ?_) rfl (by kernel_rfl) (fun _ _ _ h => h) rfl ?_ ?_
              rotate_left
              · intro W hS; have hc := cell_of_same (show W.heap = (V1).heap from hS); clear hS; go_simp; try with_reducible rfl
              try simp only [put_lit, put_none, List.set_cons_succ, List.set_cons_zero]
              refine lR (i := 7) (v := ?_) rfl (by kernel_rfl) (fun _ _ _ h => h) rfl ?_ ?_
              rotate_left
              · intro W hS; have hc := cell_of_same (show W.heap = (V1).heap from hS); clear hS; go_simp; try with_reducible rfl
              try simp only [put_lit, put_none, List.set_cons_succ, List.set_cons_zero]
              refine lE (i := 8) (live' := []) rfl (by kernel_rfl) (by kernel_rfl) ⟨rfl, rfl, rfl, trivial⟩ (fun K hK => ?_)
              go_simp
              refine (RefCut_calls tx fr up _ ex2).mono ?_
              rintro e V2 ⟨rfl, rfl⟩
              rw [if_pos hin, ← Ht9.out]
              refine hK _ _ ?_
              clear hK K
              try simp only [put_lit, put_none, List.set_cons_succ, List.set_cons_zero]
              refine lP (i := 9) (v := ?_) rfl (by kernel_rfl) (fun _ _ _ h => h) rfl ?_ ?_
              rotate_left
              · intro W; go_simp; try with_reducible rfl
              try simp only [put_lit, put_none, List.set_cons_succ, List.set_cons_zero]
              refine lP (i := 10) (v := ?_) rfl (by kernel_rfl) (fun _ _ _ h => h) rfl ?_ ?_
              rotate_left
              · intro W; go_simp; try with_reducible rfl
              try simp only [put_lit, put_none, List.set_cons_succ, List.set_cons_zero]
              refine lP (i := 11) (v := ?_) rfl (by kernel_rfl) (fun _ _ _ h => h) rfl ?_ ?_
              rotate_left
              · intro W; go_simp; try with_reducible rfl
              try simp only [put_lit, put_none, List.set_cons_succ, List.set_cons_zero]
              refine lP (i := 12) (v := ?_) rfl (by kernel_rfl) (fun _ _ _ h => h) rfl ?_ ?_
              rotate_left
              · intro W; go_simp; try with_reducible rfl
              try simp only [put_lit, put_none, List.set_cons_succ, List.set_cons_zero]
              refine lP (i := 13) (v := ?_) rfl (by kernel_rfl) (fun _ _ _ h => h) rfl ?_ ?_
              rotate_left
              · intro W; go_simp; try with_reducible rfl
              try simp only [put_lit, put_none, List.set_cons_succ, List.set_cons_zero]
              refine lDone (by kernel_rfl) (by exact trivial) ?_ _
              obtain ⟨V3, hV3⟩ : ∃ V3, V3 = V1.drew := ⟨_, rfl⟩
              rw [← hV3]
              have hbV : Below V1.heap.size V1 V3 := by rw [hV3]; exact (Below.refl _ V1).drew
              have Hr3 := Lib.hid (Hr9.out.bel hbV)
              clear hV3 v5 v6 v7
              have hPw := HPb.out.bel hbV
              have HPw := Lib.hid hPw
              have hbw : Below w.heap.size w V3 := hbelV.trans (hbV.mono hbelV.size)
              have hbs := hbw.size
              clear hPw
              go_wp2_with (at_builtin; refine wpList_append_own _ rfl _ _ 84 rfl w.heap.size 37 i0 (.pointer none) 1 8 Try.underlying84 hi0 hz0 hz1 hz2 rfl (by decide) _ _ _ rfl (HPw.out.ropes.alloc _) ⟨V3.heap.size, 0, none⟩ 1 1 [.pointer r] rfl rfl ?c1 ?c2 ?c3 ?c4 ?c5 ?_)
              case c1 => intro j u hj; exact cells_new _ _ _ j u hj
              case c2 => intro u hu; simp at hu; subst hu; rfl
              case c3 => unfold maxLen; omega
              case c4 => omega
              case c5 => rw [World.size_alloc]; omega
              intro v' w8 hown8 hgrow8 _
              have hP8 := HPw.out.rope Hr3.out ht9l hown8 hgrow8
              have hb8 : Below w.heap.size w w8 := (hbw.alloc hbs _).grown hgrow8 (by rw [World.size_alloc]; omega) (fun k hk => own_block_ge HPw.out.ropes k hk)
              have HP8 := Lib.hid hP8
              have hbs8 := hb8.size
              clear hown8 hgrow8 hP8
              go_wp2_with (at_builtin; refine wpList_append_own _ rfl _ _ 85 rfl w.heap.size 9 i1 (.string ⟨#[]⟩) 1 16 Try.underlying85 hi1 hy0 hy2 hy3 rfl (by decide) _ _ _ rfl (HP8.out.texts.alloc _) ⟨w8.heap.size, 0, none⟩ 1 1 [.string ⟨(t9).toArray⟩] rfl rfl ?c1 ?c2 ?c3 ?c4 ?c5 ?_)
              case c1 => intro j u hj; exact cells_new _ _ _ j u hj
              case c2 => intro u hu; simp at hu; subst hu; rfl
              case c3 => unfold maxLen; omega
              case c4 => omega
              case c5 => rw [World.size_alloc]; omega
              intro u' w9 hown9 hgrow9 _
              have hP9 := HP8.out.text hown9 hgrow9
              have hb9 : Below w.heap.size w w9 := (hb8.alloc hbs8 _).grown hgrow9 (by rw [World.size_alloc]; omega) (fun k hk => own_block_ge HP8.out.texts k hk)
              have HP9 := Lib.hid hP9
              clear hown9 hgrow9 hP9
              go_wp2_with fail
              have e9 := HP9.out.each (r, t9) (by simp)
              refine (alike_calls e9.1 e9.2 hn.1 hn.2).mono ?_
              rintro e w10 ⟨rfl, hb10⟩
              go_wp2_with fail
              go_roundg (40 - (i + 1))
              case measure => have := Hk.out; omega
              case rel => exact ⟨L ++ [(r, t9)], i + 1, by simp, by simp; omega, by omega, by rw [Int.natCast_add]; rfl, HP9.out.bel hb10, hb9.trans (hb10.mono hb9.size), rfl⟩
            · have hout : fr < 0 ∨ up < fr ∨ (tx.length : Int) < up := by omega
              refine lOpen [(3, (fun W => W.heap = (W1).heap)), (5, (fun W => W.heap = (W1).heap)), (7, (fun W => W.heap = (W1).heap))] [(8, [3, 5, 7])] [3, 5, 7] (by kernel_rfl) ?_
              refine lP (i := 0) (v := ?_) rfl (by kernel_rfl) (fun _ _ _ h => h) rfl ?_ ?_
              rotate_left
              · intro W; go_simp; try with_reducible rfl
              try simp only [put_lit, put_none, List.set_cons_succ, List.set_cons_zero]
              refine lP (i := 1) (v := ?_) rfl (by kernel_rfl) (fun _ _ _ h => h) rfl ?_ ?_
              rotate_left
              · intro W; go_simp; try with_reducible rfl
              try simp only [put_lit, put_none, List.set_cons_succ, List.set_cons_zero]
              refine lP (i := 2) (v := ?_) rfl (by kernel_rfl) (fun _ _ _ h => h) rfl ?_ ?_
              rotate_left
              · intro W; go_simp; try with_reducible rfl
              try simp only [put_lit, put_none, List.set_cons_succ, List.set_cons_zero]
              refine lP (i := 4) (v := ?_) rfl (by kernel_rfl) (fun _ _ _ h => h) rfl ?_ ?_
              rotate_left
              · intro W; go_simp; try with_reducible rfl
              try simp only [put_lit, put_none, List.set_cons_succ, List.set_cons_zero]
              refine lP (i := 6) (v := ?_) rfl (by kernel_rfl) (fun _ _ _ h => h) rfl ?_ ?_
              rotate_left
              · intro W; go_simp; try with_reducible rfl
              try simp only [put_lit, put_none, List.set_cons_succ, List.set_cons_zero]
              refine lR (i := 3) (v := ?_) rfl (by kernel_rfl) (fun _ _ _ h => h) rfl ?_ ?_
              rotate_left
              · intro W hS; have hc := cell_of_same (show W.heap = (W1).heap from hS); clear hS; go_simp; try with_reducible rfl
              try simp only [put_lit, put_none, List.set_cons_succ, List.set_cons_zero]
              refine lR (i := 5) (v := ?_) rfl (by kernel_rfl) (fun _ _ _ h => h) rfl ?_ ?_
              rotate_left
              · intro W hS; have hc := cell_of_same (show W.heap = (W1).heap from hS); clear hS; go_simp; try with_reducible rfl
              try simp only [put_lit, put_none, List.set_cons_succ, List.set_cons_zero]
              refine lR (i := 7) (v := ?_) rfl (by kernel_rfl) (fun _ _ _ h => h) rfl ?_ ?_
              rotate_left
              · intro W hS; have hc := cell_of_same (show W.heap = (W1).heap from hS); clear hS; go_simp; try with_reducible rfl
              try simp only [put_lit, put_none, List.set_cons_succ, List.set_cons_zero]
              refine lE (i := 8) (live' := []) rfl (by kernel_rfl) (by kernel_rfl) ⟨rfl, rfl, rfl, trivial⟩ (fun K hK => ?_)
              go_simp
              refine (Cut_out Exa.out.drew hout).mono ?_
              rintro e V1 ⟨rfl, rfl⟩
              refine hK _ _ ?_
              clear hK K
              try simp only [put_lit, put_none, List.set_cons_succ, List.set_cons_zero]
              refine lP (i := 9) (v := ?_) rfl (by kernel_rfl) (fun _ _ _ h => h) rfl ?_ ?_
              rotate_left
              · intro W; go_simp; try with_reducible rfl
              try simp only [put_lit, put_none, List.set_cons_succ, List.set_cons_zero]
              refine lP (i := 10) (v := ?_) rfl (by kernel_rfl) (fun _ _ _ h => h) rfl ?_ ?_
              rotate_left
              · intro W; go_simp; try with_reducible rfl
              try simp only [put_lit, put_none, List.set_cons_succ, List.set_cons_zero]
              refine lP (i := 11) (v := ?_) rfl (by kernel_rfl) (fun _ _ _ h => h) rfl ?_ ?_
              rotate_left
              · intro W; go_simp; try with_reducible rfl
              try simp only [put_lit, put_none, List.set_cons_succ, List.set_cons_zero]
              refine lP (i := 12) (v := ?_) rfl (by kernel_rfl) (fun _ _ _ h => h) rfl ?_ ?_
              rotate_left
              · intro W; go_simp; try with_reducible rfl
              try simp only [put_lit, put_none, List.set_cons_succ, List.set_cons_zero]
              refine lP (i := 13) (v := ?_) rfl (by kernel_rfl) (fun _ _ _ h => h) rfl ?_ ?_
              rotate_left
              · intro W; go_simp; try with_reducible rfl
              try simp only [put_lit, put_none, List.set_cons_succ, List.set_cons_zero]
              refine lDone (by kernel_rfl) (by exact trivial) ?_ _
              go_wp2_with fail
              refine lOpen [(3, (fun W => W.heap = (W1.drew).heap)), (5, (fun W => W.heap = (W1.drew).heap)), (7, (fun W => W.heap = (W1.drew).heap))] [(8, [3, 5, 7])] [3, 5, 7] (by kernel_rfl) ?_
              refine lP (i := 0) (v := ?_) rfl (by kernel_rfl) (fun _ _ _ h => h) rfl ?_ ?_
              rotate_left
              · intro W; go_simp; try with_reducible rfl
              try simp only [put_lit, put_none, List.set_cons_succ, List.set_cons_zero]
              refine lP (i := 1) (v := ?_) rfl (by kernel_rfl) (fun _ _ _ h => h) rfl ?_ ?_
              rotate_left
              · intro W; go_simp; try with_reducible rfl
              try simp only [put_lit, put_none, List.set_cons_succ, List.set_cons_zero]
              refine lP (i := 2) (v := ?_) rfl (by kernel_rfl) (fun _ _ _ h => h) rfl ?_ ?_
              rotate_left
              · intro W; go_simp; try with_reducible rfl
              try simp only [put_lit, put_none, List.set_cons_succ, List.set_cons_zero]
              refine lP (i := 4) (v := ?_) rfl (by kernel_rfl) (fun _ _ _ h => h) rfl ?_ ?_
              rotate_left
              · intro W; go_simp; try with_reducible rfl
              try simp only [put_lit, put_none, List.set_cons_succ, List.set_cons_zero]
              refine lP (i := 6) (v := ?_) rfl (by kernel_rfl) (fun _ _ _ h => h) rfl ?_ ?_
              rotate_left
              · intro W; go_simp; try with_reducible rfl
              try simp only [put_lit, put_none, List.set_cons_succ, List.set_cons_zero]
              refine lR (i := 3) (v := ?_) rfl (by kernel_rfl) (fun _ _ _ h => h) rfl ?_ ?_
              rotate_left
              · intro W hS; have hc := cell_of_same (show W.heap = (W1.drew).heap from hS); clear hS; go_simp; try with_reducible rfl
              try simp only [put_lit, put_none, List.set_cons_succ, List.set_cons_zero]
              refine lR (i := 5) (v := ?_) rfl (by kernel_rfl) (fun _ _ _ h => h) rfl ?_ ?_
              rotate_left
              · intro W hS; have hc := cell_of_same (show W.heap = (W1.drew).heap from hS); clear hS; go_simp; try with_reducible rfl
              try simp only [put_lit, put_none, List.set_cons_succ, List.set_cons_zero]
              refine lR (i := 7) (v := ?_) rfl (by kernel_rfl) (fun _ _ _ h => h) rfl ?_ ?_
              rotate_left
              · intro W hS; have hc := cell_of_same (show W.heap = (W1.drew).heap from hS); clear hS; go_simp; try with_reducible rfl
              try simp only [put_lit, put_none, List.set_cons_succ, List.set_cons_zero]
              refine lE (i := 8) (live' := []) rfl (by kernel_rfl) (by kernel_rfl) ⟨rfl, rfl, rfl, trivial⟩ (fun K hK => ?_)
              go_simp
              refine (RefCut_calls tx fr up _ ex2).mono ?_
              rintro e V2 ⟨rfl, rfl⟩
              rw [if_neg hin]
              refine hK _ _ ?_
              clear hK K
              try simp only [put_lit, put_none, List.set_cons_succ, List.set_cons_zero]
              refine lP (i := 9) (v := ?_) rfl (by kernel_rfl) (fun _ _ _ h => h) rfl ?_ ?_
              rotate_left
              · intro W; go_simp; try with_reducible rfl
              try simp only [put_lit, put_none, List.set_cons_succ, List.set_cons_zero]
              refine lP (i := 10) (v := ?_) rfl (by kernel_rfl) (fun _ _ _ h => h) rfl ?_ ?_
              rotate_left
              · intro W; go_simp; try with_reducible rfl
              try simp only [put_lit, put_none, List.set_cons_succ, List.set_cons_zero]
              refine lP (i := 11) (v := ?_) rfl (by kernel_rfl) (fun _ _ _ h => h) rfl ?_ ?_
              rotate_left
              · intro W; go_simp; try with_reducible rfl
              try simp only [put_lit, put_none, List.set_cons_succ, List.set_cons_zero]
              refine lP (i := 12) (v := ?_) rfl (by kernel_rfl) (fun _ _ _ h => h) rfl ?_ ?_
              rotate_left
              · intro W; go_simp; try with_reducible rfl
              try simp only [put_lit, put_none, List.set_cons_succ, List.set_cons_zero]
              refine lP (i := 13) (v := ?_) rfl (by kernel_rfl) (fun _ _ _ h => h) rfl ?_ ?_
              rotate_left
              · intro W; go_simp; try with_reducible rfl
              try simp only [put_lit, put_none, List.set_cons_succ, List.set_cons_zero]
              refine lDone (by kernel_rfl) (by exact trivial) ?_ _
              have hbV : Below W1.heap.size W1 W1.drew.drew := (Below.refl _ W1).drew.drew
              go_wp2_with fail
              go_roundg (40 - (i + 1))
              case measure => have := Hk.out; omega
              case rel => exact ⟨L, i + 1, hL0, by omega, by omega, by rw [Int.natCast_add]; rfl, HPa.out.bel hbV, hbel1.trans (hbV.mono hbel1.size), rfl⟩
          · have e5 : (kd == 3) = false := by rw [beq_eq_false_iff_ne]; exact hk3
            go_wp2_with fail
            refine lOpen [(1, (fun W => W.heap = (W0).heap))] [] [1] (by kernel_rfl) ?_
            refine lP (i := 0) (v := ?_) rfl (by kernel_rfl) (fun _ _ _ h => h) rfl ?_ ?_
            rotate_left
            · intro W; go_simp; try with_reducible rfl
            try simp only [put_lit, put_none, List.set_cons_succ, List.set_cons_zero]
            refine lR (i := 1) (v := ?_) rfl (by kernel_rfl) (fun _ _ _ h => h) rfl ?_ ?_
            rotate_left
            · intro W hS; have hc := cell_of_same (show W.heap = (W0).heap from hS); clear hS; go_simp; try with_reducible rfl
            try simp only [put_lit, put_none, List.set_cons_succ, List.set_cons_zero]
            refine lP (i := 2) (v := ?_) rfl (by kernel_rfl) (fun _ _ _ h => h) rfl ?_ ?_
            rotate_left
            · intro W; go_simp; try with_reducible rfl
            try simp only [put_lit, put_none, List.set_cons_succ, List.set_cons_zero]
            refine lP (i := 3) (v := ?_) rfl (by kernel_rfl) (fun _ _ _ h => h) rfl ?_ ?_
            rotate_left
            · intro W; go_simp; try with_reducible rfl
            try simp only [put_lit, put_none, List.set_cons_succ, List.set_cons_zero]
            refine lN (i := 4) rfl (by kernel_rfl) (fun _ _ _ h => h) rfl ?_
            try simp only [put_lit, put_none, List.set_cons_succ, List.set_cons_zero]
            refine lN (i := 5) rfl (by kernel_rfl) (fun _ _ _ h => h) rfl ?_
            try simp only [put_lit, put_none, List.set_cons_succ, List.set_cons_zero]
            refine lN (i := 6) rfl (by kernel_rfl) (fun _ _ _ h => h) rfl ?_
            try simp only [put_lit, put_none, List.set_cons_succ, List.set_cons_zero]
            refine lN (i := 9) rfl (by kernel_rfl) (fun _ _ _ h => h) rfl ?_
            try simp only [put_lit, put_none, List.set_cons_succ, List.set_cons_zero]
            refine lN (i := 10) rfl (by kernel_rfl) (fun _ _ _ h => h) rfl ?_
            try simp only [put_lit, put_none, List.set_cons_succ, List.set_cons_zero]
            refine lN (i := 11) rfl (by kernel_rfl) (fun _ _ _ h => h) rfl ?_
            try simp only [put_lit, put_none, List.set_cons_succ, List.set_cons_zero]
            refine lN (i := 7) rfl (by kernel_rfl) (fun _ _ _ h => h) rfl ?_
            try simp only [put_lit, put_none, List.set_cons_succ, List.set_cons_zero]
            refine lN (i := 8) rfl (by kernel_rfl) (fun _ _ _ h => h) rfl ?_
            try simp only [put_lit, put_none, List.set_cons_succ, List.set_cons_zero]
            refine lN (i := 12) rfl (by kernel_rfl) (fun _ _ _ h => h) rfl ?_
            try simp only [put_lit, put_none, List.set_cons_succ, List.set_cons_zero]
            refine lN (i := 13) rfl (by kernel_rfl) (fun _ _ _ h => h) rfl ?_
            try simp only [put_lit, put_none, List.set_cons_succ, List.set_cons_zero]
            refine lN (i := 14) rfl (by kernel_rfl) (fun _ _ _ h => h) rfl ?_
            try simp only [put_lit, put_none, List.set_cons_succ, List.set_cons_zero]
            refine lN (i := 15) rfl (by kernel_rfl) (fun _ _ _ h => h) rfl ?_
            try simp only [put_lit, put_none, List.set_cons_succ, List.set_cons_zero]
            refine lP (i := 16) (v := ?_) rfl (by kernel_rfl) (fun _ _ _ h => h) rfl ?_ ?_
            rotate_left
            · intro W; go_simp; try with_reducible rfl
            try simp only [put_lit, put_none, List.set_cons_succ, List.set_cons_zero]
            refine lP (i := 17) (v := ?_) rfl (by kernel_rfl) (fun _ _ _ h => h) rfl ?_ ?_
            rotate_left
            · intro W; go_simp; try with_reducible rfl
            try simp only [put_lit, put_none, List.set_cons_succ, List.set_cons_zero]
            refine lDone (by kernel_rfl) (by exact ⟨rfl, trivial⟩) ?_ _
            obtain ⟨W1, hW1⟩ : ∃ W1, W1 = W0.drew := ⟨_, rfl⟩
            have hD : Below W0.heap.size W0 W1 := by rw [hW1]; exact (Below.refl _ W0).drew
            rw [← hW1]
            have v1 : W1.cell? ⟨g, px, none⟩ = some (.pointer px1) := by rw [hW1]; exact cx1
            have v2 : W1.cell? ⟨g, py, none⟩ = some (.pointer py1) := by rw [hW1]; exact cy1
            have v3 : W1.cell? ⟨g', px, none⟩ = some (.string ⟨tx.toArray⟩) := by rw [hW1]; exact cx2
            have v4 : W1.cell? ⟨g', py, none⟩ = some (.string ⟨ty.toArray⟩) := by rw [hW1]; exact cy2
            clear hW1
            have HPa := Lib.hid (HP1.out.bel hD)
            have hbel1 : Below w.heap.size w W1 := hbel0.trans (hD.mono hbel0.size)
            have Exa := Lib.hid (Ex.out.bel hD)
            have Eya := Lib.hid (Ey.out.bel hD)
            have u0 : W1.cell? ⟨A, 0, none⟩ = some (.int .i64 kd) := (hD.cell (p := ⟨A, 0, none⟩) (lt_of_heap HAb.out)).trans s0
            have u3 : W1.cell? ⟨A, 3, none⟩ = some (.int .i64 fr) := (hD.cell (p := ⟨A, 3, none⟩) (lt_of_heap HAb.out)).trans s3
            have u4 : W1.cell? ⟨A, 4, none⟩ = some (.int .i64 up) := (hD.cell (p := ⟨A, 4, none⟩) (lt_of_heap HAb.out)).trans s4
            go_wp2_with fail
            go_roundg (40 - (i + 1))
            case measure => have := Hk.out; omega
            case rel => exact ⟨L, i + 1, hL0, by omega, by omega, by rw [Int.natCast_add]; rfl, HPa.out, hbel1, rfl⟩
    · have d3 : (decide ((i : Int) < Sc.length) && decide ((i : Int) < 40)) = false := by
        rw [Bool.and_eq_false_iff]; simp only [decide_eq_false_iff_not]; omega
      by_cases hi1 : i < Sc.length
      · have d1 : decide ((i : Int) < Sc.length) = true := by simp only [decide_eq_true_eq]; omega
        have d2 : decide ((i : Int) < 40) = false := by simp only [decide_eq_false_iff_not]; omega
        clear d3
        go_wp2_with fail
        go_loopg [16] L.length (fun k r W => Pair w.heap.size L L (.slice (some ⟨g, 0, none⟩) L.length c1) (.slice (some ⟨g', 0, none⟩) L.length c2) W ∧ Below w.heap.size w W ∧ ∃ j : Nat, r = .int .i64 j ∧ j ≤ L.length ∧ k = L.length - j)
        case atStart => exact ⟨HP.out, hbel, 0, rfl, Nat.zero_le _, rfl⟩
        case round =>
          obtain ⟨hPj, hbj, j, rfl, hj, hkj⟩ := hrel
          have HPj := Lib.hid hPj
          have Hkj := Lib.hid hkj
          have Hbj := Lib.hid hbj
          clear hPj hkj hbj
          by_cases hjl : j < L.length
          · have q1 : decide ((j : Int) < L.length) = true := by simp only [decide_eq_true_eq]; omega
            obtain ⟨rj, hrj⟩ : ∃ rj, rj = L[j]'hjl := ⟨_, rfl⟩
            obtain ⟨pj, tj⟩ := rj
            have ej := HPj.out.each _ (List.getElem_mem hjl)
            have cj := HPj.out.at j _ (List.getElem?_eq_getElem hjl)
            rw [← hrj] at ej cj
            dsimp only at ej cj
            obtain ⟨ej1, ej2⟩ := ej
            obtain ⟨cj1, cj2⟩ := cj
            have Ej := Lib.hid ej1
            clear ej1 hrj
            go_wp2_with fail
            refine lOpen [(3, (fun W => W.heap = (wr).heap)), (7, (fun W => W.heap = (wr).heap))] [(9, [3, 7])] [3, 7] (by kernel_rfl) ?_
            refine lP (i := 0) (v := ?_) rfl (by kernel_rfl) (fun _ _ _ h => h) rfl ?_ ?_
            rotate_left
            · intro W; go_simp; try with_reducible rfl
            try simp only [put_lit, put_none, List.set_cons_succ, List.set_cons_zero]
            refine lP (i := 1) (v := ?_) rfl (by kernel_rfl) (fun _ _ _ h => h) rfl ?_ ?_
            rotate_left
            · intro W; go_simp; try with_reducible rfl
            try simp only [put_lit, put_none, List.set_cons_succ, List.set_cons_zero]
            refine lP (i := 2) (v := ?_) rfl (by kernel_rfl) (fun _ _ _ h => h) rfl ?_ ?_
            rotate_left
            · intro W; go_simp; try with_reducible rfl
            try simp only [put_lit, put_none, List.set_cons_succ, List.set_cons_zero]
            refine lP (i := 4) (v := ?_) rfl (by kernel_rfl) (fun _ _ _ h => h) rfl ?_ ?_
            rotate_left
            · intro W; go_simp; try with_reducible rfl
            try simp only [put_lit, put_none, List.set_cons_succ, List.set_cons_zero]
            refine lP (i := 5) (v := ?_) rfl (by kernel_rfl) (fun _ _ _ h => h) rfl ?_ ?_
            rotate_left
            · intro W; go_simp; try with_reducible rfl
            try simp only [put_lit, put_none, List.set_cons_succ, List.set_cons_zero]
            refine lP (i := 6) (v := ?_) rfl (by kernel_rfl) (fun _ _ _ h => h) rfl ?_ ?_
            rotate_left
            · intro W; go_simp; try with_reducible rfl
            try simp only [put_lit, put_none, List.set_cons_succ, List.set_cons_zero]
            refine lP (i := 8) (v := ?_) rfl (by kernel_rfl) (fun _ _ _ h => h) rfl ?_ ?_
            rotate_left
            · intro W; go_simp; try with_reducible rfl
            try simp only [put_lit, put_none, List.set_cons_succ, List.set_cons_zero]
            refine lR (i := 3) (v := ?_) rfl (by kernel_rfl) (fun _ _ _ h => h) rfl ?_ ?_
            rotate_left
            · intro W hS; have hc := cell_of_same (show W.heap = (wr).heap from hS); clear hS; go_simp; try with_reducible rfl
            try simp only [put_lit, put_none, List.set_cons_succ, List.set_cons_zero]
            refine lR (i := 7) (v := ?_) rfl (by kernel_rfl) (fun _ _ _ h => h) rfl ?_ ?_
            rotate_left
            · intro W hS; have hc := cell_of_same (show W.heap = (wr).heap from hS); clear hS; go_simp; try with_reducible rfl
            try simp only [put_lit, put_none, List.set_cons_succ, List.set_cons_zero]
            refine lE (i := 9) (live' := []) rfl (by kernel_rfl) (by kernel_rfl) ⟨rfl, rfl, trivial⟩ (fun K hK => ?_)
            go_simp
            refine (alike_calls Ej.out.drew ej2 hn.1 hn.2).mono ?_
            rintro e V1 ⟨rfl, hbv⟩
            refine hK _ _ ?_
            clear hK K
            try simp only [put_lit, put_none, List.set_cons_succ, List.set_cons_zero]
            refine lP (i := 10) (v := ?_) rfl (by kernel_rfl) (fun _ _ _ h => h) rfl ?_ ?_
            rotate_left
            · intro W; go_simp; try with_reducible rfl
            try simp only [put_lit, put_none, List.set_cons_succ, List.set_cons_zero]
            refine lDone (by kernel_rfl) (by exact trivial) ?_ _
            have hbv' := below_then ((Below.refl _ _).drew) hbv
            go_wp2_with fail
            go_roundg (L.length - (j + 1))
            case measure => have := Hkj.out; omega
            case rel => exact ⟨HPj.out.bel hbv', Hbj.out.trans (hbv'.mono Hbj.out.size), j + 1, by rw [Int.natCast_add]; rfl, by omega, rfl⟩
          · have q1 : decide ((j : Int) < L.length) = false := by simp only [decide_eq_false_iff_not]; omega
            go_wp2_with fail
            refine (alive6_calls _).mono ?_
            rintro e V1 ⟨rfl, hbv⟩
            go_wp2_with fail
            go_ret
            exact ⟨rfl, Hbj.out.trans (hbv.mono Hbj.out.size)⟩
      · have d1 : decide ((i : Int) < Sc.length) = false := by simp only [decide_eq_false_iff_not]; omega
        clear d3
        go_wp2_with fail
        go_loopg [16] L.length (fun k r W => Pair w.heap.size L L (.slice (some ⟨g, 0, none⟩) L.length c1) (.slice (some ⟨g', 0, none⟩) L.length c2) W ∧ Below w.heap.size w W ∧ ∃ j : Nat, r = .int .i64 j ∧ j ≤ L.length ∧ k = L.length - j)
        case atStart => exact ⟨HP.out, hbel, 0, rfl, Nat.zero_le _, rfl⟩
        case round =>
          obtain ⟨hPj, hbj, j, rfl, hj, hkj⟩ := hrel
          have HPj := Lib.hid hPj
          have Hkj := Lib.hid hkj
          have Hbj := Lib.hid hbj
          clear hPj hkj hbj
          by_cases hjl : j < L.length
          · have q1 : decide ((j : Int) < L.length) = true := by simp only [decide_eq_true_eq]; omega
            obtain ⟨rj, hrj⟩ : ∃ rj, rj = L[j]'hjl := ⟨_, rfl⟩
            obtain ⟨pj, tj⟩ := rj
            have ej := HPj.out.each _ (List.getElem_mem hjl)
            have cj := HPj.out.at j _ (List.getElem?_eq_getElem hjl)
            rw [← hrj] at ej cj
            dsimp only at ej cj
            obtain ⟨ej1, ej2⟩ := ej
            obtain ⟨cj1, cj2⟩ := cj
            have Ej := Lib.hid ej1
            clear ej1 hrj
            go_wp2_with fail
            refine lOpen [(3, (fun W => W.heap = (wr).heap)), (7, (fun W => W.heap = (wr).heap))] [(9, [3, 7])] [3, 7] (by kernel_rfl) ?_
            refine lP (i := 0) (v := ?_) rfl (by kernel_rfl) (fun _ _ _ h => h) rfl ?_ ?_
            rotate_left
            · intro W; go_simp; try with_reducible rfl
            try simp only [put_lit, put_none, List.set_cons_succ, List.set_cons_zero]
            refine lP (i := 1) (v := ?_) rfl (by kernel_rfl) (fun _ _ _ h => h) rfl ?_ ?_
            rotate_left
            · intro W; go_simp; try with_reducible rfl
            try simp only [put_lit, put_none, List.set_cons_succ, List.set_cons_zero]
            refine lP (i := 2) (v := ?_) rfl (by kernel_rfl) (fun _ _ _ h => h) rfl ?_ ?_
            rotate_left
            · intro W; go_simp; try with_reducible rfl
            try simp only [put_lit, put_none, List.set_cons_succ, List.set_cons_zero]
            refine lP (i := 4) (v := ?_) rfl (by kernel_rfl) (fun _ _ _ h => h) rfl ?_ ?_
            rotate_left
            · intro W; go_simp; try with_reducible rfl
            try simp only [put_lit, put_none, List.set_cons_succ, List.set_cons_zero]
            refine lP (i := 5) (v := ?_) rfl (by kernel_rfl) (fun _ _ _ h => h) rfl ?_ ?_
            rotate_left
            · intro W; go_simp; try with_reducible rfl
            try simp only [put_lit, put_none, List.set_cons_succ, List.set_cons_zero]
            refine lP (i := 6) (v := ?_) rfl (by kernel_rfl) (fun _ _ _ h => h) rfl ?_ ?_
            rotate_left
            · intro W; go_simp; try with_reducible rfl
            try simp only [put_lit, put_none, List.set_cons_succ, List.set_cons_zero]
            refine lP (i := 8) (v := ?_) rfl (by kernel_rfl) (fun _ _ _ h => h) rfl ?_ ?_
            rotate_left
            · intro W; go_simp; try with_reducible rfl
            try simp only [put_lit, put_none, List.set_cons_succ, List.set_cons_zero]
            refine lR (i := 3) (v := ?_) rfl (by kernel_rfl) (fun _ _ _ h => h) rfl ?_ ?_
            rotate_left
            · intro W hS; have hc := cell_of_same (show W.heap = (wr).heap from hS); clear hS; go_simp; try with_reducible rfl
            try simp only [put_lit, put_none, List.set_cons_succ, List.set_cons_zero]
            refine lR (i := 7) (v := ?_) rfl (by kernel_rfl) (fun _ _ _ h => h) rfl ?_ ?_
            rotate_left
            · intro W hS; have hc := cell_of_same (show W.heap = (wr).heap from hS); clear hS; go_simp; try with_reducible rfl
            try simp only [put_lit, put_none, List.set_cons_succ, List.set_cons_zero]
            refine lE (i := 9) (live' := []) rfl (by kernel_rfl) (by kernel_rfl) ⟨rfl, rfl, trivial⟩ (fun K hK => ?_)
            go_simp
            refine (alike_calls Ej.out.drew ej2 hn.1 hn.2).mono ?_
            rintro e V1 ⟨rfl, hbv⟩
            refine hK _ _ ?_
            clear hK K
            try simp only [put_lit, put_none, List.set_cons_succ, List.set_cons_zero]
            refine lP (i := 10) (v := ?_) rfl (by kernel_rfl) (fun _ _ _ h => h) rfl ?_ ?_
            rotate_left
            · intro W; go_simp; try with_reducible rfl
            try simp only [put_lit, put_none, List.set_cons_succ, List.set_cons_zero]
            refine lDone (by kernel_rfl) (by exact trivial) ?_ _
            have hbv' := below_then ((Below.refl _ _).drew) hbv
            go_wp2_with fail
            go_roundg (L.length - (j + 1))
            case measure => have := Hkj.out; omega
            case rel => exact ⟨HPj.out.bel hbv', Hbj.out.trans (hbv'.mono Hbj.out.size), j + 1, by rw [Int.natCast_add]; rfl, by omega, rfl⟩
          · have q1 : decide ((j : Int) < L.length) = false := by simp only [decide_eq_false_iff_not]; omega
            go_wp2_with fail
            refine (alive6_calls _).mono ?_
            rintro e V1 ⟨rfl, hbv⟩
            go_wp2_with fail
            go_ret
            exact ⟨rfl, Hbj.out.trans (hbv.mono Hbj.out.size)⟩
end Go.Proofs.Ytenihlicjahjhaa

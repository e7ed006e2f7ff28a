/-
  DiskB: a disk in memory: what its methods do.
-/
import Derived.Test.YtenihlicjahjhaaDisk
import Derived.Test.YtenihlicjahjhaaRegL
set_option linter.unusedVariables false
set_option linter.unusedSimpArgs false
namespace Go.Proofs.Ytenihlicjahjhaa
open Go Go.RowKit Go.Proofs
open Go.Maps (Keyed)

theorem zeroBlk (w : World) : (zeroValue 190).run Try.prog w = .ok (blkV zero32) w := by kernel_rfl
theorem i64wf {n : Int} (h0 : -9223372036854775808 ≤ n) (h1 : n ≤ 9223372036854775807) : (Lit.int .i64 n).wf = true := by
  simp only [Lit.wf, Bool.and_eq_true, decide_eq_true_eq]
  exact ⟨h0, h1⟩

theorem wpList_store_new {P : Program} {ops : Array Oper} {rest : List Oper} {op : Oper} {a : Act} {w : World} {Q : Exit → Act → World → Prop} {t : TypeId} {c : Array Value} (hgd : op.guard = none) (x y : Operand) (ho : op.op = .store t x y)
    (cs : List Value) (hx : a.eval x = .pointer (some ⟨w.heap.size, 0, none⟩)) (hy : a.eval y = .agg cs.toArray) (hi : (P.info? t).map (·.size) = some cs.length) (hc : c.size = cs.length) (h1 : ∀ v ∈ cs, v.oneCell' = true)
    (h : wpList P ops Q rest (a.put op.dst undef) (w.alloc (.cells cs.toArray t))) : wpList P ops Q (op :: rest) a (w.alloc (.cells c t)) :=
  wpList_plain hgd fun K hK => by
    unfold Oper.wp execOp
    simp only [ho, hx, hy, Instr.storeAt, Instr.sureAddr, Sem.run_bind, Sem.run_pure, Result.andThen_ok, run_storeVar_new (P := P) w t c cs.toArray (by simpa using hi) (by simpa using hc) (all_oneCell_toArray h1)]
    exact hK _ _ h

theorem blkInfo (l : List UInt8) (h : l.length = 32) : (Try.prog.info? 190).map (·.size) = some (Lib.byteCells l).length := by
  rw [Lib.byteCells_length, h]; kernel_rfl
theorem infoU8 : (Try.prog.info? 5).map (fun i => (i.zero, i.size, i.bytes)) = some (some (.int .u8 0), 1, 1) := by kernel_rfl
theorem infoWr : (Try.prog.info? 192).map (fun i => (i.zero.map (·.cells.size), i.size, i.bytes)) = some (some 33, 33, 40) := by kernel_rfl

set_option maxRecDepth 100000 in
theorem Read_calls {R : Nat → Prop} {w : World} {d : Nat} {G : DiskG} {n : Int} (h : IsDisk R w d G) (h0 : 0 ≤ n) (h1 : n < G.size) :
    Calls Try.prog 51 #[.pointer (some ⟨d, 0, none⟩), .int .i64 n] w fun e w' => ∃ v, e = .returned (.tuple #[v, .int .i64 0]) ∧ w'.ownsRow w.heap.size 5 1 v 32 (Lib.byteCells (G.now n)) ∧ Below w.heap.size w w' := by
  have H := Lib.hid h
  obtain ⟨m1, m2, v, h⟩ := h
  have hb := h.big
  have c2 : w.cell? ⟨d, 2, none⟩ = some (.map (some m2)) := cell_row h.obj 2
  have hl := h.now.lookup (t := 185) (e := 190) intK Try.underlying3 Try.underlying185 (zeroBlk w) (i := n) (i64wf (by omega) (by omega))
  have hn32 := h.now.len n
  clear h
  go_enter Try.func51, Try.ntmps51
  go_wp2_with fail
  refine (check_in H.out h0 h1).mono ?_
  rintro e w' ⟨rfl, rfl⟩
  have hlen := hn32
  obtain ⟨i0, hi, hz0, hz1, hz2⟩ := info_parts infoU8
  go_wp2_with (first | (refine wpList_store_new (op := ⟨none, Op.store 190 (.tmp 7) (.tmp 19), _, _, _, _⟩) rfl _ _ rfl (Lib.byteCells (G.now n)) rfl rfl (blkInfo _ hn32) (by rw [Lib.byteCells_length, hn32]; rfl) (byteCells_one _) ?_) | (at_builtin; refine wpList_append_own _ rfl _ _ 22 rfl w.heap.size 5 i0 (.int .u8 0) 1 1 Try.underlying22 hi hz0 hz1 hz2 rfl (by decide) _ _ _ rfl (World.ownsRow_nil _ _ _ _) ⟨w.heap.size, 0, none⟩ 32 32 (Lib.byteCells (G.now n)) rfl (by rw [Lib.byteCells_length, hn32]) ?c1 ?c2 ?c3 ?c4 ?c5 ?_))
  case c1 => intro j u hj; exact cells_new _ _ _ j u (by simpa using hj)
  case c2 => exact byteCells_one _
  case c3 => unfold maxLen; omega
  case c4 => omega
  case c5 => simp
  intro v' w1 hown hgrow _
  have hb1 : Below w.heap.size w w1 := ((Below.refl _ w).alloc (Nat.le_refl _) _).grown hgrow (by simp) (fun k hk => by cases hk)
  clear hgrow
  go_wp2_with fail
  go_ret2
  exact ⟨v', rfl, by simpa using hown, hb1⟩

theorem Read_out {R : Nat → Prop} {w : World} {d : Nat} {G : DiskG} {n : Int} (h : IsDisk R w d G) (h0 : n < 0 ∨ G.size ≤ n) :
    Calls Try.prog 51 #[.pointer (some ⟨d, 0, none⟩), .int .i64 n] w fun e w' => e = .returned (.tuple #[.slice none 0 0, .int .i64 21]) ∧ w = w' := by
  have H := Lib.hid h
  clear h
  go_enter Try.func51, Try.ntmps51
  go_wp2_with fail
  refine (check_out H.out h0).mono ?_
  rintro e w' ⟨rfl, rfl⟩
  go_wp2_with fail
  go_ret2
  exact ⟨rfl, rfl⟩

/-- 32 bytes, one by one -/
theorem list32 {α : Type} (l : List α) (h : l.length = 32) : ∃ a0 a1 a2 a3 a4 a5 a6 a7 a8 a9 a10 a11 a12 a13 a14 a15 a16 a17 a18 a19 a20 a21 a22 a23 a24 a25 a26 a27 a28 a29 a30 a31, l = [a0, a1, a2, a3, a4, a5, a6, a7, a8, a9, a10, a11, a12, a13, a14, a15, a16, a17, a18, a19, a20, a21, a22, a23, a24, a25, a26, a27, a28, a29, a30, a31] := by
  match l, h with
  | [a0, a1, a2, a3, a4, a5, a6, a7, a8, a9, a10, a11, a12, a13, a14, a15, a16, a17, a18, a19, a20, a21, a22, a23, a24, a25, a26, a27, a28, a29, a30, a31], _ => exact ⟨_, _, _, _, _, _, _, _, _, _, _, _, _, _, _, _, _, _, _, _, _, _, _, _, _, _, _, _, _, _, _, _, rfl⟩

theorem build_write (n : Int) (l : List UInt8) (hl : l.length = 32) (w : World) : (Instr.build 192 #[(0, .int .i64 n), (1, .agg (Lib.byteCells l).toArray)]).run Try.prog w = .ok (.agg (callCells (n, l)).toArray) w := by
  obtain ⟨a0, a1, a2, a3, a4, a5, a6, a7, a8, a9, a10, a11, a12, a13, a14, a15, a16, a17, a18, a19, a20, a21, a22, a23, a24, a25, a26, a27, a28, a29, a30, a31, rfl⟩ := list32 l hl
  kernel_rfl
theorem build_sync (w : World) : (Instr.build 192 #[(0, .int .i64 (-1))]).run Try.prog w = .ok (.agg (callCells (-1, zero32)).toArray) w := by kernel_rfl
theorem build_calls (n : Int) (l : List UInt8) (hl : l.length = 32) (w : World) : (Instr.buildSlice 186 1 #[(0, .agg (callCells (n, l)).toArray)]).run Try.prog w = .ok (.slice (some ⟨w.heap.size, 0, none⟩) 1 1) (w.alloc (.cells (callCells (n, l)).toArray 192)) := by
  obtain ⟨a0, a1, a2, a3, a4, a5, a6, a7, a8, a9, a10, a11, a12, a13, a14, a15, a16, a17, a18, a19, a20, a21, a22, a23, a24, a25, a26, a27, a28, a29, a30, a31, rfl⟩ := list32 l hl
  kernel_rfl
end Go.Proofs.Ytenihlicjahjhaa

/-
  Jou: a journal in memory, and the contracts of its small methods.
-/
import Derived.Test.YtenihlicjahjhaaScan
import Derived.Test.YtenihlicjahjhaaDiskD
set_option linter.unusedVariables false
set_option linter.unusedSimpArgs false
namespace Go.Proofs.Ytenihlicjahjhaa
open Go Go.RowKit Go.Proofs

structure JouG where
  first : Nat
  bytes : List UInt8
  used : Nat
  recs : List (List UInt8)

/-- how a journal must be -/
structure JouG.ok (J : JouG) : Prop where
  whole : J.bytes.length % 32 = 0
  pos : 32 ≤ J.bytes.length
  big : J.bytes.length ≤ 2097152
  used : J.used ≤ J.bytes.length
  few : J.recs.length ≤ J.used
  small : J.first ≤ 65536

structure JouAt (R : Nat → Prop) (w : World) (j d bb c : Nat) (rv : Value) (J : JouG) : Prop where
  obj : w.heap[j]? = some (.cells #[.pointer (some ⟨d, 0, none⟩), .int .i64 J.first, .slice (some ⟨bb, 0, none⟩) J.bytes.length c, .int .i64 J.used, rv] 163)
  row : w.ownsRow 0 5 1 (.slice (some ⟨bb, 0, none⟩) J.bytes.length c) J.bytes.length (Lib.byteCells J.bytes)
  recs : Recs (fun k => R k ∧ k ≠ bb) w rv J.recs
  rj : R j
  rb : R bb
  ok : J.ok

/-- a journal in memory, on the disk d; its blocks lie in R -/
def IsJou (R : Nat → Prop) (w : World) (j d : Nat) (J : JouG) : Prop := ∃ bb c rv, JouAt R w j d bb c rv J

theorem JouAt.agree {R : Nat → Prop} {w w' : World} {j d bb c : Nat} {rv : Value} {J : JouG} (h : JouAt R w j d bb c rv J) (ha : Agree R w w') : JouAt R w' j d bb c rv J :=
  ⟨ha.2 j h.rj _ h.obj, ha.row (fun g hg => by cases hg; exact h.rb) h.row, h.recs.agree (ha.mono fun k hk => hk.1), h.rj, h.rb, h.ok⟩
theorem JouAt.bts {R : Nat → Prop} {w : World} {j d bb c : Nat} {rv : Value} {J : JouG} (h : JouAt R w j d bb c rv J) : Bts (fun k => k = bb) w (.slice (some ⟨bb, 0, none⟩) J.bytes.length c) J.bytes := Bts.of_row h.row _ (fun g hg => by cases hg; rfl)
theorem JouAt.cap {R : Nat → Prop} {w : World} {j d bb c : Nat} {rv : Value} {J : JouG} (h : JouAt R w j d bb c rv J) : J.bytes.length ≤ c ∧ c ≤ maxLen := by
  rcases h.row.2 with ⟨e, _⟩ | ⟨_, _, _, e, _, _, h1, h2, _⟩
  · cases e
  · cases e; exact ⟨h1, h2⟩

theorem IsJou.agree {R : Nat → Prop} {w w' : World} {j d : Nat} {J : JouG} (h : IsJou R w j d J) (ha : Agree R w w') : IsJou R w' j d J := by
  obtain ⟨bb, c, rv, h⟩ := h
  exact ⟨bb, c, rv, ha.2 j h.rj _ h.obj, ha.row (fun g hg => by cases hg; exact h.rb) h.row, h.recs.agree (ha.mono fun k hk => hk.1), h.rj, h.rb, h.ok⟩
theorem IsJou.bel {R : Nat → Prop} {w w' : World} {j d : Nat} {J : JouG} (h : IsJou R w j d J) (hb : Below w.heap.size w w') : IsJou R w' j d J := h.agree (Agree.below hb)
theorem IsJou.mono {R R' : Nat → Prop} {w : World} {j d : Nat} {J : JouG} (h : IsJou R w j d J) (hR : ∀ k, k < w.heap.size → R k → R' k) : IsJou R' w j d J := by
  obtain ⟨bb, c, rv, h⟩ := h
  exact ⟨bb, c, rv, h.obj, h.row, h.recs.mono (fun k hk hr => ⟨hR k hk hr.1, hr.2⟩), hR j (lt_of_heap h.obj) h.rj, hR bb (h.row.lt bb rfl).2 h.rb, h.ok⟩

theorem Room_calls {R : Nat → Prop} {w : World} {j d : Nat} {J : JouG} (h : IsJou R w j d J) :
    Calls Try.prog 27 #[.pointer (some ⟨j, 0, none⟩)] w fun e w' => e = .returned (.int .i64 (J.bytes.length - J.used : Nat)) ∧ Below w.heap.size w w' := by
  obtain ⟨bb, c, rv, h⟩ := h
  have c2 : w.cell? ⟨j, 2, none⟩ = some (.slice (some ⟨bb, 0, none⟩) J.bytes.length c) := cell_row h.obj 2
  have c3 : w.cell? ⟨j, 3, none⟩ = some (.int .i64 J.used) := cell_row h.obj 3
  have hb := h.ok.big
  have hu := h.ok.used
  clear h
  have hw : IntKind.i64.wrap ((J.bytes.length : Int) - J.used) = (J.bytes.length - J.used : Nat) := by rw [IntKind.wrap_i64] <;> omega
  go_enter Try.func27, Try.ntmps27
  go_wp2_with fail
  refine lOpen [(3, (fun W => W.heap = (w).heap)), (8, (fun W => W.heap = (w).heap))] [] [3, 8] (by kernel_rfl) ?_
  refine lP (i := 0) (v := ?_) rfl (by kernel_rfl) (fun _ _ _ h => h) rfl ?_ ?_
  rotate_left
  · intro W; go_simp; try with_reducible rfl
  try simp only [put_lit, put_none, List.set_cons_succ, List.set_cons_zero]
  refine lP (i := 1) (v := ?_) rfl (by kernel_rfl) (fun _ _ _ h => h) rfl ?_ ?_
  rotate_left
  · intro W; go_simp; try with_reducible rfl
  try simp only [put_lit, put_none, List.set_cons_succ, List.set_cons_zero]
  refine lP (i := 2) (v := ?_) rfl (by kernel_rfl) (fun _ _ _ h => h) rfl ?_ ?_
  rotate_left
  · intro W; go_simp; try with_reducible rfl
  try simp only [put_lit, put_none, List.set_cons_succ, List.set_cons_zero]
  refine lP (i := 5) (v := ?_) rfl (by kernel_rfl) (fun _ _ _ h => h) rfl ?_ ?_
  rotate_left
  · intro W; go_simp; try with_reducible rfl
  try simp only [put_lit, put_none, List.set_cons_succ, List.set_cons_zero]
  refine lP (i := 6) (v := ?_) rfl (by kernel_rfl) (fun _ _ _ h => h) rfl ?_ ?_
  rotate_left
  · intro W; go_simp; try with_reducible rfl
  try simp only [put_lit, put_none, List.set_cons_succ, List.set_cons_zero]
  refine lP (i := 7) (v := ?_) rfl (by kernel_rfl) (fun _ _ _ h => h) rfl ?_ ?_
  rotate_left
  · intro W; go_simp; try with_reducible rfl
  try simp only [put_lit, put_none, List.set_cons_succ, List.set_cons_zero]
  refine lR (i := 3) (v := ?_) rfl (by kernel_rfl) (fun _ _ _ h => h) rfl ?_ ?_
  rotate_left
  · intro W hS; have hc := cell_of_same (show W.heap = (w).heap from hS); clear hS; go_simp; try with_reducible rfl
  try simp only [put_lit, put_none, List.set_cons_succ, List.set_cons_zero]
  refine lP (i := 4) (v := ?_) rfl (by kernel_rfl) (fun _ _ _ h => h) rfl ?_ ?_
  rotate_left
  · intro W; go_simp; try with_reducible rfl
  try simp only [put_lit, put_none, List.set_cons_succ, List.set_cons_zero]
  refine lR (i := 8) (v := ?_) rfl (by kernel_rfl) (fun _ _ _ h => h) rfl ?_ ?_
  rotate_left
  · intro W hS; have hc := cell_of_same (show W.heap = (w).heap from hS); clear hS; go_simp; try with_reducible rfl
  try simp only [put_lit, put_none, List.set_cons_succ, List.set_cons_zero]
  refine lP (i := 9) (v := ?_) rfl (by kernel_rfl) (fun _ _ _ h => h) rfl ?_ ?_
  rotate_left
  · intro W; go_simp; try with_reducible rfl
  try simp only [put_lit, put_none, List.set_cons_succ, List.set_cons_zero]
  refine lP (i := 10) (v := ?_) rfl (by kernel_rfl) (fun _ _ _ h => h) rfl ?_ ?_
  rotate_left
  · intro W; go_simp; try with_reducible rfl
  try simp only [put_lit, put_none, List.set_cons_succ, List.set_cons_zero]
  refine lDone (by kernel_rfl) (by exact ⟨rfl, rfl, trivial⟩) ?_ _
  go_wp2_with fail
  go_ret
  exact ⟨rfl, (Below.refl _ w).drew⟩

theorem Room_nil (w : World) : Calls Try.prog 27 #[.pointer none] w fun e w' => e = .returned (.int .i64 0) ∧ w = w' := by
  go_enter Try.func27, Try.ntmps27
  go_wp2_with fail
  go_ret
  exact ⟨rfl, rfl⟩
theorem Records_nil (w : World) : Calls Try.prog 26 #[.pointer none] w fun e w' => e = .returned (.slice none 0 0) ∧ w = w' := by
  go_enter Try.func26, Try.ntmps26
  go_wp2_with fail
  go_ret
  exact ⟨rfl, rfl⟩
theorem JSync_nil (w : World) : Calls Try.prog 25 #[.pointer none] w fun e w' => e = .returned (.int .i64 1) ∧ w = w' := by
  go_enter Try.func25, Try.ntmps25
  go_wp2_with fail
  go_ret
  exact ⟨rfl, rfl⟩
theorem Clear_nil (w : World) : Calls Try.prog 28 #[.pointer none] w fun e w' => e = .returned (.int .i64 1) ∧ w = w' := by
  go_enter Try.func28, Try.ntmps28
  go_wp2_with fail
  go_ret
  exact ⟨rfl, rfl⟩
theorem Append_nil (v : Value) (w : World) : Calls Try.prog 24 #[.pointer none, v] w fun e w' => e = .returned (.int .i64 1) ∧ w = w' := by
  go_enter Try.func24, Try.ntmps24
  go_wp2_with fail
  go_ret
  exact ⟨rfl, rfl⟩
theorem Open_nil (a b : Int) (w : World) : Calls Try.prog 22 #[.pointer none, .int .i64 a, .int .i64 b] w fun e w' => e = .returned (.tuple #[.pointer none, .int .i64 1]) ∧ w = w' := by
  go_enter Try.func22, Try.ntmps22
  go_wp2_with fail
  go_ret2
  exact ⟨rfl, rfl⟩

theorem JSync_calls {Rd R : Nat → Prop} {w : World} {j d : Nat} {J : JouG} {G : DiskG} (h : IsJou R w j d J) (hd : IsDisk Rd w d G) (hw : Within Rd w) (hc : G.calls.length < 1000000000000) :
    Calls Try.prog 25 #[.pointer (some ⟨j, 0, none⟩)] w fun e w' => e = .returned (.int .i64 0) ∧ ∃ R', IsDisk R' w' d G.sync ∧ Reg Rd w R' w' ∧ Within R' w' := by
  obtain ⟨bb, c, rv, h⟩ := h
  have c0 : w.cell? ⟨j, 0, none⟩ = some (.pointer (some ⟨d, 0, none⟩)) := cell_row h.obj 0
  have Hd := Lib.hid hd
  have Hw := Lib.hid hw
  clear h hd hw
  go_enter Try.func25, Try.ntmps25
  go_wp2_with fail
  refine (Sync_calls Hd.out Hw.out hc).mono ?_
  rintro e w' ⟨rfl, hq⟩
  have Hq := Lib.hid hq
  clear hq
  go_wp2_with fail
  go_ret
  exact ⟨rfl, Hq.out⟩

/-- the i-th block -/
def blk (l : List UInt8) (i : Nat) : List UInt8 := (l.take (i * 32 + 32)).drop (i * 32)

theorem cut_blk (bb i : Nat) : cutV (some ⟨bb, 0, none⟩) (i * 32) (i * 32 + 32) (i * 32 + 32) = .slice (some ⟨bb, i * 32, none⟩) 32 32 := by
  unfold cutV
  rw [if_neg (by omega)]
  simp only [Option.map_some, Addr.add_mid, Nat.zero_add]
  rw [show i * 32 + 32 - i * 32 = 32 by omega]

theorem JouAt.blk {R : Nat → Prop} {w : World} {j d bb c i : Nat} {rv : Value} {J : JouG} (h : JouAt R w j d bb c rv J) (hi : i * 32 + 32 ≤ J.bytes.length) : Bts (fun k => k = bb) w (.slice (some ⟨bb, i * 32, none⟩) 32 32) (blk J.bytes i) := by
  have hb : Bts (fun k => k = bb) w (.slice (some ⟨bb, 0, none⟩) J.bytes.length c) J.bytes := Bts.of_row h.row _ (fun g hg => by cases hg; rfl)
  have hc : J.bytes.length ≤ c := by
    rcases h.row.2 with ⟨e, _⟩ | ⟨_, _, _, e, _, _, h1, _⟩
    · cases e
    · cases e; exact h1
  rw [← cut_blk]
  exact hb.cut (i := i * 32) (j := i * 32 + 32) (m := i * 32 + 32) (by omega) (by omega) (by omega) (by omega)
theorem blk_length {l : List UInt8} {i : Nat} (hi : i * 32 + 32 ≤ l.length) : (blk l i).length = 32 := by
  unfold blk
  rw [List.length_drop, List.length_take]; omega

set_option maxRecDepth 100000 in
theorem block_calls {R : Nat → Prop} {w : World} {j d bb c i : Nat} {rv : Value} {J : JouG} (h : JouAt R w j d bb c rv J) (hi : i * 32 + 32 ≤ J.bytes.length) :
    Calls Try.prog 99 #[.pointer (some ⟨j, 0, none⟩), .int .i64 i] w fun e w' => e = .returned (.slice (some ⟨bb, i * 32, none⟩) 32 32) ∧ w = w' := by
  have c2 : w.cell? ⟨j, 2, none⟩ = some (.slice (some ⟨bb, 0, none⟩) J.bytes.length c) := cell_row h.obj 2
  have hb := h.ok.big
  have hc : J.bytes.length ≤ c := by
    rcases h.row.2 with ⟨e, _⟩ | ⟨_, _, _, e, _, _, h1, _⟩
    · cases e
    · cases e; exact h1
  clear h
  go_enter Try.func99, Try.ntmps99
  go_wp2_with (refine wpList_cut_full (op := ⟨some 17, Op.slice 22 (.tmp 11) (some (.tmp 12)) (some (.tmp 14)) (some (.tmp 16)), _, _, _, _⟩) rfl _ _ _ _ rfl (some ⟨bb, 0, none⟩) J.bytes.length c (i * 32) (i * 32 + 32) (i * 32 + 32) rfl (by rw [Int.natCast_mul]; rfl) (by rw [Int.natCast_add, Int.natCast_mul]; rfl) (by rw [Int.natCast_add, Int.natCast_mul]; rfl) (by omega) (by omega) (by omega) ?_)
  go_ret
  exact ⟨by rw [← cut_blk]; rfl, rfl⟩

theorem madeU8 (w : World) (n : Nat) (hn : n ≤ 16777216) : ∃ w', (Instr.makeSlice 22 (.int .i64 n) (.int .i64 n)).run Try.prog w = .ok (.slice (some ⟨w.heap.size, 0, none⟩) n n) w' ∧
    w'.ownsRow w.heap.size 5 1 (.slice (some ⟨w.heap.size, 0, none⟩) n n) n (Lib.byteCells (List.replicate n 0)) ∧ Below w.heap.size w w' := by
  obtain ⟨i0, hi, hz0, hz1, hz2⟩ := info_parts infoU8
  have hrun := run_make w 22 5 i0 (.int .u8 0) Try.underlying22 hi hz0 .i64 .i64 n n (by omega) (by omega) (by rw [hz2]; omega) (by omega)
  rw [Int.toNat_natCast, hz1, Nat.mul_one] at hrun
  have e : madeCells (Value.int .u8 0).cells n = (Lib.byteCells (List.replicate n 0)).toArray := by
    have := toList_madeCells_one (.int .u8 0) n
    have e2 : (Value.int .u8 0).cells = #[.int .u8 0] := rfl
    rw [e2]
    apply Array.ext'
    rw [this]
    simp [Lib.byteCells]
  rw [e] at hrun
  exact ⟨_, hrun, row_new w _ _ n (by simp [Lib.byteCells]) (by unfold maxLen; omega), (Below.refl _ w).alloc (Nat.le_refl _) _⟩

theorem splice_take {α : Type} (A S r : List α) (off n : Nat) (hA : A.length = n) (h : off + S.length ≤ n) : ((A ++ r).take off ++ S ++ (A ++ r).drop (off + S.length)).take n = A.take off ++ S ++ A.drop (off + S.length) := by
  have e1 : (A ++ r).take off = A.take off := List.take_append_of_le_length (by omega)
  have e2 : (A ++ r).drop (off + S.length) = A.drop (off + S.length) ++ r := List.drop_append_of_le_length (by omega)
  rw [e1, e2, ← List.append_assoc]
  exact List.take_left' (by simp only [List.length_append, List.length_take, List.length_drop]; omega)

/-- copy into a row that is owned -/
theorem exec_copy_own {w : World} {op : Oper} {ev : Operand → Value} {x y : Operand} (ho : op.op = .call { callee := .builtin .copy, args := #[x, y], argTypes := #[22, 22] }) {dp sp : Option Addr} {dLen dCap sLen sCap : Nat}
    (hx : ev x = .slice dp dLen dCap) (hy : ev y = .slice sp sLen sCap) {bb n c off : Nat} {B S : List UInt8} (hown : w.ownsRow 0 5 1 (.slice (some ⟨bb, 0, none⟩) n c) n (Lib.byteCells B)) (hn : S.length = Nat.min sLen dLen)
    (hpos : 0 < S.length → dp = some ⟨bb, off, none⟩ ∧ ∃ ad, sp = some ad ∧ ∀ j v, (Lib.byteCells S)[j]? = some v → w.cell? (ad.add j) = some v) (hfit : off + S.length ≤ n) :
    ∃ w', (execOp ev op).run Try.prog w = .ok (.value (.int .i64 S.length)) w' ∧ w'.ownsRow 0 5 1 (.slice (some ⟨bb, 0, none⟩) n c) n (Lib.byteCells (B.take off ++ S ++ B.drop (off + S.length))) ∧ w.grownBy w' (some bb) := by
  have hB : B.length = n := by have := hown.1; rw [Lib.byteCells_length] at this; omega
  have hsz : (Try.prog.info? 5).map (·.size) = some 1 := by kernel_rfl
  by_cases h0 : S.length = 0
  · obtain rfl : S = [] := List.eq_nil_of_length_eq_zero h0
    have hrun := run_copy_none (P := Try.prog) w 22 22 op.type 5 dp sp dLen dCap sLen sCap Try.underlying22 hsz (by simpa using hn.symm)
    refine ⟨w, ?_, by simpa using hown, ⟨rfl, rfl, rfl, Nat.le_refl _, fun _ _ _ => rfl⟩⟩
    unfold execOp
    simp [ho, hx, hy, resolve, invoke, builtin, hrun, Result.andThen, goInt]
  · obtain ⟨rfl, ad, rfl, hsrc⟩ := hpos (by omega)
    obtain ⟨h1, h2⟩ := hown
    rcases h2 with ⟨e, _⟩ | ⟨g, cap, cur, e, hb0, hg, hcap, hmax, hcs, htake⟩
    · cases e
    cases e
    rw [Nat.mul_one] at hcs htake
    have hrun := run_copy_row (P := Try.prog) w 22 22 op.type 5 bb off dLen dCap ad sLen sCap cur 5 (Lib.byteCells S) Try.underlying22 hsz hg (by rw [Lib.byteCells_length, hn]) hsrc (by rw [Lib.byteCells_length]; omega) (byteCells_one _)
    refine ⟨w.setRow bb (cur.toList.take off ++ Lib.byteCells S ++ cur.toList.drop (off + (Lib.byteCells S).length)).toArray, ?_, ⟨?_, .inr ⟨bb, c, _, rfl, hb0, setRow_heap _ _ _ _ _ _ hg, hcap, hmax, ?_, ?_⟩⟩, ⟨rfl, rfl, rfl, by simp [World.setRow], fun k hk hne => ?_⟩⟩
    · unfold execOp
      simp [ho, hx, hy, resolve, invoke, builtin, hrun, Result.andThen, goInt, Lib.byteCells_length]
    · rw [Lib.byteCells_length]; simp; omega
    · simp [Lib.byteCells_length]; omega
    · rw [Nat.mul_one]
      have e2 : cur.toList = Lib.byteCells B ++ cur.toList.drop n := by rw [← htake, List.take_append_drop]
      have hBl : (Lib.byteCells B).length = n := by rw [Lib.byteCells_length, hB]
      have t1 : Lib.byteCells (B.take off) = (Lib.byteCells B).take off := by simp [Lib.byteCells, List.map_take]
      have t2 : Lib.byteCells (B.drop (off + S.length)) = (Lib.byteCells B).drop (off + S.length) := by simp [Lib.byteCells, List.map_drop]
      rw [byteCells_append, byteCells_append, t1, t2]
      have := splice_take (Lib.byteCells B) (Lib.byteCells S) (cur.toList.drop n) off n hBl (by rw [Lib.byteCells_length]; exact hfit)
      rw [← e2, Lib.byteCells_length] at this
      simpa [Lib.byteCells_length] using this
    · simp only [World.setRow, Array.getElem?_modify]
      rw [if_neg (fun e => hne (by rw [e]))]

theorem wpList_copy_at {w : World} {ops : Array Oper} {rest : List Oper} {op : Oper} {act : Act} {Q : Exit → Act → World → Prop} (hgd : op.guard = none) (x y : Operand) (ho : op.op = .call { callee := .builtin .copy, args := #[x, y], argTypes := #[22, 22] })
    (dp sp : Option Addr) (dLen dCap sLen sCap : Nat) (hx : act.eval x = .slice dp dLen dCap) (hy : act.eval y = .slice sp sLen sCap) (bb n c off : Nat) (B S : List UInt8) (hown : w.ownsRow 0 5 1 (.slice (some ⟨bb, 0, none⟩) n c) n (Lib.byteCells B)) (hn : S.length = Nat.min sLen dLen)
    (hpos : 0 < S.length → dp = some ⟨bb, off, none⟩ ∧ ∃ ad, sp = some ad ∧ ∀ j v, (Lib.byteCells S)[j]? = some v → w.cell? (ad.add j) = some v) (hfit : off + S.length ≤ n)
    (h : ∀ w', w'.ownsRow 0 5 1 (.slice (some ⟨bb, 0, none⟩) n c) n (Lib.byteCells (B.take off ++ S ++ B.drop (off + S.length))) → w.grownBy w' (some bb) → wpList Try.prog ops Q rest (act.put op.dst (.int .i64 S.length)) w') :
    wpList Try.prog ops Q (op :: rest) act w := by
  obtain ⟨w', hrun, h1, h2⟩ := exec_copy_own ho hx hy hown hn hpos hfit
  exact wpList_plain hgd fun K hK => wp_exec hrun (hK _ _ (h w' h1 h2))
end Go.Proofs.Ytenihlicjahjhaa

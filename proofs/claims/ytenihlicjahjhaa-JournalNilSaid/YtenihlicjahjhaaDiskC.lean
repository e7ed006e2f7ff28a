/-
  DiskC: a disk in memory: what its methods write.
-/
import Derived.Test.YtenihlicjahjhaaDiskB
set_option linter.unusedVariables false
set_option linter.unusedSimpArgs false
namespace Go.Proofs.Ytenihlicjahjhaa
open Go Go.RowKit Go.Proofs
open Go.Maps (Keyed)

def DiskG.write (G : DiskG) (n : Nat) (l : List UInt8) : DiskG := { G with now := fun j => if j = n then l else G.now j, calls := G.calls ++ [((n : Int), l)] }
def DiskG.sync (G : DiskG) : DiskG := { G with calls := G.calls ++ [(-1, zero32)] }

theorem exec_load_mid {P : Program} {W : World} {op : Oper} {ev : Operand → Value} {ty : TypeId} {x : Operand} {b o : Nat} {cs : List Value} {d : TypeDesc} (ho : op.op = .load ty x) (hx : ev x = .pointer (some ⟨b, o, none⟩)) (hc : W.rangeAt b o cs)
    (hu : P.underlying ty = some d) (hd : d.isRow = true) (hi : (P.info? ty).map (·.size) = some cs.length) : (execOp ev op).run P W = .ok (.value (.agg cs.toArray)) W := by
  unfold execOp
  simp only [ho, hx, Instr.loadAt, Instr.sureAddr, Sem.run_bind, Sem.run_pure, Result.andThen_ok, run_loadVar_mid W b o ty cs d hc hu hd hi]

theorem exec_build2 {P : Program} {W : World} {op : Oper} {ev : Operand → Value} {ty : TypeId} {x y : Operand} {u u' v : Value} (ho : op.op = .build ty #[(0, x), (1, y)]) (hx : ev x = u) (hy : ev y = u')
    (hrun : (Instr.build ty #[(0, u), (1, u')]).run P W = .ok v W) : (execOp ev op).run P W = .ok (.value v) W := by
  unfold execOp
  simp only [ho, List.map_toArray, List.map_cons, List.map_nil, hx, hy, Sem.run_bind, Sem.run_pure, Result.andThen_ok, hrun]
theorem exec_build1 {P : Program} {W : World} {op : Oper} {ev : Operand → Value} {ty : TypeId} {x : Operand} {u v : Value} (ho : op.op = .build ty #[(0, x)]) (hx : ev x = u)
    (hrun : (Instr.build ty #[(0, u)]).run P W = .ok v W) : (execOp ev op).run P W = .ok (.value v) W := by
  unfold execOp
  simp only [ho, List.map_toArray, List.map_cons, List.map_nil, hx, Sem.run_bind, Sem.run_pure, Result.andThen_ok, hrun]

theorem heap_setCell_at {w : World} {b j : Nat} {c : Array Value} {t : Nat} {f : Nat × Nat} (h : w.heap[b]? = some (.cells c t f)) (v : Value) : (w.setCell ⟨b, j, none⟩ v).heap[b]? = some (.cells (c.setIfInBounds j v) t f) := by
  simp [World.setCell, Array.getElem?_modify, h]
theorem grown_map {w w' : World} {row : Option Nat} (hg : w.grownBy w' row) (hrow : ∀ r, row = some r → ∃ c t f, w.heap[r]? = some (.cells c t f)) {b : Nat} {es : Array MapEntry} {c : Nat} (hb : w.heap[b]? = some (.map es c)) : w'.heap[b]? = w.heap[b]? :=
  hg.block b (lt_of_heap hb) (fun e => by obtain ⟨_, _, _, h⟩ := hrow b e.symm; rw [hb] at h; cases h)
theorem grown_cells {w w' : World} {row : Option Nat} {T : Nat} (hg : w.grownBy w' row) (hrow : ∀ r, row = some r → ∃ c f, w.heap[r]? = some (.cells c T f)) {b : Nat} {c : Array Value} {t : Nat} {f : Nat × Nat} (hb : w.heap[b]? = some (.cells c t f)) (ht : ¬ t = T) : w'.heap[b]? = some (.cells c t f) :=
  (hg.block b (lt_of_heap hb) (fun e => by obtain ⟨_, _, h⟩ := hrow b e.symm; rw [hb] at h; cases h; exact ht rfl)).trans hb

theorem exec_build_write {W : World} {op : Oper} {ev : Operand → Value} {x y : Operand} {n : Int} {l : List UInt8} (ho : op.op = .build 192 #[(0, x), (1, y)]) (hx : ev x = .int .i64 n) (hy : ev y = .agg (Lib.byteCells l).toArray) (hl : l.length = 32) :
    (execOp ev op).run Try.prog W = .ok (.value (.agg (callCells (n, l)).toArray)) W := exec_build2 ho hx hy (build_write n l hl W)
theorem exec_build_sync {W : World} {op : Oper} {ev : Operand → Value} {x : Operand} (ho : op.op = .build 192 #[(0, x)]) (hx : ev x = .int .i64 (-1)) :
    (execOp ev op).run Try.prog W = .ok (.value (.agg (callCells (-1, zero32)).toArray)) W := exec_build1 ho hx (build_sync W)

theorem ownsRow_other {w : World} {base : Nat} {e : TypeId} {size : Nat} {v : Value} {n : Nat} {xs : List Value} (h : w.ownsRow base e size v n xs) {a : Addr} (ha : ∀ k, v.ownBlock = some k → a.block ≠ k) (u : Value) : (w.setCell a u).ownsRow base e size v n xs := by
  obtain ⟨h1, h2⟩ := h
  refine ⟨h1, ?_⟩
  rcases h2 with h2 | ⟨g, cap, cur, rfl, hg, hh, r⟩
  · exact Or.inl h2
  · exact Or.inr ⟨g, cap, cur, rfl, hg, by rw [Below.heap_setCell _ _ _ _ (fun e => ha g rfl e.symm)]; exact hh, r⟩

theorem arrayAt_blk (g o c : Nat) (W : World) : (Instr.arrayAt 190 (.slice (some ⟨g, o, none⟩) 32 c)).run Try.prog W = .ok (.pointer (some ⟨g, o, none⟩)) W := by kernel_rfl
theorem infoWrite : ∃ i z, Try.prog.info? 192 = some i ∧ i.zero = some z ∧ z.cells.size = 33 ∧ i.size = 33 ∧ i.bytes = 40 := by
  have h := infoWr
  cases hi : Try.prog.info? 192 with
  | none => rw [hi] at h; cases h
  | some i =>
    rw [hi] at h
    cases hz : i.zero with
    | none => simp [hz] at h
    | some z =>
      simp [hz] at h
      exact ⟨i, z, rfl, hz, h.1, h.2.1, h.2.2⟩

theorem callCells_one (c : Int × List UInt8) : ∀ u ∈ callCells c, u.oneCell' = true := by
  intro u hu
  rcases List.mem_cons.1 hu with rfl | hu
  · rfl
  · exact byteCells_one _ u hu
theorem callCells_length (c : Int × List UInt8) : (callCells c).length = c.2.length + 1 := by simp [callCells, Lib.byteCells]

/-- append onto a row that the call owns, as a step of a region that draws its order; and where it lies then -/
theorem step_append_at {P : Program} {ops : Array Oper} {o : Oper} {a : Act} {w : World} {K : Act → World → Prop} {Q : Exit → Act → World → Prop} {E : Prop}
    (hg : o.guard = none) (s x : Operand) (t : TypeId) (hop : o.op = Op.call { callee := Callee.builtin Builtin.append, args := #[s, x], argTypes := #[t, t] })
    (base : Nat) (e : TypeId) (i : TypeInfo) (z : Value) (size bytes : Nat) (h1 : P.underlying t = some (.slice e)) (h2 : P.info? e = some i) (h3 : i.zero = some z) (h4 : i.size = size) (h5 : i.bytes = bytes) (h6 : z.cells.size = size) (h7 : 0 < size)
    (v : Value) (k : Nat) (xs : List Value) (hs : a.eval s = v) (hown : w.ownsRow base e size v k xs) (ad : Addr) (m c : Nat) (news : List Value) (hx : a.eval x = .slice (some ad) m c) (hn : news.length = m * size)
    (hc : ∀ j u, news[j]? = some u → w.cell? (ad.add j) = some u) (h1c : ∀ u ∈ news, u.oneCell' = true) (b1 : k + m ≤ maxLen) (b2 : (k + m) * bytes ≤ 140737488355328) (b3 : base ≤ w.heap.size) (hpos : 0 < k + m)
    (hK : ∀ g' c' w', w'.ownsRow base e size (.slice (some ⟨g', 0, none⟩) (k + m) c') (k + m) (xs ++ news) → w.grownBy w' v.ownBlock → (v.ownBlock = some g' ∨ g' = w.heap.size) → K (a.put o.dst (.slice (some ⟨g', 0, none⟩) (k + m) c')) w') :
    if Region.wanted o (yielded ops a.tmps) = true then Oper.wp P o a w K Q else E := by
  have hw : Region.wanted o (yielded ops a.tmps) = true := by simp [Region.wanted, hg]
  rw [if_pos hw]
  obtain ⟨v', w', hrun, r1, r2, _, r4⟩ := run_append_own_at (P := P) w base t o.type e i z size bytes h1 h2 h3 h4 h5 h6 h7 v k xs hown ad m c news hn hc h1c b1 b2 b3
  obtain ⟨g', c', rfl⟩ := ownsRow_form r1 hpos
  unfold Oper.wp
  simp [execOp, hop, resolve, invoke, builtin, hs, hx, hrun, Result.andThen]
  refine hK _ _ _ r1 r2 (r4.imp (fun h => h.symm) (fun h => ?_))
  simpa [Value.ownBlock] using h

theorem step_buildSlice {P : Program} {ops : Array Oper} {o : Oper} {a : Act} {w w' : World} {K : Act → World → Prop} {Q : Exit → Act → World → Prop} {E : Prop}
    (hg : o.guard = none) (x : Operand) (t : TypeId) (hop : o.op = Op.buildSlice t 1 #[(0, x)]) (u v : Value) (hx : a.eval x = u) (hrun : (Instr.buildSlice t 1 #[(0, u)]).run P w = .ok v w') (hK : K (a.put o.dst v) w') :
    if Region.wanted o (yielded ops a.tmps) = true then Oper.wp P o a w K Q else E := by
  have hw : Region.wanted o (yielded ops a.tmps) = true := by simp [Region.wanted, hg]
  rw [if_pos hw]
  unfold Oper.wp
  simp only [execOp, hop, List.map_toArray, List.map_cons, List.map_nil, hx, Sem.run_bind, Sem.run_pure, Result.andThen_ok, hrun]
  exact hK

set_option maxRecDepth 100000 in
set_option maxHeartbeats 1000000 in
theorem Write_calls {R Q : Nat → Prop} {w : World} {d : Nat} {G : DiskG} {n : Nat} {v : Value} {l : List UInt8} (h : IsDisk R w d G) (hw : Within R w) (hn : n < G.size) (hv : Bts Q w v l) (hl : l.length = 32) (hq : Out Q R) (hc : G.calls.length < 1000000000000) :
    Calls Try.prog 46 #[.pointer (some ⟨d, 0, none⟩), .int .i64 n, v] w fun e w' => e = .returned (.int .i64 0) ∧ ∃ R', IsDisk R' w' d (G.write n l) ∧ Reg R w R' w' ∧ Within R' w' := by
  have H := Lib.hid h
  obtain ⟨m1, m2, cv, h⟩ := h
  obtain ⟨a, c, rfl, hc1, hc2, hrow⟩ := hv
  obtain ⟨g, o, rfl, hg, hr⟩ := hrow (by intro e; rw [e] at hl; simp at hl)
  rw [hl]
  have hbig := h.big
  have c2 : w.cell? ⟨d, 2, none⟩ = some (.map (some m2)) := cell_row h.obj 2
  obtain ⟨w1, hrun, hm1, hgr1⟩ := MapIs.update (w := w.drew) (t := 185) (e := 190) (h.now.same rfl) intK Try.underlying3 Try.underlying185 h.big hn hl
  have hrun' : (Instr.mapUpdate 185 (.map (some m2)) (.int .i64 n) (.agg (Lib.byteCells l).toArray)).run Try.prog w.drew = .ok () w1 := hrun
  clear hrun
  have hd2 : ¬ (d = m2) := by
    intro e; obtain ⟨es, cc, hb⟩ := h.now.obj; rw [← e, h.obj] at hb; cases hb
  have hg2 : ¬ (g = m2) := fun e => hq g hg (e ▸ h.r2)
  have hupd1 : Upd R w w1 := ((Upd.refl R w).drew).grown hgr1 (fun k hk => by cases hk; exact .inl h.r2)
  have hobj1 : w1.heap[d]? = some (.cells #[.int .i64 G.size, .map (some m1), .map (some m2), cv] 188) := (hgr1.block d (lt_of_heap h.obj) (by intro e; cases e; exact hd2 rfl)).trans h.obj
  have hr1 : w1.rangeAt g o (Lib.byteCells l) := fun j u hj => by
    have := hr j u hj
    exact hgr1.cell (a := ⟨g, o + j, none⟩) (w := w.drew) this (by intro e; cases e; exact hg2 rfl)
  have hown1 : w1.ownsRow 0 192 33 cv G.calls.length (callsCells G.calls) := by
    refine World.ownsRow.kept (w := w.drew) h.calls hgr1 ?_
    by_cases hcv : cv.ownBlock = some m2
    · exfalso
      rcases h.calls.2 with ⟨rfl, _⟩ | ⟨g', cap, cur, rfl, _, hh, _⟩
      · cases hcv
      · cases hcv
        obtain ⟨es, cc, hb⟩ := h.now.obj
        rw [hb] at hh; cases hh
    · exact .inr hcv
  have hf1 : MapIs Try.prog 3 w1 m1 G.size G.first := h.first.same (hgr1.block m1 h.first.lt (by intro e; cases e; exact h.ne rfl))
  have hlenc := h.lens
  have hrv := h.rv
  have hrd := h.rd
  have hr1' := h.r1
  have hr2' := h.r2
  have hne := h.ne
  have hpos := h.pos
  have f3 : w1.cell? ⟨d, 3, none⟩ = some cv := cell_row hobj1 3
  have Hf1 := Lib.hid hf1
  have Hm1 := Lib.hid hm1
  have Hw := Lib.hid hw
  have Hhb := Lib.hid (And.intro hr1' (And.intro hr2' (And.intro hne hpos)))
  clear h hrow hr1' hr2' hne hpos hf1 hm1 hw
  obtain ⟨i0, z0, hi, hz0, hz1, hz2, hz3⟩ := infoWrite
  go_enter Try.func46, Try.ntmps46
  go_wp2_with fail
  refine (check_in H.out (by omega) (by omega)).mono ?_
  rintro e w' ⟨rfl, rfl⟩
  go_wp2_with fail
  refine lOpen [(3, (fun W => W.heap = (w).heap)), (7, (fun W => W.rangeAt g o (Lib.byteCells l)))] [(8, [3, 7])] [3, 7] (by kernel_rfl) ?_
  refine lP (i := 0) (v := ?_) rfl (by kernel_rfl) (fun _ _ _ h => h) rfl ?_ ?_
  rotate_left
  · intro W; go_simp; try with_reducible rfl
  try simp only [put_lit, put_none, List.set_cons_succ, List.set_cons_zero]
  refine lP (i := 1) (v := ?_) rfl (by kernel_rfl) (fun _ _ _ h => h) rfl ?_ ?_
  rotate_left
  · intro W; go_simp; try with_reducible rfl
  try simp only [put_lit, put_none, List.set_cons_succ, List.set_cons_zero]
  refine lP (i := 2) (v := ?_) rfl (by kernel_rfl) (fun _ _ _ h => h) rfl ?_ ?_
  rotate_left
  · intro W; go_simp; try with_reducible rfl
  try simp only [put_lit, put_none, List.set_cons_succ, List.set_cons_zero]
  refine lP (i := 4) (v := ?_) rfl (by kernel_rfl) (fun _ _ _ h => h) rfl ?_ ?_
  rotate_left
  · intro W; go_simp; try with_reducible rfl
  try simp only [put_lit, put_none, List.set_cons_succ, List.set_cons_zero]
  refine lP (i := 5) (v := ?_) rfl (by kernel_rfl) (fun _ _ _ h => h) rfl ?_ ?_
  rotate_left
  · intro W; go_simp; try with_reducible rfl
  try simp only [put_lit, put_none, List.set_cons_succ, List.set_cons_zero]
  refine lP (i := 6) (v := ?_) rfl (by kernel_rfl) (fun _ _ _ h => h) rfl ?_ ?_
  rotate_left
  · intro W; have ha := arrayAt_blk g o c W; go_simp; try with_reducible rfl
  try simp only [put_lit, put_none, List.set_cons_succ, List.set_cons_zero]
  refine lR (i := 3) (v := ?_) rfl (by kernel_rfl) (fun _ _ _ h => h) rfl ?_ ?_
  rotate_left
  · intro W hS; have hc := cell_of_same (show W.heap = (w).heap from hS); clear hS; go_simp; try with_reducible rfl
  try simp only [put_lit, put_none, List.set_cons_succ, List.set_cons_zero]
  refine lR (i := 7) (v := ?_) rfl (by kernel_rfl) (fun _ _ _ h => h) rfl ?_ ?_
  rotate_left
  · intro W hS; have hc : (fun W => W.rangeAt g o (Lib.byteCells l)) W := hS; clear hS; dsimp only at hc; refine exec_load_mid (x := .tmp 23) ?_ ?_ hc Try.underlying190 rfl (blkInfo l hl) <;> rfl
  try simp only [put_lit, put_none, List.set_cons_succ, List.set_cons_zero]
  refine lE (i := 8) (live' := []) rfl (by kernel_rfl) (by kernel_rfl) ⟨rfl, hr, trivial⟩ (fun K hK => ?_)
  go_simp
  skip
  refine hK _ _ ?_
  clear hK K
  try simp only [put_lit, put_none, List.set_cons_succ, List.set_cons_zero]
  refine lDone (by kernel_rfl) (by exact trivial) ?_ _
  go_wp2_with fail
  refine lOpen [(4, (fun W => W.cell? ⟨d, 3, none⟩ = some cv)), (8, (fun W => W.rangeAt g o (Lib.byteCells l)))] [(10, [8]), (11, [4, 8]), (14, [4, 8])] [4, 8] (by kernel_rfl) ?_
  refine lP (i := 0) (v := ?_) rfl (by kernel_rfl) (fun _ _ _ h => h) rfl ?_ ?_
  rotate_left
  · intro W; go_simp; try with_reducible rfl
  try simp only [put_lit, put_none, List.set_cons_succ, List.set_cons_zero]
  refine lP (i := 1) (v := ?_) rfl (by kernel_rfl) (fun _ _ _ h => h) rfl ?_ ?_
  rotate_left
  · intro W; go_simp; try with_reducible rfl
  try simp only [put_lit, put_none, List.set_cons_succ, List.set_cons_zero]
  refine lP (i := 2) (v := ?_) rfl (by kernel_rfl) (fun _ _ _ h => h) rfl ?_ ?_
  rotate_left
  · intro W; go_simp; try with_reducible rfl
  try simp only [put_lit, put_none, List.set_cons_succ, List.set_cons_zero]
  refine lP (i := 3) (v := ?_) rfl (by kernel_rfl) (fun _ _ _ h => h) rfl ?_ ?_
  rotate_left
  · intro W; go_simp; try with_reducible rfl
  try simp only [put_lit, put_none, List.set_cons_succ, List.set_cons_zero]
  refine lP (i := 5) (v := ?_) rfl (by kernel_rfl) (fun _ _ _ h => h) rfl ?_ ?_
  rotate_left
  · intro W; go_simp; try with_reducible rfl
  try simp only [put_lit, put_none, List.set_cons_succ, List.set_cons_zero]
  refine lP (i := 6) (v := ?_) rfl (by kernel_rfl) (fun _ _ _ h => h) rfl ?_ ?_
  rotate_left
  · intro W; go_simp; try with_reducible rfl
  try simp only [put_lit, put_none, List.set_cons_succ, List.set_cons_zero]
  refine lP (i := 7) (v := ?_) rfl (by kernel_rfl) (fun _ _ _ h => h) rfl ?_ ?_
  rotate_left
  · intro W; have ha := arrayAt_blk g o c W; go_simp; try with_reducible rfl
  try simp only [put_lit, put_none, List.set_cons_succ, List.set_cons_zero]
  refine lR (i := 4) (v := ?_) rfl (by kernel_rfl) (fun _ _ _ h => h) rfl ?_ ?_
  rotate_left
  · intro W hS; have hc : (fun W => W.cell? ⟨d, 3, none⟩ = some cv) W := hS; clear hS; dsimp only at hc; go_simp; try with_reducible rfl
  try simp only [put_lit, put_none, List.set_cons_succ, List.set_cons_zero]
  refine lR (i := 8) (v := ?_) rfl (by kernel_rfl) (fun _ _ _ h => h) rfl ?_ ?_
  rotate_left
  · intro W hS; have hc : (fun W => W.rangeAt g o (Lib.byteCells l)) W := hS; clear hS; dsimp only at hc; refine exec_load_mid (x := .tmp 32) ?_ ?_ hc Try.underlying190 rfl (blkInfo l hl) <;> rfl
  try simp only [put_lit, put_none, List.set_cons_succ, List.set_cons_zero]
  refine lP (i := 9) (v := ?_) rfl (by kernel_rfl) (fun _ _ _ h => h) rfl ?_ ?_
  rotate_left
  · intro W; refine exec_build_write (x := .tmp 30) (y := .tmp 33) (n := n) ?_ ?_ ?_ hl <;> rfl
  try simp only [put_lit, put_none, List.set_cons_succ, List.set_cons_zero]
  refine lE (i := 10) (live' := [4]) rfl (by kernel_rfl) (by kernel_rfl) ⟨f3, hr1, trivial⟩ (fun K hK => ?_)
  refine step_buildSlice rfl (.tmp 34) 186 rfl _ _ rfl (build_calls n l hl _) ?_
  refine hK _ _ ?_
  clear hK K
  try simp only [put_lit, put_none, List.set_cons_succ, List.set_cons_zero]
  refine lE (i := 11) (live' := []) rfl (by kernel_rfl) (by kernel_rfl) ⟨(World.cell?_alloc_lt _ _ _ (lt_of_heap hobj1)).trans f3, trivial⟩ (fun K hK => ?_)
  refine step_append_at rfl (.tmp 29) (.tmp 35) 186 rfl 0 192 i0 z0 33 40 Try.underlying186 hi hz0 hz2 hz3 hz1 (by decide) cv G.calls.length (callsCells G.calls) rfl (World.ownsRow.alloc (w := w1.drew) hown1 _) ⟨w1.heap.size, 0, none⟩ 1 1 (callCells (n, l)) rfl (by rw [callCells_length, hl]) (cells_new w1.drew _ _) (callCells_one _) (by unfold maxLen; omega) (by omega) (Nat.zero_le _) (by omega) ?_
  intro g' c' w2 hown2 hgr2 hloc
  have hrow2 : ∀ r, cv.ownBlock = some r → ∃ c f, (w1.drew.alloc (.cells (callCells (n, l)).toArray 192)).heap[r]? = some (.cells c 192 f) := ownsRow_row (World.ownsRow.alloc (w := w1.drew) hown1 _)
  have hobj2 := grown_cells hgr2 hrow2 ((Below.heap_alloc _ _ _ (lt_of_heap hobj1)).trans hobj1) (by decide)
  have e3 : w2.cell? ⟨d, 3, none⟩ = some cv := cell_row hobj2 3
  have e4 : w2.frozen? ⟨d, 3, none⟩ = false := Lib.frozen_of_heap hobj2 3
  refine hK _ _ ?_
  clear hK K
  try simp only [put_lit, put_none, List.set_cons_succ, List.set_cons_zero]
  refine lP (i := 12) (v := ?_) rfl (by kernel_rfl) (fun _ _ _ h => h) rfl ?_ ?_
  rotate_left
  · intro W; go_simp; try with_reducible rfl
  try simp only [put_lit, put_none, List.set_cons_succ, List.set_cons_zero]
  refine lP (i := 13) (v := ?_) rfl (by kernel_rfl) (fun _ _ _ h => h) rfl ?_ ?_
  rotate_left
  · intro W; go_simp; try with_reducible rfl
  try simp only [put_lit, put_none, List.set_cons_succ, List.set_cons_zero]
  refine lE (i := 14) (live' := []) rfl (by kernel_rfl) (by kernel_rfl) trivial (fun K hK => ?_)
  go_simp
  refine hK _ _ ?_
  clear hK K
  try simp only [put_lit, put_none, List.set_cons_succ, List.set_cons_zero]
  refine lDone (by kernel_rfl) (by exact trivial) ?_ _
  have hobjF := heap_setCell_at (j := 3) hobj2 (.slice (some ⟨g', 0, none⟩) (G.calls.length + 1) c')
  have hmap2 : ∀ {b : Nat} {f : Int → List UInt8}, MapIs Try.prog 3 w1 b G.size f → b ≠ d → MapIs Try.prog 3 (w2.setCell ⟨d, 3, none⟩ (.slice (some ⟨g', 0, none⟩) (G.calls.length + 1) c')) b G.size f := by
    intro b f hm hbd
    obtain ⟨es, cc, hb⟩ := hm.obj
    refine hm.same ?_
    rw [Below.heap_setCell _ _ _ _ hbd, grown_map hgr2 (fun r hr => by obtain ⟨c, f, hc⟩ := hrow2 r hr; exact ⟨c, _, f, hc⟩) ((Below.heap_alloc w1.drew _ _ hm.lt).trans hb)]
    exact Below.heap_alloc w1.drew _ _ hm.lt
  have hupd : Upd R w (w2.setCell ⟨d, 3, none⟩ (.slice (some ⟨g', 0, none⟩) (G.calls.length + 1) c')) :=
    ((hupd1.drew.alloc _).grown hgr2 (fun k hk => .inl (hrv k hk))).setCell (.inl hrd) _
  have hownF : (w2.setCell ⟨d, 3, none⟩ (.slice (some ⟨g', 0, none⟩) (G.calls.length + 1) c')).ownsRow 0 192 33 (.slice (some ⟨g', 0, none⟩) (G.calls.length + 1) c') (G.write n l).calls.length (callsCells (G.write n l).calls) := by
    have e : (G.write n l).calls = G.calls ++ [((n : Int), l)] := rfl
    rw [e, callsCells_snoc, List.length_append, List.length_singleton]
    refine ownsRow_other hown2 (fun k hk => ?_) _
    cases hk
    intro e
    subst e
    rcases hown2.2 with ⟨hx, _⟩ | ⟨g9, cap, cur, hx, _, hh, _⟩
    · cases hx
    · cases hx
      rw [hobj2] at hh; cases hh
  have hltd := lt_of_heap hobj1
  go_wp2_with fail
  go_ret
  obtain ⟨q1, q2, q3, q4⟩ := Hhb.out
  have hne1 : m1 ≠ d := by
    rintro rfl
    obtain ⟨es, cc, hb⟩ := Hf1.out.obj
    rw [hobj1] at hb; cases hb
  refine ⟨rfl, Grw R w _, ⟨m1, m2, _, hobjF, hmap2 Hf1.out hne1, hmap2 Hm1.out (fun e => hd2 e.symm), q3, hownF, .inl hrd, .inl q1, .inl q2, ?_, q4, hbig, ?_⟩, hupd.reg, Hw.out.grw hupd.size⟩
  · intro k hk
    cases hk
    rcases hloc with hloc | rfl
    · exact .inl (hrv _ hloc)
    · refine .inr ⟨?_, ?_⟩
      · have := hupd1.size
        simp; omega
      · have := (hown2.lt _ rfl).2
        simpa [World.setCell] using this
  · intro x hx
    rcases List.mem_append.1 hx with hx | hx
    · exact hlenc x hx
    · obtain rfl : x = ((n : Int), l) := by simpa using hx
      exact hl
end Go.Proofs.Ytenihlicjahjhaa

/-
  DiskD: a disk in memory: it is made, and synced.
-/
import Derived.Test.YtenihlicjahjhaaDiskC
import Derived.Test.YtenihlicjahjhaaLaw6
set_option linter.unusedVariables false
set_option linter.unusedSimpArgs false
namespace Go.Proofs.Ytenihlicjahjhaa
open Go Go.RowKit Go.Proofs
open Go.Maps (Keyed)

theorem wpList_exec {P : Program} {ops : Array Oper} {rest : List Oper} {op : Oper} {a : Act} {w w' : World} {Q : Exit → Act → World → Prop} {v : Value} (hgd : op.guard = none) (hrun : (execOp a.eval op).run P w = .ok (.value v) w')
    (h : wpList P ops Q rest (a.put op.dst v) w') : wpList P ops Q (op :: rest) a w :=
  wpList_plain hgd fun K hK => by
    unfold Oper.wp
    rw [hrun]
    exact hK _ _ h

theorem exec_buildSlice1 {P : Program} {W W' : World} {op : Oper} {ev : Operand → Value} {ty : TypeId} {x : Operand} {u v : Value} (ho : op.op = .buildSlice ty 1 #[(0, x)]) (hx : ev x = u)
    (hrun : (Instr.buildSlice ty 1 #[(0, u)]).run P W = .ok v W') : (execOp ev op).run P W = .ok (.value v) W' := by
  unfold execOp
  simp only [ho, List.map_toArray, List.map_cons, List.map_nil, hx, Sem.run_bind, Sem.run_pure, Result.andThen_ok, hrun]

/-- behind the append of a call -/
theorem disk_end {R : Nat → Prop} {w w1 w2 : World} {d m1 m2 : Nat} {cv : Value} {G' : DiskG} {o : Array Value} {g' c' n : Nat} {xs : List Value} (hupd1 : Upd R w w1) (hw : Within R w)
    (hobj1 : w1.heap[d]? = some (.cells #[.int .i64 G'.size, .map (some m1), .map (some m2), cv] 188)) (hf1 : MapIs Try.prog 3 w1 m1 G'.size G'.first) (hm1 : MapIs Try.prog 3 w1 m2 G'.size G'.now)
    (hown1 : w1.ownsRow 0 192 33 cv n xs) (hrd : R d) (q1 : R m1) (q2 : R m2) (q3 : m1 ≠ m2) (q4 : 1 ≤ G'.size) (hbig : G'.size ≤ 65536) (hrv : ∀ g, cv.ownBlock = some g → R g) (hl : ∀ c ∈ G'.calls, c.2.length = 32)
    (hn : G'.calls.length = n + 1) (hown2 : w2.ownsRow 0 192 33 (.slice (some ⟨g', 0, none⟩) (n + 1) c') (n + 1) (callsCells G'.calls))
    (hgr2 : (w1.alloc (.cells o 192)).grownBy w2 cv.ownBlock) (hloc : cv.ownBlock = some g' ∨ g' = (w1.alloc (.cells o 192)).heap.size) :
    ∃ R', IsDisk R' (w2.setCell ⟨d, 3, none⟩ (.slice (some ⟨g', 0, none⟩) (n + 1) c')) d G' ∧ Reg R w R' (w2.setCell ⟨d, 3, none⟩ (.slice (some ⟨g', 0, none⟩) (n + 1) c')) ∧ Within R' (w2.setCell ⟨d, 3, none⟩ (.slice (some ⟨g', 0, none⟩) (n + 1) c')) := by
  have hrow2 : ∀ r, cv.ownBlock = some r → ∃ c f, (w1.alloc (.cells o 192)).heap[r]? = some (.cells c 192 f) := ownsRow_row (hown1.alloc _)
  have hobj2 := grown_cells hgr2 hrow2 ((Below.heap_alloc _ _ _ (lt_of_heap hobj1)).trans hobj1) (by decide)
  have hobjF := heap_setCell_at (j := 3) hobj2 (.slice (some ⟨g', 0, none⟩) (n + 1) c')
  have hmap2 : ∀ {b : Nat} {f : Int → List UInt8}, MapIs Try.prog 3 w1 b G'.size f → MapIs Try.prog 3 (w2.setCell ⟨d, 3, none⟩ (.slice (some ⟨g', 0, none⟩) (n + 1) c')) b G'.size f := by
    intro b f hm
    obtain ⟨es, cc, hb⟩ := hm.obj
    refine hm.same ?_
    rw [Below.heap_setCell _ _ _ _ (by rintro rfl; rw [hobj1] at hb; cases hb), grown_map hgr2 (fun r hr => by obtain ⟨c, f, hc⟩ := hrow2 r hr; exact ⟨c, _, f, hc⟩) ((Below.heap_alloc w1 _ _ hm.lt).trans hb)]
    exact Below.heap_alloc w1 _ _ hm.lt
  have hupd : Upd R w (w2.setCell ⟨d, 3, none⟩ (.slice (some ⟨g', 0, none⟩) (n + 1) c')) :=
    ((hupd1.alloc _).grown hgr2 (fun k hk => .inl (hrv k hk))).setCell (.inl hrd) _
  have hownF : (w2.setCell ⟨d, 3, none⟩ (.slice (some ⟨g', 0, none⟩) (n + 1) c')).ownsRow 0 192 33 (.slice (some ⟨g', 0, none⟩) (n + 1) c') G'.calls.length (callsCells G'.calls) := by
    rw [hn]
    refine ownsRow_other hown2 (fun k hk => ?_) _
    cases hk
    rintro rfl
    rcases hown2.2 with ⟨hx, _⟩ | ⟨g9, cap, cur, hx, _, hh, _⟩
    · cases hx
    · cases hx
      rw [hobj2] at hh; cases hh
  have hltd := lt_of_heap hobj1
  refine ⟨Grw R w _, ⟨m1, m2, _, hobjF, hmap2 hf1, hmap2 hm1, q3, hownF, .inl hrd, .inl q1, .inl q2, ?_, q4, hbig, hl⟩, hupd.reg, hw.grw hupd.size⟩
  intro k hk
  cases hk
  rcases hloc with hloc | rfl
  · exact .inl (hrv _ hloc)
  · refine .inr ⟨?_, ?_⟩
    · have := hupd1.size
      simp; omega
    · have := (hown2.lt _ rfl).2
      simpa [World.setCell] using this

set_option maxRecDepth 100000 in
set_option maxHeartbeats 1000000 in
theorem Sync_calls {R : Nat → Prop} {w : World} {d : Nat} {G : DiskG} (h : IsDisk R w d G) (hw : Within R w) (hc : G.calls.length < 1000000000000) :
    Calls Try.prog 97 #[.pointer (some ⟨d, 0, none⟩)] w fun e w' => e = .returned (.int .i64 0) ∧ ∃ R', IsDisk R' w' d G.sync ∧ Reg R w R' w' ∧ Within R' w' := by
  have H := Lib.hid h
  obtain ⟨m1, m2, cv, h⟩ := h
  have hbig := h.big
  have hobj1 := h.obj
  have hown1 := h.calls
  have hf1 := h.first
  have hm1 := h.now
  have hlenc := h.lens
  have hrv := h.rv
  have hrd := h.rd
  have f3 : w.cell? ⟨d, 3, none⟩ = some cv := cell_row hobj1 3
  have Hf1 := Lib.hid hf1
  have Hm1 := Lib.hid hm1
  have Hw := Lib.hid hw
  have Hhb := Lib.hid (And.intro h.r1 (And.intro h.r2 (And.intro h.ne h.pos)))
  clear h hf1 hm1 hw
  obtain ⟨i0, z0, hi, hz0, hz1, hz2, hz3⟩ := infoWrite
  go_enter Try.func97, Try.ntmps97
  go_wp2_with (at_builtin; refine wpList_append_own_at _ rfl _ _ 186 rfl 0 192 i0 z0 33 40 Try.underlying186 hi hz0 hz2 hz3 hz1 (by decide) _ _ _ rfl (hown1.alloc _) ⟨w.heap.size, 0, none⟩ 1 1 (callCells (-1, zero32)) rfl rfl ?c1 ?c2 ?c3 ?c4 ?c5 ?_)
  case c1 => exact cells_new w _ _
  case c2 => exact callCells_one _
  case c3 => unfold maxLen; omega
  case c4 => omega
  case c5 => exact Nat.zero_le _
  intro v' w2 hown2 hgr2 _ hloc
  rw [← callsCells_snoc] at hown2
  obtain ⟨g', c', rfl⟩ := ownsRow_form hown2 (by omega)
  have hrow2 : ∀ r, cv.ownBlock = some r → ∃ c f, (w.alloc (.cells (callCells (-1, zero32)).toArray 192)).heap[r]? = some (.cells c 192 f) := ownsRow_row (hown1.alloc _)
  have hobj2 := grown_cells hgr2 hrow2 ((Below.heap_alloc _ _ _ (lt_of_heap hobj1)).trans hobj1) (by decide)
  have e3 : w2.cell? ⟨d, 3, none⟩ = some cv := cell_row hobj2 3
  have e4 : w2.frozen? ⟨d, 3, none⟩ = false := Lib.frozen_of_heap hobj2 3
  have HG := Lib.hid hgr2
  have HO := Lib.hid hown2
  have Hloc : Hid (cv.ownBlock = some g' ∨ g' = (w.alloc (.cells (callCells (-1, zero32)).toArray 192)).heap.size) := hloc.imp (fun h => h.symm) (fun h => by simpa [Value.ownBlock] using h)
  clear hgr2 hown2 hloc hobj2 hrow2
  go_wp2_with fail
  go_ret
  obtain ⟨q1, q2, q3, q4⟩ := Hhb.out
  exact ⟨rfl, disk_end (G' := G.sync) (Upd.refl R w) Hw.out hobj1 Hf1.out Hm1.out hown1 hrd q1 q2 q3 q4 hbig hrv (fun c hc => by
    rcases List.mem_append.1 hc with hc | hc
    · exact hlenc c hc
    · obtain rfl : c = (-1, zero32) := by simpa using hc
      rfl) (by simp [DiskG.sync]) HO.out HG.out Hloc.out⟩

theorem New_calls (n : Nat) (w : World) (h0 : 1 ≤ n) (h1 : n ≤ 65536) :
    Calls Try.prog 36 #[.int .i64 n] w fun e w' => ∃ d, e = .returned (.tuple #[.pointer (some ⟨d, 0, none⟩), .int .i64 0]) ∧ IsDisk (fun k => w.heap.size ≤ k ∧ k < w'.heap.size) w' d ⟨n, fun _ => zero32, fun _ => zero32, []⟩ ∧ Below w.heap.size w w' := by
  have hmm := @run_makeMap Try.prog
  have d1 : decide ((n : Int) < 1) = false := by simp only [decide_eq_false_iff_not]; omega
  have d2 : decide (65536 < (n : Int)) = false := by simp only [decide_eq_false_iff_not]; omega
  go_enter Try.func36, Try.ntmps36
  go_wp2_with fail
  go_ret2
  have e1 := (World.size_alloc w (.map #[] 0))
  have e2 := World.size_alloc (w.alloc (.map #[] 0)) (.map #[] 0)
  have e3 := World.size_alloc ((w.alloc (.map #[] 0)).alloc (.map #[] 0)) (.cells #[.int .i64 n, .map (some w.heap.size), .map (some (w.heap.size + 1)), .slice none 0 0] 188)
  have k1 := MapIs.made w Try.prog 3 n
  have k2 := MapIs.made (w.alloc (.map #[] 0)) Try.prog 3 n
  rw [e1] at k2
  have hd := heap_new ((w.alloc (.map #[] 0)).alloc (.map #[] 0)) (.cells #[.int .i64 n, .map (some w.heap.size), .map (some (w.heap.size + 1)), .slice none 0 0] 188)
  rw [e2, e1] at hd
  refine ⟨_, rfl, ⟨w.heap.size, w.heap.size + 1, _, hd, (k1.same (Below.heap_alloc _ _ _ k1.lt)).same (Below.heap_alloc _ _ _ (by rw [e2, e1]; omega)), k2.same (Below.heap_alloc _ _ _ (by rw [e2, e1]; omega)), by omega, World.ownsRow_nil _ _ _ _, ⟨by omega, by omega⟩, ⟨by omega, by omega⟩, ⟨by omega, by omega⟩, (fun g hg => by cases hg), h0, h1, (fun c hc => by cases hc)⟩, ?_⟩
  exact (((Below.refl _ w).alloc (Nat.le_refl _) _).alloc (by omega) _).alloc (by omega) _

theorem IsDisk.within {R : Nat → Prop} {w : World} {d : Nat} {G : DiskG} (h : IsDisk R w d G) : IsDisk (fun k => R k ∧ k < w.heap.size) w d G := h.mono fun k hk hr => ⟨hr, hk⟩

theorem round_calls (c n : Int) (w : World) (h0 : -9223372036854775808 ≤ c) (h1 : c ≤ 9223372036854775807) (h2 : 1 ≤ n) (h3 : n ≤ 9223372036854775807) :
    Calls Try.prog 107 #[.int .i64 c, .int .i64 n] w fun e w' => e = .returned (.int .i64 (pickI c n)) ∧ w = w' := by
  by_cases hc : c < 0
  · have d1 : decide (c < 0) = true := by simpa using hc
    have e : (-(c + 1)).tmod n = pickI c n := by rw [pickI, if_pos hc, Int.tmod_eq_emod_of_nonneg (by omega)]
    go_enter Try.func107, Try.ntmps107
    go_wp2_with fail
    go_ret
    exact ⟨by rw [← e]; simp [Int.neg_tmod], rfl⟩
  · have d1 : decide (c < 0) = false := by simpa using hc
    go_enter Try.func107, Try.ntmps107
    go_wp2_with fail
    go_ret
    exact ⟨by rw [pickI, if_neg (by omega)]; rfl, rfl⟩
end Go.Proofs.Ytenihlicjahjhaa

/-
  Recs: lists of rows of bytes in memory; parts of rows of bytes.
-/
import Derived.Test.YtenihlicjahjhaaBytes
import Derived.Test.YtenihlicjahjhaaProg
import Derived.Test.YtenihlicjahjhaaDiskC
set_option linter.unusedVariables false
set_option linter.unusedSimpArgs false
namespace Go.Proofs.Ytenihlicjahjhaa
open Go Go.RowKit Go.Proofs

/-- a slice of rows of bytes: its own row, and theirs, lie in R -/
def Recs (R : Nat → Prop) (w : World) (v : Value) (L : List (List UInt8)) : Prop :=
  ∃ vs : List Value, w.ownsRow 0 22 1 v L.length vs ∧ (∀ g, v.ownBlock = some g → R g) ∧ ∀ (i : Nat) (u : Value) (x : List UInt8), vs[i]? = some u → L[i]? = some x → Bts (fun k => R k ∧ v.ownBlock ≠ some k) w u x

theorem Recs.nil (R : Nat → Prop) (w : World) : Recs R w (.slice none 0 0) [] := ⟨[], World.ownsRow_nil _ _ _ _, fun g h => (by cases h), fun i u x h => (by simp at h)⟩

theorem Recs.agree {R : Nat → Prop} {w w' : World} {v : Value} {L : List (List UInt8)} (h : Recs R w v L) (ha : Agree R w w') : Recs R w' v L := by
  obtain ⟨vs, h1, h2, h3⟩ := h
  exact ⟨vs, ha.row h2 h1, h2, fun i u x hu hx => (h3 i u x hu hx).agree (ha.mono fun k hk => hk.1)⟩

theorem Recs.mono {R R' : Nat → Prop} {w : World} {v : Value} {L : List (List UInt8)} (h : Recs R w v L) (hR : ∀ k, k < w.heap.size → R k → R' k) : Recs R' w v L := by
  obtain ⟨vs, h1, h2, h3⟩ := h
  exact ⟨vs, h1, fun g hg => hR g (h1.lt g hg).2 (h2 g hg), fun i u x hu hx => (h3 i u x hu hx).mono fun k hk hr => ⟨hR k hk hr.1, hr.2⟩⟩

theorem Recs.bel {R : Nat → Prop} {w w' : World} {v : Value} {L : List (List UInt8)} (h : Recs R w v L) (hb : Below w.heap.size w w') : Recs R w' v L := h.agree (Agree.below hb)

theorem recs_snoc {R R' : Nat → Prop} {w W2 : World} {v v' u : Value} {L : List (List UInt8)} {vs : List Value} {x : List UInt8} {o : Obj} (hown : w.ownsRow 0 22 1 v L.length vs)
    (hb : ∀ (i : Nat) (u : Value) (x : List UInt8), vs[i]? = some u → L[i]? = some x → Bts (fun k => R k ∧ v.ownBlock ≠ some k) w u x) (hR : ∀ g, v.ownBlock = some g → R g)
    (hu : Bts (fun k => R k ∧ v.ownBlock ≠ some k) w u x) (hgr : (w.alloc o).grownBy W2 v.ownBlock) (hown2 : W2.ownsRow 0 22 1 v' (L.length + 1) (vs ++ [u]))
    (hloc : v'.ownBlock = v.ownBlock ∨ v'.ownBlock = some (w.alloc o).heap.size) (hR' : ∀ k, R k → R' k) (hnew : R' (w.alloc o).heap.size) : Recs R' W2 v' (L ++ [x]) := by
  have keep : ∀ {u : Value} {x : List UInt8}, Bts (fun k => R k ∧ v.ownBlock ≠ some k) w u x → Bts (fun k => R' k ∧ v'.ownBlock ≠ some k) W2 u x := by
    intro u x h
    have h1 : Bts (fun k => R k ∧ v.ownBlock ≠ some k ∧ k < w.heap.size) w u x := h.mono fun k hk hr => ⟨hr.1, hr.2, hk⟩
    have h2 : Agree (fun k => R k ∧ v.ownBlock ≠ some k ∧ k < w.heap.size) w W2 := by
      refine ⟨Nat.le_trans (by simp) hgr.size, fun k hk ob hob => ?_⟩
      have hlt : k < (w.alloc o).heap.size := by have := hk.2.2; simp; omega
      rw [hgr.block k hlt (fun e => hk.2.1 e.symm)]
      exact (Below.heap_alloc _ _ _ hk.2.2).trans hob
    refine (h1.agree h2).mono fun k _ hk => ⟨hR' k hk.1, ?_⟩
    rcases hloc with e | e
    · rw [e]; exact hk.2.1
    · rw [e]
      intro e2
      have := hk.2.2
      have e3 : (w.alloc o).heap.size = k := Option.some.inj e2
      simp at e3; omega
  have hlen : vs.length = L.length := by have := hown.1; omega
  refine ⟨vs ++ [u], by rw [List.length_append, List.length_singleton]; exact hown2, ?_, ?_⟩
  · intro g hg
    rcases hloc with e | e
    · exact hR' g (hR g (by rw [← e]; exact hg))
    · rw [e] at hg
      cases hg
      exact hnew
  · intro i u' x' h1 h2
    by_cases hi : i < vs.length
    · rw [List.getElem?_append_left hi] at h1
      rw [List.getElem?_append_left (by omega)] at h2
      exact keep (hb i u' x' h1 h2)
    · rw [List.getElem?_append_right (by omega)] at h1
      rw [List.getElem?_append_right (by omega)] at h2
      have e0 : i - vs.length = 0 := by
        rcases Nat.eq_zero_or_pos (i - vs.length) with h | h
        · exact h
        · rw [List.getElem?_eq_none (by simp; omega)] at h1; cases h1
      have e1 : i - L.length = 0 := by omega
      rw [e0] at h1
      rw [e1] at h2
      cases h1; cases h2
      exact keep hu

theorem infoSl : (Try.prog.info? 22).map (fun i => (i.zero, i.size, i.bytes)) = some (some (.slice none 0 0), 1, 24) := by kernel_rfl

/-- a part of a slice -/
def cutV (a : Option Addr) (l h m : Nat) : Value := .slice (if m = l then a else a.map (·.add l)) (h - l) (m - l)

theorem Bts.cut {Q : Nat → Prop} {w : World} {a : Option Addr} {c n : Nat} {l : List UInt8} (hv : Bts Q w (.slice a n c) l) {i j m : Nat} (hij : i ≤ j) (hj : j ≤ n) (hm : j ≤ m) (hmc : m ≤ c) : Bts Q w (cutV a i j m) ((l.take j).drop i) := by
  obtain ⟨a', c', hv', h1, h2, h3⟩ := hv
  cases hv'
  have hl : ((l.take j).drop i).length = j - i := by rw [List.length_drop, List.length_take]; omega
  refine ⟨if m = i then a else a.map (·.add i), m - i, ?_, by omega, by omega, fun hne => ?_⟩
  · rw [hl]; rfl
  · have hpos : 0 < ((l.take j).drop i).length := List.length_pos_iff.2 hne
    have hlne : l ≠ [] := by intro e; subst e; simp at hne
    obtain ⟨g, o, rfl, hg, hr⟩ := h3 hlne
    refine ⟨g, o + i, ?_, hg, ?_⟩
    · rw [if_neg (by omega)]
      simp only [Option.map_some, Addr.add_mid]
    · have := range_part hr i (j - i)
      rwa [show (l.drop i).take (j - i) = (l.take j).drop i from (List.drop_take ..).symm] at this

theorem elemSl : Try.prog.elem 22 = 5 := by kernel_rfl
theorem sizeU8 (W : World) : (sizeOf 5).run Try.prog W = .ok 1 W := by kernel_rfl

theorem run_cut_from (a : Option Addr) (n c i : Nat) (hi : i ≤ n) (W : World) : (Instr.sliceAt 22 (.slice a n c) (some (.int .i64 i)) none none).run Try.prog W = .ok (cutV a i n c) W := by
  simp [Instr.sliceAt, Instr.slice, Instr.sliceBounds, Instr.sliceBound, asIntOf, run_underlying Try.underlying22, sizeU8, hi, cutV]
theorem run_cut_to (a : Option Addr) (n c j : Nat) (hj : j ≤ c) (W : World) : (Instr.sliceAt 22 (.slice a n c) none (some (.int .i64 j)) none).run Try.prog W = .ok (cutV a 0 j c) W := by
  simp [Instr.sliceAt, Instr.slice, Instr.sliceBounds, Instr.sliceBound, asIntOf, run_underlying Try.underlying22, sizeU8, hj, cutV]
theorem run_cut_both (a : Option Addr) (n c i j : Nat) (hi : i ≤ j) (hj : j ≤ c) (W : World) : (Instr.sliceAt 22 (.slice a n c) (some (.int .i64 i)) (some (.int .i64 j)) none).run Try.prog W = .ok (cutV a i j c) W := by
  simp [Instr.sliceAt, Instr.slice, Instr.sliceBounds, Instr.sliceBound, asIntOf, run_underlying Try.underlying22, sizeU8, hi, hj, cutV]
theorem run_cut_full (a : Option Addr) (n c i j m : Nat) (hi : i ≤ j) (hj : j ≤ m) (hm : m ≤ c) (W : World) : (Instr.sliceAt 22 (.slice a n c) (some (.int .i64 i)) (some (.int .i64 j)) (some (.int .i64 m))).run Try.prog W = .ok (cutV a i j m) W := by
  simp [Instr.sliceAt, Instr.slice, Instr.sliceBounds, Instr.sliceBound, asIntOf, run_underlying Try.underlying22, sizeU8, hi, hj, hm, cutV]

section
variable {ops : Array Oper} {rest : List Oper} {op : Oper} {act : Act} {w : World} {Q' : Exit → Act → World → Prop} {Q : Nat → Prop}

theorem wp_exec {K : Act → World → Prop} {w' : World} {v : Value} (hrun : (execOp act.eval op).run Try.prog w = .ok (.value v) w') (h : K (act.put op.dst v) w') : op.wp Try.prog act w K Q' := by
  unfold Oper.wp
  rw [hrun]
  exact h

theorem exec_cut_from {ev : Operand → Value} {x y : Operand} (ho : op.op = .slice 22 x (some y) none none) {a : Option Addr} {n c i : Nat} (hx : ev x = .slice a n c) (hy : ev y = .int .i64 i) (hi : i ≤ n) (W : World) :
    (execOp ev op).run Try.prog W = .ok (.value (cutV a i n c)) W := by
  unfold execOp
  simp only [ho, hx, hy, Option.map_some, Option.map_none, Sem.run_bind, Sem.run_pure, Result.andThen_ok, run_cut_from a n c i hi W]
theorem exec_cut_to {ev : Operand → Value} {x y : Operand} (ho : op.op = .slice 22 x none (some y) none) {a : Option Addr} {n c j : Nat} (hx : ev x = .slice a n c) (hy : ev y = .int .i64 j) (hj : j ≤ c) (W : World) :
    (execOp ev op).run Try.prog W = .ok (.value (cutV a 0 j c)) W := by
  unfold execOp
  simp only [ho, hx, hy, Option.map_some, Option.map_none, Sem.run_bind, Sem.run_pure, Result.andThen_ok, run_cut_to a n c j hj W]
theorem exec_cut_both {ev : Operand → Value} {x y z : Operand} (ho : op.op = .slice 22 x (some y) (some z) none) {a : Option Addr} {n c i j : Nat} (hx : ev x = .slice a n c) (hy : ev y = .int .i64 i) (hz : ev z = .int .i64 j) (hi : i ≤ j) (hj : j ≤ c) (W : World) :
    (execOp ev op).run Try.prog W = .ok (.value (cutV a i j c)) W := by
  unfold execOp
  simp only [ho, hx, hy, hz, Option.map_some, Option.map_none, Sem.run_bind, Sem.run_pure, Result.andThen_ok, run_cut_both a n c i j hi hj W]
theorem exec_cut_full {ev : Operand → Value} {x y z u : Operand} (ho : op.op = .slice 22 x (some y) (some z) (some u)) {a : Option Addr} {n c i j m : Nat} (hx : ev x = .slice a n c) (hy : ev y = .int .i64 i) (hz : ev z = .int .i64 j) (hu : ev u = .int .i64 m)
    (hi : i ≤ j) (hj : j ≤ m) (hm : m ≤ c) (W : World) : (execOp ev op).run Try.prog W = .ok (.value (cutV a i j m)) W := by
  unfold execOp
  simp only [ho, hx, hy, hz, hu, Option.map_some, Option.map_none, Sem.run_bind, Sem.run_pure, Result.andThen_ok, run_cut_full a n c i j m hi hj hm W]

theorem wpList_cut_from (hgd : op.guard = none) (x y : Operand) (ho : op.op = .slice 22 x (some y) none none) (v : Value) (l : List UInt8) (i : Nat) (hx : act.eval x = v) (hy : act.eval y = .int .i64 i)
    (hv : Bts Q w v l) (hi : i ≤ l.length) (h : ∀ v', Bts Q w v' (l.drop i) → wpList Try.prog ops Q' rest (act.put op.dst v') w) : wpList Try.prog ops Q' (op :: rest) act w := by
  obtain ⟨a, c, rfl, h1, h2, h3⟩ := id hv
  refine wpList_plain hgd fun K hK => wp_exec (exec_cut_from ho hx hy hi w) (hK _ _ (h _ ?_))
  have := hv.cut (i := i) (j := l.length) (m := c) hi (Nat.le_refl _) h1 (Nat.le_refl _)
  rwa [List.take_length] at this

theorem wpList_cut_to (hgd : op.guard = none) (x y : Operand) (ho : op.op = .slice 22 x none (some y) none) (v : Value) (l : List UInt8) (i : Nat) (hx : act.eval x = v) (hy : act.eval y = .int .i64 i)
    (hv : Bts Q w v l) (hi : i ≤ l.length) (h : ∀ v', Bts Q w v' (l.take i) → wpList Try.prog ops Q' rest (act.put op.dst v') w) : wpList Try.prog ops Q' (op :: rest) act w := by
  obtain ⟨a, c, rfl, h1, h2, h3⟩ := id hv
  refine wpList_plain hgd fun K hK => wp_exec (exec_cut_to ho hx hy (Nat.le_trans hi h1) w) (hK _ _ (h _ ?_))
  have := hv.cut (i := 0) (j := i) (m := c) (Nat.zero_le _) hi (Nat.le_trans hi h1) (Nat.le_refl _)
  rwa [List.drop_zero] at this

theorem wpList_cut_from_v (hgd : op.guard = none) (x y : Operand) (ho : op.op = .slice 22 x (some y) none none) (a : Option Addr) (n c i : Nat) (hx : act.eval x = .slice a n c) (hy : act.eval y = .int .i64 i) (hi : i ≤ n)
    (h : wpList Try.prog ops Q' rest (act.put op.dst (cutV a i n c)) w) : wpList Try.prog ops Q' (op :: rest) act w :=
  wpList_plain hgd fun K hK => wp_exec (exec_cut_from ho hx hy hi w) (hK _ _ h)

theorem wpList_cut_full (hgd : op.guard = none) (x y z u : Operand) (ho : op.op = .slice 22 x (some y) (some z) (some u)) (a : Option Addr) (n c i j m : Nat) (hx : act.eval x = .slice a n c) (hy : act.eval y = .int .i64 i) (hz : act.eval z = .int .i64 j) (hu : act.eval u = .int .i64 m)
    (hi : i ≤ j) (hj : j ≤ m) (hm : m ≤ c) (h : wpList Try.prog ops Q' rest (act.put op.dst (cutV a i j m)) w) : wpList Try.prog ops Q' (op :: rest) act w :=
  wpList_plain hgd fun K hK => wp_exec (exec_cut_full ho hx hy hz hu hi hj hm w) (hK _ _ h)
end
end Go.Proofs.Ytenihlicjahjhaa

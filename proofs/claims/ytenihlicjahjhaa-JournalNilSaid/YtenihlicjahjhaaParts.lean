/-
  Parts: a part of the proofs about the given program: contracts of its functions, each with the conditions that stand ahead of its colon.
-/
import Derived.Test.YtenihlicjahjhaaSeq
import Derived.Test.YtenihlicjahjhaaMem
import Derived.Test.YtenihlicjahjhaaRope1
import Derived.Deep.LoopGhost
import Derived.Lib.Hide
set_option linter.unusedVariables false
set_option linter.unusedSimpArgs false
namespace Go.Proofs.Ytenihlicjahjhaa
open Go Go.RowKit Go.Proofs Go.Shelf

attribute [local go_sem] Oper.semAt_some

/-- types of the rows that a walk over a rope reads -/
def RT (t : Nat) : Prop := t = 37 ∨ t = 173

/-- how many pops a rope on the stack may cost -/
def weight (ls : List (List UInt8)) : Nat := if ls.length = 0 then 1 else 2 * ls.length - 1

def weights : List (Option Addr × List (List UInt8)) → Nat
  | [] => 0
  | x :: r => weights r + weight x.2

theorem weights_append (a : List (Option Addr × List (List UInt8))) (x : Option Addr × List (List UInt8)) : weights (a ++ [x]) = weights a + weight x.2 := by
  induction a with
  | nil => simp [weights]
  | cons y r ih => simp [weights, ih]; omega

/-- the leaves that are still to come, the stack's last one first -/
def todo (st : List (Option Addr × List (List UInt8))) : List (List UInt8) := (st.reverse.map (·.2)).flatten

theorem todo_snoc (st : List (Option Addr × List (List UInt8))) (x : Option Addr × List (List UInt8)) : todo (st ++ [x]) = x.2 ++ todo st := by
  simp [todo]

theorem length_le_weights (st : List (Option Addr × List (List UInt8))) : st.length ≤ weights st := by
  induction st with
  | nil => simp [weights]
  | cons y r ih => simp only [weights, weight, List.length_cons]; split <;> omega

def StackAt (B : Nat) (R : Nat → Prop) (Xs : List (List UInt8)) (J : List (List UInt8) → World → Prop) (k : Nat) (v : Value) (wr : World) : Prop :=
  ∃ (pre : List (List UInt8)) (st : List (Option Addr × List (List UInt8))) (m g c : Nat), v = .slice (some ⟨g, 0, none⟩) m c ∧ st.length = m ∧
    wr.ownsRow B 37 1 (.slice (some ⟨g, 0, none⟩) m c) m (st.map fun x => .pointer x.1) ∧
    (∀ x ∈ st, RopeL R wr x.1 x.2) ∧ Xs = pre ++ todo st ∧ J pre wr ∧ k = weights st ∧ B ≤ wr.heap.size ∧ k ≤ 2 * Xs.length + 1

theorem ownsRow_at {w : World} {B e n g c : Nat} {xs : List Value} (h : w.ownsRow B e 1 (.slice (some ⟨g, 0, none⟩) n c) n xs) : 
    B ≤ g ∧ n ≤ c ∧ c ≤ maxLen ∧ (∀ j u, xs[j]? = some u → w.cell? ⟨g, j, none⟩ = some u) ∧ ∃ cs, w.heap[g]? = some (.cells cs e) := by
  rcases h.2 with ⟨hv, _⟩ | ⟨g', cap, cur, hv, hb, hh, hn, hc, hs, ht⟩
  · cases hv
  · cases hv
    refine ⟨hb, hn, hc, fun j u hu => ?_, cur, hh⟩
    have := h.cells (g := g) rfl j u hu
    have hadd : (⟨g, 0, none⟩ : Addr).add j = ⟨g, j, none⟩ := by unfold Addr.add; split <;> simp_all
    rwa [hadd] at this

theorem least_lt {p q : Nat → Prop} {k0 k' : Nat} (h0 : leastOf q = k0) (h : p k') (hlt : k' < k0) : (∃ k, p k) ∧ leastOf p < leastOf q :=
  ⟨⟨k', h⟩, by rw [h0]; exact Nat.lt_of_le_of_lt ((leastOf_spec ⟨k', h⟩).2 k' h) hlt⟩

theorem StackAt.keep {B : Nat} {R : Nat → Prop} {Xs : List (List UInt8)} {J : List (List UInt8) → World → Prop} {pre : List (List UInt8)} {st : List (Option Addr × List (List UInt8))} {m g c : Nat} {w w' : World}
    (hm : st.length = m) (hown : w.ownsRow B 37 1 (.slice (some ⟨g, 0, none⟩) m c) m (st.map fun x => .pointer x.1))
    (hall : ∀ x ∈ st, RopeL R w x.1 x.2) (hX : Xs = pre ++ todo st) (hJ : J pre w') (hB : B ≤ w.heap.size) (hk : weights st ≤ 2 * Xs.length + 1) (hkeep : KeepT RT w w') :
    StackAt B R Xs J (weights st) (.slice (some ⟨g, 0, none⟩) m c) w' :=
  ⟨pre, st, m, g, c, rfl, hm, ownsRow_keepT hown hkeep (.inl rfl), fun x hx => (hall x hx).keep fun _ _ _ _ hk => (hkeep.keep _ _ _ _ hk (.inr rfl)).trans hk.symm, hX, hJ, rfl, Nat.le_trans hB hkeep.size, hk⟩

theorem infoRope : (Try.prog.info? 37).map (fun i => (i.zero, i.size, i.bytes)) = some (some (.pointer none), 1, 8) := by kernel_rfl

theorem snoc_of_length {α : Type} {l : List α} {m : Nat} (h : l.length = m + 1) : ∃ l' x, l = l' ++ [x] ∧ l'.length = m := by
  rcases List.eq_nil_or_concat l with rfl | ⟨l', x, rfl⟩
  · simp at h
  · exact ⟨l', x, by simp, by simpa using h⟩

set_option maxHeartbeats 1000000 in
theorem parts1_seq (n : Nat) (hn : 1 ≤ n) (R : Nat → Prop) (p : Option Addr) (ls : List (List UInt8)) (Bn : Nat) (w : World)
    (h : RopeL R w p ls) (hb : w.heap[Bn]? = some (.cells #[.pointer p] 37)) (hlen : ls.length ≤ 65536) :
    SeqR Fence.wide n Try.prog 135 #[.pointer (some ⟨Bn, 0, none⟩)] (fun s : List UInt8 => #[.string ⟨s.toArray⟩]) ls (fun A C => Only (· = 37) A C ∧ Below w.heap.size A C) (KeepT RT) w := by
  intro l J Jx W hbd hJ hJx hY h0
  have hb1 := hbd.keep _ _ _ _ hb (.inl rfl)
  have hr1 : RopeL R W p ls := h.keep fun k c f _ hk => (hbd.keep _ _ _ _ hk (.inr rfl)).trans hk.symm
  have hc : W.cell? ⟨Bn, 0, none⟩ = some (.pointer p) := cell_row hb1 0
  clear hb1 hb h
  refine callsIn_of_wp Try.func135 rfl trivial ?_ rfl
  simp only [Try.ntmps135, List.size_toArray, List.length_cons, List.length_nil, Nat.reduceAdd, Nat.reduceSub, Array.replicate_succ, Array.replicate_zero, List.push_toArray, List.append_toArray, List.nil_append, List.cons_append]
  gi_wp2
  clear hc
  gi_loopw [3] (fun v wr => ∃ k, StackAt w.heap.size R ls J k v wr) (fun v wr => leastOf fun k => StackAt w.heap.size R ls J k v wr)
  case atStart =>
    have hO : Only (· = 37) W (W.alloc (.cells #[.pointer p] 37)) := (Only.refl _ _).alloc _
    refine ⟨_, [], [(p, ls)], 1, _, _, rfl, rfl, ?_, ?_, by simp [todo], hJ _ _ _ h0 ⟨hO, (Below.refl _ _).alloc hbd.size _⟩, rfl, Nat.le_trans hbd.size hO.size, ?_⟩
    · exact ⟨rfl, .inr ⟨W.heap.size, 1, #[.pointer p], rfl, hbd.size, World.alloc_heap_new _ _, Nat.le_refl _, by unfold maxLen; omega, rfl, rfl⟩⟩
    · intro x hx
      obtain rfl : x = (p, ls) := by simpa using hx
      exact hr1.keep fun _ _ _ _ hk => (hO.cell hk (by decide)).trans hk.symm
    · simp only [weights, weight]; split <;> omega
  case round =>
    have hk := (leastOf_spec hrel).1
    have hμ := (leastOf_spec hrel).2
    generalize hk0 : leastOf (fun k => StackAt w.heap.size R ls J k u3 wr) = k0 at hk
    have Hk0 := Lib.hid hk0
    clear hk0 hrel hμ
    obtain ⟨pre, st, m, g, c, rfl, hm, hown, hall, hX, hJp, hkw, hB, hkl⟩ := hk
    have HX := Lib.hid hX
    have Hkw := Lib.hid hkw
    have Hm := Lib.hid hm
    clear hX hkw hm
    cases m with
    | zero =>
      gi_wp2
      go_end0
      obtain rfl : st = [] := List.length_eq_zero_iff.1 Hm.out
      exact ⟨⟨_, rfl⟩, .inl (by have := HX.out; simp [todo] at this; rw [this]; exact hJp)⟩
    | succ m =>
      obtain ⟨st, ⟨q, qs⟩, rfl, hm⟩ := snoc_of_length Hm.out
      clear Hm
      have Hm := Lib.hid hm
      obtain ⟨hg, hc1, hc2, hcell, cs, hheap⟩ := ownsRow_at hown
      have h4 : wr.cell? ⟨g, m, none⟩ = some (.pointer q) := hcell m _ (by simp [← hm])
      have hmk : m + 1 ≤ 131073 := by
        have := length_le_weights (st ++ [(q, qs)])
        have h2 := Hkw.out
        simp at this; omega
      clear hm hcell
      unfold maxLen at hc2
      have HO := Lib.hid hown
      clear hown
      have hq := hall (q, qs) (by simp)
      cases q with
      | none =>
        gi_wp2
        obtain rfl : qs = [] := by cases hq; rfl
        have hp : wr.ownsRow w.heap.size 37 1 (.slice (some ⟨g, 0, none⟩) m c) m (st.map fun x => .pointer x.1) := 
          ownsRow_pop (by simp [Hm.out]) (by simpa using HO.out)
        have hkw := Hkw.out
        rw [weights_append] at hkw
        simp only [weight, List.length_nil, if_true] at hkw
        exact least_lt Hk0.out (StackAt.keep Hm.out hp (fun x hx => hall x (by simp [hx])) (by have := HX.out; simpa [todo_snoc] using this) hJp hB (by omega) (KeepT.refl _ _)) (by omega)
      | some a =>
        cases hq with
        | leaf b s hRb hbk hs =>
          have c0 : wr.cell? ⟨b, 0, none⟩ = some (.string ⟨s.toArray⟩) := cell_row hbk 0
          have c1 : wr.cell? ⟨b, 1, none⟩ = some (.pointer none) := cell_row hbk 1
          obtain ⟨fn, tmps, assign, body, hy, hR⟩ := hY pre s (todo st) wr (by have := HX.out; simpa [todo_snoc] using this) hJp
          clear hbk hheap
          gi_wp2
          refine hR.mono ?_
          rintro e W3 (⟨rfl, hJ3, hk3⟩ | ⟨rfl, hJx3, hk3⟩)
          · gi_wp2
            have hp : wr.ownsRow w.heap.size 37 1 (.slice (some ⟨g, 0, none⟩) m c) m (st.map fun x => .pointer x.1) := 
              ownsRow_pop (by simp [Hm.out]) (by simpa using HO.out)
            have hkw := Hkw.out
            rw [weights_append] at hkw
            simp [weight] at hkw
            exact least_lt Hk0.out (StackAt.keep Hm.out hp (fun x hx => hall x (by simp [hx])) (by have := HX.out; simpa [todo_snoc] using this) hJ3 hB (by omega) hk3) (by omega)
          · gi_wp2
            refine bodyPost_ret (results_none rfl _ _ _) rfl ?_
            exact ⟨⟨_, rfl⟩, .inr ⟨pre ++ [s], ⟨todo st, by have := HX.out; simpa [todo_snoc] using this.symm⟩, hJx3⟩⟩
        | node b p1 q1 l1 m1 hRb hbk hl hm1 hL hM =>
          have c1 : wr.cell? ⟨b, 1, none⟩ = some (.pointer (some p1)) := cell_row hbk 1
          have c2 : wr.cell? ⟨b, 2, none⟩ = some (.pointer (some q1)) := cell_row hbk 2
          have hp : wr.ownsRow w.heap.size 37 1 (.slice (some ⟨g, 0, none⟩) m c) m (st.map fun x => .pointer x.1) := 
            ownsRow_pop (by simp [Hm.out]) (by simpa using HO.out)
          have Hp := Lib.hid hp
          obtain ⟨i0, hi, hz0, hz1, hz2⟩ := info_parts infoRope
          clear hbk hp
          have Hheap := Lib.hid hheap
          clear hheap
          gi_wp2
          refine wpIn_wide.2 ?_
          go_region_law (refine step_append_own rfl (.tmp 30) (.tmp 39) 84 rfl w.heap.size 37 i0 (.pointer none) 1 8 Try.underlying84 hi hz0 hz1 hz2 rfl (by decide) (.slice (some ⟨g, 0, none⟩) m c) m _ rfl (World.ownsRow.drew (Hp.out.alloc _)) ⟨wr.heap.size, 0, none⟩ 2 2 [.pointer (some q1), .pointer (some p1)] rfl rfl (cells_new_drew _ _ _) (by simp [Value.oneCell']) (by unfold maxLen; omega) (by omega) (by simp; omega) (by omega) ?_; intro g' c' w' hown' hgrow)
          all_goals
            go_wp2
            go_simp
            have hkw := Hkw.out
            rw [weights_append] at hkw
            have hl0 : 0 < l1.length := List.length_pos_iff.2 hl
            have hm0 : 0 < m1.length := List.length_pos_iff.2 hm1
            have hw1 : weights (st ++ [(some q1, m1), (some p1, l1)]) < k0 := by
              rw [show st ++ [(some q1, m1), (some p1, l1)] = (st ++ [(some q1, m1)]) ++ [(some p1, l1)] by simp, weights_append, weights_append]
              simp only [weight, List.append_eq, List.length_append] at hkw ⊢
              rw [if_neg (by omega), if_neg (by omega)]
              rw [if_neg (by omega)] at hkw
              omega
            have hall2 : ∀ x ∈ st ++ [(some q1, m1), (some p1, l1)], RopeL R wr x.1 x.2 := by
              intro x hx
              rcases List.mem_append.1 hx with hx | hx
              · exact hall x (by simp [hx])
              · rcases List.mem_cons.1 hx with rfl | hx
                · exact hM
                · rcases List.mem_cons.1 hx with rfl | hx
                  · exact hL
                  · cases hx
            have hO : Only (· = 37) wr w' := ((Only.refl _ _).alloc _).drew.grown hgrow (by
              intro r hr
              simp only [Value.ownBlock, Option.some.injEq] at hr; subst hr
              exact ⟨_, _, _, (Below.heap_alloc _ _ _ (lt_of_heap Hheap.out)).trans Hheap.out, rfl⟩)
            have hBl : Below w.heap.size wr w' := ((Below.refl _ wr).alloc hB _).drew.grown hgrow (by simp; omega) (by intro k hk; simp only [Value.ownBlock, Option.some.injEq] at hk; omega)
            exact least_lt Hk0.out (p := fun k => StackAt w.heap.size R ls J k (.slice (some ⟨g', 0, none⟩) (m + 2) c') w') ⟨pre, st ++ [(some q1, m1), (some p1, l1)], m + 2, g', c', rfl, by simp [Hm.out],
              by simpa using hown', fun x hx => (hall2 x hx).keep fun _ _ _ _ hk => (hO.cell hk (by decide)).trans hk.symm, by
                have := HX.out
                rw [show st ++ [(some q1, m1), (some p1, l1)] = (st ++ [(some q1, m1)]) ++ [(some p1, l1)] by simp, todo_snoc, todo_snoc]
                simpa [todo_snoc] using this, hJ _ _ _ hJp ⟨hO, hBl⟩, rfl, Nat.le_trans hB hO.size, by omega⟩ hw1
end Go.Proofs.Ytenihlicjahjhaa

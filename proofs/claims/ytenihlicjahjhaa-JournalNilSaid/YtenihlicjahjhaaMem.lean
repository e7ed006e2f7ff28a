/-
  Mem: a part of the proofs about the given program: contracts of its functions, each with the conditions that stand ahead of its colon.
-/
import Derived.WalkKit
import Derived.WalkSmall
import Derived.RangeFuncNested
import Derived.Deep.RegionLaw
set_option linter.unusedVariables false
set_option linter.unusedSimpArgs false
namespace Go.Proofs.Ytenihlicjahjhaa
open Go Go.RowKit Go.Proofs

/-- From w to w' only rows of elements of types T have turned (and new blocks were laid). -/
structure Only (T : Nat → Prop) (w w' : World) : Prop where
  os : w'.os = w.os
  tape : w'.tape = w.tape
  output : w'.output = w.output
  size : w.heap.size ≤ w'.heap.size
  keep : ∀ (k : Nat) (o : Obj), w.heap[k]? = some o → (∀ c t f, o = .cells c t f → ¬ T t) → w'.heap[k]? = some o

/-- Rows of elements of types T lie as they lay. -/
structure KeepT (T : Nat → Prop) (w w' : World) : Prop where
  size : w.heap.size ≤ w'.heap.size
  keep : ∀ (k : Nat) (c : Array Value) (t : Nat) (f : Nat × Nat), w.heap[k]? = some (.cells c t f) → T t → w'.heap[k]? = some (.cells c t f)

theorem lt_of_heap {w : World} {k : Nat} {o : Obj} (h : w.heap[k]? = some o) : k < w.heap.size := (Array.getElem?_eq_some_iff.1 h).1

namespace Only
variable {T T' : Nat → Prop} {w w' w'' : World}
theorem refl (T : Nat → Prop) (w : World) : Only T w w := ⟨rfl, rfl, rfl, Nat.le_refl _, fun _ _ h _ => h⟩
theorem trans (h : Only T w w') (k : Only T w' w'') : Only T w w'' :=
  ⟨k.os.trans h.os, k.tape.trans h.tape, k.output.trans h.output, Nat.le_trans h.size k.size, fun i o hi ho => k.keep i o (h.keep i o hi ho) ho⟩
theorem mono (h : Only T w w') (hT : ∀ t, T t → T' t) : Only T' w w' :=
  ⟨h.os, h.tape, h.output, h.size, fun i o hi ho => h.keep i o hi (fun c t f e ht => ho c t f e (hT t ht))⟩
theorem alloc (h : Only T w w') (o : Obj) : Only T w (w'.alloc o) :=
  h.trans ⟨rfl, rfl, rfl, by simp, fun k o' hk _ => (Below.heap_alloc w' o k (lt_of_heap hk)).trans hk⟩
theorem drew (h : Only T w w') : Only T w w'.drew := ⟨h.os, h.tape, h.output, h.size, h.keep⟩
theorem setCell (h : Only T w w') {a : Addr} {c : Array Value} {t : Nat} {f : Nat × Nat} (ha : w'.heap[a.block]? = some (.cells c t f)) (ht : T t) (v : Value) : Only T w (w'.setCell a v) :=
  h.trans ⟨rfl, rfl, rfl, by simp [World.setCell], fun k o hk ho => by
    have : k ≠ a.block := by rintro rfl; rw [ha] at hk; cases hk; exact ho _ _ _ rfl ht
    exact (Below.heap_setCell w' a v k this).trans hk⟩
theorem grown (h : Only T w w') {row : Option Nat} (hg : w'.grownBy w'' row) (hr : ∀ r, row = some r → ∃ c t f, w'.heap[r]? = some (.cells c t f) ∧ T t) : Only T w w'' :=
  h.trans ⟨hg.os, hg.tape, hg.output, hg.size, fun k o hk ho => by
    refine (hg.block k (lt_of_heap hk) ?_).trans hk
    intro e
    obtain ⟨c, t, f, hc, ht⟩ := hr k e.symm
    rw [hk] at hc; cases hc; exact ho _ _ _ rfl ht⟩
theorem of_below (h : Below w.heap.size w w') : Only T w w' :=
  ⟨h.os, h.tape, h.output, h.size, fun k o hk _ => (h.block k (lt_of_heap hk)).trans hk⟩
theorem keepT (h : Only T w w') {S : Nat → Prop} (hd : ∀ t, S t → ¬ T t) : KeepT S w w' :=
  ⟨h.size, fun k c t f hk ht => h.keep k _ hk (fun _ _ _ e => by cases e; exact hd _ ht)⟩
theorem others (h : Only T w w') : KeepsOthers w w' := ⟨h.size, fun k o hk ho => h.keep k o hk (fun c t f e => by subst e; cases ho)⟩
theorem cell (h : Only T w w') {k : Nat} {c : Array Value} {t : Nat} {f : Nat × Nat} (hk : w.heap[k]? = some (.cells c t f)) (ht : ¬ T t) : w'.heap[k]? = some (.cells c t f) :=
  h.keep k _ hk (fun _ _ _ e => by cases e; exact ht)
end Only

namespace KeepT
variable {T : Nat → Prop} {w w' w'' : World}
theorem refl (T : Nat → Prop) (w : World) : KeepT T w w := ⟨Nat.le_refl _, fun _ _ _ _ h _ => h⟩
theorem trans (h : KeepT T w w') (k : KeepT T w' w'') : KeepT T w w'' :=
  ⟨Nat.le_trans h.size k.size, fun i c t f hi ht => k.keep i c t f (h.keep i c t f hi ht) ht⟩
theorem alloc (h : KeepT T w w') (o : Obj) : KeepT T w (w'.alloc o) :=
  h.trans ⟨by simp, fun k c t f hk _ => (Below.heap_alloc w' o k (lt_of_heap hk)).trans hk⟩
theorem drew (h : KeepT T w w') : KeepT T w w'.drew := ⟨h.size, h.keep⟩
theorem putObj (h : KeepT T w w') {l : Nat} {o : Obj} (o' : Obj) (hl : w'.heap[l]? = some o) (ho : o.isCells = false) : KeepT T w (w'.putObj l o') :=
  h.trans ⟨by simp, fun k c t f hk _ => by
    have : k ≠ l := by rintro rfl; rw [hl] at hk; cases hk; cases ho
    exact (World.putObj_heap_other this).trans hk⟩
end KeepT

/-- a row that the call owns lies as it lay under 'KeepT' -/
theorem ownsRow_keepT {T : Nat → Prop} {w w' : World} {base : Nat} {e : TypeId} {size : Nat} {v : Value} {n : Nat} {xs : List Value} (h : w.ownsRow base e size v n xs) (hk : KeepT T w w') (ht : T e) :
    w'.ownsRow base e size v n xs := by
  obtain ⟨h1, h2⟩ := h
  refine ⟨h1, ?_⟩
  rcases h2 with h2 | ⟨g, cap, cur, hv, hg, hh, r⟩
  · exact .inl h2
  · exact .inr ⟨g, cap, cur, hv, hg, hk.keep g _ _ _ hh ht, r⟩

theorem add_zero_add (b j : Nat) : (⟨b, 0, none⟩ : Addr).add j = ⟨b, j, none⟩ := by unfold Addr.add; split <;> simp_all

/-- the cells of a new row -/
theorem cells_new (w : World) (cs : Array Value) (t : Nat) : ∀ j u, cs.toList[j]? = some u → (w.alloc (.cells cs t)).cell? ((⟨w.heap.size, 0, none⟩ : Addr).add j) = some u := by
  intro j u h
  rw [add_zero_add]
  have : (w.alloc (.cells cs t)).heap[w.heap.size]? = some (.cells cs t) := World.alloc_heap_new w _
  simp only [World.cell?, this]
  simpa using h

theorem cells_new_drew (w : World) (cs : Array Value) (t : Nat) : ∀ j u, cs.toList[j]? = some u → (w.alloc (.cells cs t)).drew.cell? ((⟨w.heap.size, 0, none⟩ : Addr).add j) = some u := cells_new w cs t

/-- an owned row that holds an element lies in a block -/
theorem ownsRow_form {w : World} {base : Nat} {e : TypeId} {size : Nat} {v : Value} {n : Nat} {xs : List Value} (h : w.ownsRow base e size v n xs) (hn : 0 < n) : ∃ g c, v = .slice (some ⟨g, 0, none⟩) n c := by
  rcases h.2 with ⟨_, h0⟩ | ⟨g, cap, cur, hv, _⟩
  · omega
  · exact ⟨g, cap, hv⟩

/-- append onto a row that the call owns, as a step of a region that draws its order -/
theorem step_append_own {P : Program} {ops : Array Oper} {o : Oper} {a : Act} {w : World} {K : Act → World → Prop} {Q : Exit → Act → World → Prop} {E : Prop}
    (hg : o.guard = none) (s x : Operand) (t : TypeId) (hop : o.op = Op.call { callee := Callee.builtin Builtin.append, args := #[s, x], argTypes := #[t, t] })
    (base : Nat) (e : TypeId) (i : TypeInfo) (z : Value) (size bytes : Nat) (h1 : P.underlying t = some (.slice e)) (h2 : P.info? e = some i) (h3 : i.zero = some z) (h4 : i.size = size) (h5 : i.bytes = bytes) (h6 : z.cells.size = size) (h7 : 0 < size)
    (v : Value) (k : Nat) (xs : List Value) (hs : a.eval s = v) (hown : w.ownsRow base e size v k xs) (ad : Addr) (m c : Nat) (news : List Value) (hx : a.eval x = .slice (some ad) m c) (hn : news.length = m * size)
    (hc : ∀ j u, news[j]? = some u → w.cell? (ad.add j) = some u) (h1c : ∀ u ∈ news, u.oneCell' = true) (b1 : k + m ≤ maxLen) (b2 : (k + m) * bytes ≤ 140737488355328) (b3 : base ≤ w.heap.size) (hpos : 0 < k + m)
    (hK : ∀ g' c' w', w'.ownsRow base e size (.slice (some ⟨g', 0, none⟩) (k + m) c') (k + m) (xs ++ news) → w.grownBy w' v.ownBlock → K (a.put o.dst (.slice (some ⟨g', 0, none⟩) (k + m) c')) w') :
    if Region.wanted o (yielded ops a.tmps) = true then Oper.wp P o a w K Q else E := by
  have hw : Region.wanted o (yielded ops a.tmps) = true := by simp [Region.wanted, hg]
  rw [if_pos hw]
  obtain ⟨v', w', hrun, r1, r2, _⟩ := run_append_own (P := P) w base t o.type e i z size bytes h1 h2 h3 h4 h5 h6 h7 v k xs hown ad m c news hn hc h1c b1 b2 b3
  obtain ⟨g', c', rfl⟩ := ownsRow_form r1 hpos
  unfold Oper.wp
  simp [execOp, hop, resolve, invoke, builtin, hs, hx, hrun, Result.andThen]
  exact hK _ _ _ r1 r2

theorem ownsRow_row {w : World} {base : Nat} {e : TypeId} {size : Nat} {v : Value} {n : Nat} {xs : List Value} (h : w.ownsRow base e size v n xs) :
    ∀ r, v.ownBlock = some r → ∃ c f, w.heap[r]? = some (.cells c e f) := by
  intro r hr
  rcases h.2 with ⟨rfl, _⟩ | ⟨g, cap, cur, rfl, _, hh, _⟩
  · simp [Value.ownBlock] at hr
  · simp [Value.ownBlock] at hr; subst hr; exact ⟨_, _, hh⟩
end Go.Proofs.Ytenihlicjahjhaa

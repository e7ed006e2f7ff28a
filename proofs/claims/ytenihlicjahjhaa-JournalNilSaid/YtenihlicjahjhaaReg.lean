/-
  Reg: a part of the proofs about the given program: contracts of its functions, each with the conditions that stand ahead of its colon.
-/
import Derived.OrdersHeld
import Derived.Tactics2
import Derived.WalkKit
import Derived.KernelRfl
/-! A region that draws its order, walked in ONE order of the prover's choice. -/
set_option linter.unusedVariables false
set_option linter.unusedSimpArgs false
namespace Go.Proofs.Ytenihlicjahjhaa
open Go

variable {P : Program} {ops : Array Oper} {Q : Exit → Act → World → Prop} {md : Region.Mode} {S : World → Prop} {G : Nat → Bool}

/-- As 'wpAny'; behind an operation that is in G the fact S is shown anew. -/
def wpAnyG (P : Program) (md : Region.Mode) (ops : Array Oper) (Q : Exit → Act → World → Prop) (S : World → Prop) (G : Nat → Bool) : Nat → Array Bool → Act → World → Prop
  | 0, listed, a, w => Region.ready md ops listed = [] ∧ Q .normal a w
  | fuel + 1, listed, a, w =>
    (Region.ready md ops listed = [] → Q .normal a w) ∧
    ∀ i ∈ Region.ready md ops listed, wpOp P ops Q i (fun a' w' => (G i = true → S w') ∧ wpAnyG P md ops Q S G fuel (listed.setIfInBounds i true) a' w') a w

theorem wpAny_of_G : ∀ (fuel : Nat) (listed : Array Bool) (a : Act) (w : World), wpAnyG P md ops Q S G fuel listed a w → wpAny P md ops Q fuel listed a w
  | 0, _, _, _, h => h
  | fuel + 1, _, _, _, h => ⟨h.1, fun i hi => wpOp_mono (fun a' w' h' => wpAny_of_G fuel _ a' w' h'.2) (h.2 i hi)⟩

/-- no operation of G is still to come -/
def dropOk (ops : Array Oper) (G : Nat → Bool) (listed : Array Bool) : Bool := (List.range ops.size).all fun j => listed.getD j true || !G j

theorem ready_unlisted {i : Nat} {listed : Array Bool} (h : i ∈ Region.ready md ops listed) : i < ops.size ∧ listed.getD i true = false := by
  simp only [Region.ready, List.mem_filter, List.mem_range, Bool.and_eq_true, Bool.not_eq_true'] at h
  exact ⟨h.1, h.2.1⟩

theorem wpAnyG_of_any : ∀ (fuel : Nat) (listed : Array Bool) (a : Act) (w : World), dropOk ops G listed = true → wpAny P md ops Q fuel listed a w → wpAnyG P md ops Q S G fuel listed a w
  | 0, _, _, _, _, h => h
  | fuel + 1, listed, _, _, hd, h => ⟨h.1, fun i hi => by
      have hi' := ready_unlisted hi
      have hg : G i = false := by
        have := List.all_eq_true.1 hd i (List.mem_range.2 hi'.1)
        simpa [hi'.2] using this
      refine wpOp_mono (fun a' w' h' => ⟨fun hG => (by rw [hg] at hG; cases hG), wpAnyG_of_any fuel _ a' w' ?_ h'⟩) (h.2 i hi)
      refine List.all_eq_true.2 fun j hj => ?_
      have := List.all_eq_true.1 hd j hj
      simp only [Bool.or_eq_true] at this ⊢
      exact this.imp (fun h => getD_set_true' h) id⟩
where
  getD_set_true' {listed : Array Bool} {i j : Nat} (h : listed.getD j true = true) : (listed.setIfInBounds i true).getD j true = true := by
    simp only [Array.getD_eq_getD_getElem?, Array.getElem?_setIfInBounds] at *
    split
    · split <;> simp
    · exact h

/-- j waits for i, through others too -/
def waitsT (md : Region.Mode) (ops : Array Oper) (i : Nat) : Nat → Nat → Bool
  | 0, _ => false
  | n + 1, j => match ops[j]? with
    | none => false
    | some oj => oj.after.toList.any fun e => Region.binds md e && (e.on == i || waitsT md ops i n e.on)

/-- whatever has come up, all that it waits for has come up -/
def closedB (md : Region.Mode) (ops : Array Oper) (listed : Array Bool) : Bool :=
  (List.range ops.size).all fun k => !listed.getD k false || match ops[k]? with
    | none => true
    | some ok => ok.after.toList.all fun e => !Region.binds md e || listed.getD e.on false

theorem closed_spec {listed : Array Bool} (h : closedB md ops listed = true) {k : Nat} {ok : Oper} (hk : ops[k]? = some ok) (hl : listed.getD k false = true) :
    ∀ e ∈ ok.after, Region.binds md e = true → listed.getD e.on false = true := by
  intro e he hb
  have := List.all_eq_true.1 h k (List.mem_range.2 (Array.getElem?_eq_some_iff.1 hk).1)
  simp only [hl, hk, Bool.not_true, Bool.false_or] at this
  have := List.all_eq_true.1 this e (by simpa using he)
  simpa [hb] using this

theorem closed_set {listed : Array Bool} {i : Nat} (h : closedB md ops listed = true) (hi : i ∈ Region.ready md ops listed) : closedB md ops (listed.setIfInBounds i true) = true := by
  refine List.all_eq_true.2 fun k hk => ?_
  cases hok : ops[k]? with
  | none => simp
  | some ok =>
    simp only [Bool.or_eq_true, Bool.not_eq_true']
    by_cases hl : (listed.setIfInBounds i true).getD k false = true
    · right
      refine List.all_eq_true.2 fun e he => ?_
      simp only [Bool.or_eq_true, Bool.not_eq_true']
      by_cases hb : Region.binds md e = true
      · right
        refine getD_set_true ?_
        by_cases hki : k = i
        · subst hki
          simp only [Region.ready, List.mem_filter, hok, Option.map_some, Option.getD_some, Bool.and_eq_true] at hi
          have := Array.all_eq_true'.1 hi.2.2 e (by simpa using he)
          simpa [hb] using this
        · rw [getD_set_ne _ (fun e => hki e.symm)] at hl
          exact closed_spec h hok hl e (by simpa using he) hb
      · left; simpa using hb
    · left; simpa using hl

theorem waitsT_listed {listed : Array Bool} {i : Nat} (h : closedB md ops listed = true) : ∀ (n k : Nat), waitsT md ops i n k = true → listed.getD k false = true → listed.getD i false = true
  | 0, _, hw, _ => by simp [waitsT] at hw
  | n + 1, k, hw, hl => by
    unfold waitsT at hw
    split at hw
    · cases hw
    · rename_i ok hok
      obtain ⟨e, he, hb⟩ := List.any_eq_true.1 hw
      simp only [Bool.and_eq_true, Bool.or_eq_true, beq_iff_eq] at hb
      have h1 := closed_spec h hok hl e (by simpa using he) hb.1
      rcases hb.2 with rfl | h2
      · exact h1
      · exact waitsT_listed h n _ h2 h1

theorem waitsT_not_ready {listed : Array Bool} {i j : Nat} (h : closedB md ops listed = true) (n : Nat) (hw : waitsT md ops i n j = true) (hj : j ∈ Region.ready md ops listed) : listed.getD i false = true := by
  cases n with
  | zero => simp [waitsT] at hw
  | succ n =>
    unfold waitsT at hw
    split at hw
    · cases hw
    · rename_i oj hoj
      obtain ⟨e, he, hb⟩ := List.any_eq_true.1 hw
      simp only [Bool.and_eq_true, Bool.or_eq_true, beq_iff_eq] at hb
      have h1 : listed.getD e.on false = true := by
        simp only [Region.ready, List.mem_filter, hoj, Option.map_some, Option.getD_some, Bool.and_eq_true] at hj
        have := Array.all_eq_true'.1 hj.2.2 e (by simpa using he)
        simpa [hb.1] using this
      rcases hb.2 with rfl | h2
      · exact h1
      · exact waitsT_listed h n _ h2 h1

/-- may i be taken first? pure: it looks at no memory -/
def takeOk (md : Region.Mode) (ops : Array Oper) (G : Nat → Bool) (pure : Bool) (listed : Array Bool) (i : Nat) : Bool :=
  Region.noSelect ops && closedB md ops listed && (Region.ready md ops listed).contains i &&
  match ops[i]? with
  | none => false
  | some oi => (List.range ops.size).all fun j => j == i || listed.getD j true || waitsT md ops i ops.size j || match ops[j]? with
      | some oj => oi.apart ops oj && (pure && !G i || G j)
      | none => true

theorem wpOp_none {i : Nat} {K : Act → World → Prop} {a : Act} {w : World} (h : ops[i]? = none) (hK : K a w) : wpOp P ops Q i K a w := by unfold wpOp; simp only [h]; exact hK

theorem wpAnyG_first {i : Nat} {oi : Oper} {v : Value} (hi : ops[i]? = some oi) (hsel : ∀ (j : Nat) (o : Oper) cs b, ops[j]? = some o → o.op ≠ .select cs b)
    (hQ : ∀ c a w, Q (.panic c) (a.put oi.dst v) w → Q (.panic c) a w) {T : World → Prop} :
    ∀ (fuel : Nat) (listed : Array Bool) (a : Act) (w : World), closedB md ops listed = true → i ∈ Region.ready md ops listed →
      (∀ j oj, ops[j]? = some oj → j ≠ i → listed.getD j true = false → waitsT md ops i ops.size j = true ∨ (oi.apart ops oj = true ∧ (((∀ W, T W) ∧ G i = false) ∨ (G j = true ∧ ∀ W, S W → T W)))) →
      YieldsIf P ops T oi v a → T w → (G i = true → S w) →
      wpAnyG P md ops Q S G fuel (listed.setIfInBounds i true) (a.put oi.dst v) w → wpAnyG P md ops Q S G (fuel + 1) listed a w := by
  intro fuel
  induction fuel with
  | zero =>
    intro listed a w hc hr hap hy hT hS h
    refine ⟨fun h0 => (by rw [h0] at hr; cases hr), fun j hj => ?_⟩
    by_cases hji : j = i
    · subst hji
      exact hy.wpOp hi hT ⟨hS, h⟩
    · have hu := ready_unlisted hj
      have := ready_mono (md := md) (ops := ops) (i := i) hj hji
      rw [h.1] at this; cases this
  | succ fuel ih =>
    intro listed a w hc hr hap hy hT hS h
    refine ⟨fun h0 => (by rw [h0] at hr; cases hr), fun j hj => ?_⟩
    by_cases hji : j = i
    · subst hji
      exact hy.wpOp hi hT ⟨hS, h⟩
    · have hu := ready_unlisted hj
      obtain ⟨oj, hoj⟩ : ∃ oj, ops[j]? = some oj := ⟨_, Array.getElem?_eq_getElem hu.1⟩
      have hnot : listed.getD i false = false := by
        have := (ready_unlisted hr).2
        simp only [Array.getD_eq_getD_getElem?] at this ⊢
        cases hh : listed[i]? with
        | none => simp
        | some b => simpa [hh] using this
      rcases hap j oj hoj hji hu.2 with hw | ⟨hap1, hT1⟩
      · have := waitsT_not_ready hc _ hw hj
        rw [hnot] at this; cases this
      · have hj' := ready_mono (md := md) (ops := ops) (i := i) hj hji
        have h2 := h.2 j hj'
        have h3 := wpOp_putIf hoj hap1 (fun cs b => hsel i oi cs b hi) (fun cs b => hsel j oj cs b hoj) hQ hy h2
        have hap' : ∀ k ok, ops[k]? = some ok → k ≠ i → (listed.setIfInBounds j true).getD k true = false → waitsT md ops i ops.size k = true ∨ (oi.apart ops ok = true ∧ (((∀ W, T W) ∧ G i = false) ∨ (G k = true ∧ ∀ W, S W → T W))) := fun k ok hk hki hun => by
          refine hap k ok hk hki ?_
          by_cases hjk : j = k
          · subst hjk; exact hu.2
          · rw [getD_set_ne true hjk] at hun; exact hun
        refine wpOp_mono (fun a' w' h4 => ⟨h4.2.1, ih (listed.setIfInBounds j true) a' w' (closed_set hc hj) (ready_mono hr (Ne.symm hji)) hap' h4.1 ?_ ?_ ?_⟩) h3
        · rcases hT1 with hT1 | ⟨hG, hST⟩
          · exact hT1.1 _
          · exact hST _ (h4.2.1 hG)
        · intro hGi
          rcases hT1 with hT1 | ⟨hG, _⟩
          · rw [hT1.2] at hGi; cases hGi
          · exact h4.2.1 hG
        · rw [Array.setIfInBounds_comm _ _ hji]
          exact h4.2.2

/-- **Number i is taken first: it looks at no memory.** -/
theorem takeP {i : Nat} {oi : Oper} {v : Value} {fuel : Nat} {listed : Array Bool} {a : Act} {w : World} (hi : ops[i]? = some oi) (hok : takeOk md ops G true listed i = true)
    (hQ : ∀ c a w, Q (.panic c) (a.put oi.dst v) w → Q (.panic c) a w) (hS : G i = true → S w) (hy : Yields P ops oi v a)
    (h : wpAnyG P md ops Q S G fuel (listed.setIfInBounds i true) (a.put oi.dst v) w) : wpAnyG P md ops Q S G (fuel + 1) listed a w := by
  simp only [takeOk, hi, Bool.and_eq_true] at hok
  obtain ⟨⟨⟨h1, h2⟩, h3⟩, h4⟩ := hok
  refine wpAnyG_first hi (Region.noSelect_spec h1) hQ (T := fun _ => True) fuel listed a w h2 (by simpa using h3) ?_ hy.yieldsIf trivial hS h
  intro j oj hj hne hun
  have := List.all_eq_true.1 h4 j (List.mem_range.2 (Array.getElem?_eq_some_iff.1 hj).1)
  simp only [hj, hun, Bool.or_eq_true, beq_iff_eq, hne, Bool.false_eq_true, false_or, Bool.and_eq_true, Bool.true_and, Bool.not_eq_true'] at this
  rcases this with h | ⟨h, h'⟩
  · exact .inl h
  · exact .inr ⟨h, h'.imp (fun h => ⟨fun _ => trivial, h⟩) (fun h => ⟨h, fun _ _ => trivial⟩)⟩

/-- **Number i is taken first: it reads what S tells.** -/
theorem takeR {i : Nat} {oi : Oper} {v : Value} {fuel : Nat} {listed : Array Bool} {a : Act} {w : World} (hi : ops[i]? = some oi) (hok : takeOk md ops G false listed i = true)
    (hQ : ∀ c a w, Q (.panic c) (a.put oi.dst v) w → Q (.panic c) a w) (hS : S w) (hy : YieldsIf P ops S oi v a)
    (h : wpAnyG P md ops Q S G fuel (listed.setIfInBounds i true) (a.put oi.dst v) w) : wpAnyG P md ops Q S G (fuel + 1) listed a w := by
  simp only [takeOk, hi, Bool.and_eq_true] at hok
  obtain ⟨⟨⟨h1, h2⟩, h3⟩, h4⟩ := hok
  refine wpAnyG_first hi (Region.noSelect_spec h1) hQ (T := S) fuel listed a w h2 (by simpa using h3) ?_ hy hS (fun _ => hS) h
  intro j oj hj hne hun
  have := List.all_eq_true.1 h4 j (List.mem_range.2 (Array.getElem?_eq_some_iff.1 hj).1)
  simp only [hj, hun, Bool.or_eq_true, beq_iff_eq, hne, Bool.false_eq_true, false_or, Bool.and_eq_true, Bool.false_and] at this
  rcases this with h | ⟨h, h'⟩
  · exact .inl h
  · exact .inr ⟨h, .inr ⟨h', fun _ h => h⟩⟩

/-- **Number i alone may come up.** -/
theorem takeE {i : Nat} {oi : Oper} {fuel : Nat} {listed : Array Bool} {a : Act} {w : World} (hi : ops[i]? = some oi) (hr : Region.ready md ops listed = [i])
    (h : ∀ K : Act → World → Prop, (∀ a' w', (G i = true → S w') → wpAnyG P md ops Q S G fuel (listed.setIfInBounds i true) a' w' → K a' w') →
      if Region.wanted oi (yielded ops a.tmps) = true then Oper.wp P oi a w K Q else K (a.put oi.dst undef) w) :
    wpAnyG P md ops Q S G (fuel + 1) listed a w := by
  refine ⟨fun h0 => (by rw [h0] at hr; cases hr), fun j hj => ?_⟩
  rw [hr] at hj
  obtain rfl : j = i := by simpa using hj
  unfold wpOp
  simp only [hi]
  have h' := h (fun a' w' => (G j = true → S w') ∧ wpAnyG P md ops Q S G fuel (listed.setIfInBounds j true) a' w') (fun _ _ h1 h2 => ⟨h1, h2⟩)
  split
  · rename_i hw; rw [if_pos hw] at h'; exact .inl h'
  · rename_i hw; rw [if_neg hw] at h'; exact h'

theorem takeDone {listed : Array Bool} {a : Act} {w : World} (hr : Region.ready md ops listed = []) (h : Q .normal a w) : ∀ fuel, wpAnyG P md ops Q S G fuel listed a w
  | 0 => ⟨hr, h⟩
  | _ + 1 => ⟨fun _ => h, by rw [hr]; simp⟩

theorem region_open {id : Nat} {a : Act} {w : World} (S : World → Prop) (G : Nat → Bool) (hm : P.follows .mixedOrders = true)
    (h : wpAnyG P .any ops Q S G ops.size (Array.replicate ops.size false) a w.drew) : (Code.region id ops true).wp P Q a w :=
  wp_region_any hm (wpAny_of_G _ _ _ _ h)

/-- another fact from here on -/
theorem region_turn {fuel : Nat} {listed : Array Bool} {a : Act} {w : World} (S' : World → Prop) (G' : Nat → Bool) (hd : dropOk ops G listed = true)
    (h : wpAnyG P md ops Q S' G' fuel listed a w) : wpAnyG P md ops Q S G fuel listed a w :=
  wpAnyG_of_any _ _ _ _ hd (wpAny_of_G _ _ _ _ h)

theorem region_open' {id : Nat} {a : Act} {w : World} (G : Nat → Bool) (hm : P.follows .mixedOrders = true)
    (h : wpAnyG P .any ops Q (fun W => W.heap = w.heap) G ops.size (Array.replicate ops.size false) a w.drew) : (Code.region id ops true).wp P Q a w := region_open _ G hm h

theorem region_turn' {fuel : Nat} {listed : Array Bool} {a : Act} {w : World} (G' : Nat → Bool) (hd : dropOk ops G listed = true)
    (h : wpAnyG P md ops Q (fun W => W.heap = w.heap) G' fuel listed a w) : wpAnyG P md ops Q S G fuel listed a w := region_turn _ G' hd h

theorem cell_of_same {W w : World} (h : W.heap = w.heap) (a : Addr) : W.cell? a = w.cell? a := by simp [World.cell?, h]

theorem put_lit (l : List Value) (ds : List Deferred) (n : Nat) (v : Value) : (⟨l.toArray, ds⟩ : Act).put (some n) v = ⟨(l.set n v).toArray, ds⟩ := by simp [Act.put]
theorem put_none (a : Act) (v : Value) : a.put none v = a := rfl

/-! the same three over a list that is written out -/
section
variable {l : List Oper}
theorem tP {i : Nat} {oi : Oper} {v : Value} {fuel : Nat} {listed : Array Bool} {a : Act} {w : World} (hi : l[i]? = some oi) (hok : takeOk md l.toArray G true listed i = true)
    (hQ : ∀ c a w, Q (.panic c) (a.put oi.dst v) w → Q (.panic c) a w) (hS : G i = true → S w) (hw : Region.wanted oi (yielded l.toArray a.tmps) = true) (hy : ∀ W, (execOp a.eval oi).run P W = .ok (.value v) W)
    (h : wpAnyG P md l.toArray Q S G fuel (listed.setIfInBounds i true) (a.put oi.dst v) w) : wpAnyG P md l.toArray Q S G (fuel + 1) listed a w :=
  takeP (by simpa using hi) hok hQ hS (.inl ⟨hw, hy⟩) h
theorem tN {i : Nat} {oi : Oper} {fuel : Nat} {listed : Array Bool} {a : Act} {w : World} (hi : l[i]? = some oi) (hok : takeOk md l.toArray G true listed i = true)
    (hQ : ∀ c a w, Q (.panic c) (a.put oi.dst undef) w → Q (.panic c) a w) (hS : G i = true → S w) (hw : Region.wanted oi (yielded l.toArray a.tmps) = false)
    (h : wpAnyG P md l.toArray Q S G fuel (listed.setIfInBounds i true) (a.put oi.dst undef) w) : wpAnyG P md l.toArray Q S G (fuel + 1) listed a w :=
  takeP (by simpa using hi) hok hQ hS (.inr ⟨hw, rfl⟩) h
theorem tR {i : Nat} {oi : Oper} {v : Value} {fuel : Nat} {listed : Array Bool} {a : Act} {w : World} (hi : l[i]? = some oi) (hok : takeOk md l.toArray G false listed i = true)
    (hQ : ∀ c a w, Q (.panic c) (a.put oi.dst v) w → Q (.panic c) a w) (hS : S w) (hw : Region.wanted oi (yielded l.toArray a.tmps) = true) (hy : ∀ W, S W → (execOp a.eval oi).run P W = .ok (.value v) W)
    (h : wpAnyG P md l.toArray Q S G fuel (listed.setIfInBounds i true) (a.put oi.dst v) w) : wpAnyG P md l.toArray Q S G (fuel + 1) listed a w :=
  takeR (by simpa using hi) hok hQ hS (.inl ⟨hw, hy⟩) h
theorem tE {i : Nat} {oi : Oper} {fuel : Nat} {listed : Array Bool} {a : Act} {w : World} (hi : l[i]? = some oi) (hr : Region.ready md l.toArray listed = [i])
    (h : ∀ K : Act → World → Prop, (∀ a' w', (G i = true → S w') → wpAnyG P md l.toArray Q S G fuel (listed.setIfInBounds i true) a' w' → K a' w') →
      if Region.wanted oi (yielded l.toArray a.tmps) = true then Oper.wp P oi a w K Q else K (a.put oi.dst undef) w) :
    wpAnyG P md l.toArray Q S G (fuel + 1) listed a w := takeE (by simpa using hi) hr h
end
end Go.Proofs.Ytenihlicjahjhaa

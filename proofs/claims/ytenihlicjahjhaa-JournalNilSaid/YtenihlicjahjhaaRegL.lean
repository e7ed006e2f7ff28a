/-
  RegL: a region that draws its order, walked in one order; each read has a fact of its own, which holds till an effect that waits for the read.
-/
import Derived.Test.YtenihlicjahjhaaRegIn
set_option linter.unusedVariables false
set_option linter.unusedSimpArgs false
namespace Go.Proofs.Ytenihlicjahjhaa
open Go

variable {P : Program} {ops : Array Oper} {Q : Exit → Act → World → Prop} {md : Region.Mode} {S : Nat → World → Prop} {kill : Nat → List Nat}

/-- the facts, by the reads' numbers -/
def Sfam : List (Nat × (World → Prop)) → Nat → World → Prop
  | [], _, _ => True
  | (k', p) :: r, k, W => if k = k' then p W else Sfam r k W

def killOf (l : List (Nat × List Nat)) (i : Nat) : List Nat := (l.lookup i).getD []

def cutL (kill : Nat → List Nat) (live : List Nat) (i : Nat) : List Nat := live.filter fun k => !(kill i).contains k

def AllS (S : Nat → World → Prop) : List Nat → World → Prop
  | [], _ => True
  | k :: r, w => S k w ∧ AllS S r w

theorem AllS.mem {S : Nat → World → Prop} : ∀ {l : List Nat} {w : World}, AllS S l w → ∀ k ∈ l, S k w
  | _ :: _, _, h, k, hk => by
    rcases List.mem_cons.1 hk with rfl | hk
    · exact h.1
    · exact h.2.mem k hk

theorem cutL_nil {i : Nat} (h : kill i = []) (live : List Nat) : cutL kill live i = live := by simp [cutL, h]
theorem mem_cutL {i j : Nat} {live : List Nat} (h : i ∈ live) (hk : (kill j).contains i = false) : i ∈ cutL kill live j := List.mem_filter.2 ⟨h, by rw [hk]; rfl⟩

/-- As 'wpAny'; behind each operation the facts of the reads that it does not end are shown anew. -/
def wpAnyL (P : Program) (md : Region.Mode) (ops : Array Oper) (Q : Exit → Act → World → Prop) (S : Nat → World → Prop) (kill : Nat → List Nat) : Nat → List Nat → Array Bool → Act → World → Prop
  | 0, _, listed, a, w => Region.ready md ops listed = [] ∧ Q .normal a w
  | fuel + 1, live, listed, a, w =>
    (Region.ready md ops listed = [] → Q .normal a w) ∧
    ∀ i ∈ Region.ready md ops listed, wpOp P ops Q i (fun a' w' => AllS S (cutL kill live i) w' ∧ wpAnyL P md ops Q S kill fuel (cutL kill live i) (listed.setIfInBounds i true) a' w') a w

theorem wpAny_of_L : ∀ (fuel : Nat) (live : List Nat) (listed : Array Bool) (a : Act) (w : World), wpAnyL P md ops Q S kill fuel live listed a w → wpAny P md ops Q fuel listed a w
  | 0, _, _, _, _, h => h
  | fuel + 1, _, _, _, _, h => ⟨h.1, fun i hi => wpOp_mono (fun a' w' h' => wpAny_of_L fuel _ _ a' w' h'.2) (h.2 i hi)⟩

theorem wpAnyL_first {i : Nat} {oi : Oper} {v : Value} (hi : ops[i]? = some oi) (hsel : ∀ (j : Nat) (o : Oper) cs b, ops[j]? = some o → o.op ≠ .select cs b)
    (hQ : ∀ c a w, Q (.panic c) (a.put oi.dst v) w → Q (.panic c) a w) (hk : kill i = []) {T : World → Prop} :
    ∀ (fuel : Nat) (live : List Nat) (listed : Array Bool) (a : Act) (w : World), closedB md ops listed = true → i ∈ Region.ready md ops listed →
      (∀ j oj, ops[j]? = some oj → j ≠ i → listed.getD j true = false → waitsT md ops i ops.size j = true ∨ (oi.apart ops oj = true ∧ ((∀ W, T W) ∨ (kill j).contains i = false))) →
      ((∀ W, T W) ∨ (i ∈ live ∧ ∀ W, S i W → T W)) →
      YieldsIf P ops T oi v a → T w → AllS S live w →
      wpAnyL P md ops Q S kill fuel live (listed.setIfInBounds i true) (a.put oi.dst v) w → wpAnyL P md ops Q S kill (fuel + 1) live listed a w := by
  intro fuel
  induction fuel with
  | zero =>
    intro live listed a w hc hr hap hl hy hT hS h
    refine ⟨fun h0 => (by rw [h0] at hr; cases hr), fun j hj => ?_⟩
    by_cases hji : j = i
    · subst hji
      exact hy.wpOp hi hT ⟨by rw [cutL_nil hk]; exact hS, by rw [cutL_nil hk]; exact h⟩
    · have hu := ready_unlisted hj
      have := ready_mono (md := md) (ops := ops) (i := i) hj hji
      rw [h.1] at this; cases this
  | succ fuel ih =>
    intro live listed a w hc hr hap hl hy hT hS h
    refine ⟨fun h0 => (by rw [h0] at hr; cases hr), fun j hj => ?_⟩
    by_cases hji : j = i
    · subst hji
      exact hy.wpOp hi hT ⟨by rw [cutL_nil hk]; exact hS, by rw [cutL_nil hk]; exact h⟩
    · have hu := ready_unlisted hj
      obtain ⟨oj, hoj⟩ : ∃ oj, ops[j]? = some oj := ⟨_, Array.getElem?_eq_getElem hu.1⟩
      have hnot : listed.getD i false = false := by
        have := (ready_unlisted hr).2
        simp only [Array.getD_eq_getD_getElem?] at this ⊢
        cases hh : listed[i]? with
        | none => simp
        | some b => simpa [hh] using this
      rcases hap j oj hoj hji hu.2 with hw | ⟨hap1, hT1⟩
      · have := waitsT_not_ready hc _ hw hj
        rw [hnot] at this; cases this
      · have hj' := ready_mono (md := md) (ops := ops) (i := i) hj hji
        have h2 := h.2 j hj'
        have h3 := wpOp_putIf hoj hap1 (fun cs b => hsel i oi cs b hi) (fun cs b => hsel j oj cs b hoj) hQ hy h2
        have hap' : ∀ k ok, ops[k]? = some ok → k ≠ i → (listed.setIfInBounds j true).getD k true = false → waitsT md ops i ops.size k = true ∨ (oi.apart ops ok = true ∧ ((∀ W, T W) ∨ (kill k).contains i = false)) := fun k ok hk hki hun => by
          refine hap k ok hk hki ?_
          by_cases hjk : j = k
          · subst hjk; exact hu.2
          · rw [getD_set_ne true hjk] at hun; exact hun
        refine wpOp_mono (fun a' w' h4 => ⟨h4.2.1, ih (cutL kill live j) (listed.setIfInBounds j true) a' w' (closed_set hc hj) (ready_mono hr (Ne.symm hji)) hap' ?_ h4.1 ?_ h4.2.1 ?_⟩) h3
        · rcases hl with hl | ⟨hl, hST⟩
          · exact .inl hl
          · rcases hT1 with hT1 | hT1
            · exact .inl hT1
            · exact .inr ⟨mem_cutL hl hT1, hST⟩
        · rcases hl with hl | ⟨hl, hST⟩
          · exact hl _
          · rcases hT1 with hT1 | hT1
            · exact hT1 _
            · exact hST _ (h4.2.1.mem _ (mem_cutL hl hT1))
        · rw [Array.setIfInBounds_comm _ _ hji]
          exact h4.2.2

/-- may i be taken first? pure: it looks at no memory -/
def takeOkL (md : Region.Mode) (ops : Array Oper) (kill : Nat → List Nat) (pure : Bool) (live : List Nat) (listed : Array Bool) (i : Nat) : Bool :=
  Region.noSelect ops && closedB md ops listed && (Region.ready md ops listed).contains i && (kill i).isEmpty && (pure || live.contains i) &&
  match ops[i]? with
  | none => false
  | some oi => (List.range ops.size).all fun j => j == i || listed.getD j true || waitsT md ops i ops.size j || match ops[j]? with
      | some oj => oi.apart ops oj && (pure || !(kill j).contains i)
      | none => true

/-- the facts, and what is still to come -/
def wpL (P : Program) (md : Region.Mode) (ops : Array Oper) (Q : Exit → Act → World → Prop) (S : Nat → World → Prop) (kill : Nat → List Nat) (fuel : Nat) (live : List Nat) (listed : Array Bool) (a : Act) (w : World) : Prop :=
  AllS S live w ∧ wpAnyL P md ops Q S kill fuel live listed a w

theorem takeL {i : Nat} {oi : Oper} {v : Value} {fuel : Nat} {live : List Nat} {listed : Array Bool} {a : Act} {w : World} {pure : Bool} (hi : ops[i]? = some oi) (hok : takeOkL md ops kill pure live listed i = true)
    (hQ : ∀ c a w, Q (.panic c) (a.put oi.dst v) w → Q (.panic c) a w) (hy : YieldsIf P ops (fun W => pure = false → S i W) oi v a)
    (h : wpL P md ops Q S kill fuel live (listed.setIfInBounds i true) (a.put oi.dst v) w) : wpL P md ops Q S kill (fuel + 1) live listed a w := by
  simp only [takeOkL, hi, Bool.and_eq_true] at hok
  obtain ⟨⟨⟨⟨⟨h1, h2⟩, h3⟩, h5⟩, h6⟩, h4⟩ := hok
  refine ⟨h.1, wpAnyL_first hi (Region.noSelect_spec h1) hQ (by simpa using h5) (T := fun W => pure = false → S i W) fuel live listed a w h2 (by simpa using h3) ?_ ?_ hy ?_ h.1 h.2⟩
  · intro j oj hj hne hun
    have := List.all_eq_true.1 h4 j (List.mem_range.2 (Array.getElem?_eq_some_iff.1 hj).1)
    simp only [hj, hun, Bool.or_eq_true, beq_iff_eq, hne, Bool.false_eq_true, false_or, Bool.and_eq_true, Bool.not_eq_true'] at this
    rcases this with h | ⟨h, h'⟩
    · exact .inl h
    · refine .inr ⟨h, ?_⟩
      rcases h' with h' | h'
      · exact .inl fun W e => by rw [h'] at e; cases e
      · exact .inr h'
  · cases pure with
    | true => exact .inl fun W e => by cases e
    | false => exact .inr ⟨by simpa using h6, fun W hW _ => hW⟩
  · intro e
    subst e
    exact h.1.mem _ (by simpa using h6)

theorem takeLE {i : Nat} {oi : Oper} {fuel : Nat} {live live' : List Nat} {listed : Array Bool} {a : Act} {w : World} (hi : ops[i]? = some oi) (hr : Region.ready md ops listed = [i]) (hc : cutL kill live i = live') (hS : AllS S live w)
    (h : ∀ K : Act → World → Prop, (∀ a' w', wpL P md ops Q S kill fuel live' (listed.setIfInBounds i true) a' w' → K a' w') →
      if Region.wanted oi (yielded ops a.tmps) = true then Oper.wp P oi a w K Q else K (a.put oi.dst undef) w) :
    wpL P md ops Q S kill (fuel + 1) live listed a w := by
  refine ⟨hS, fun h0 => (by rw [h0] at hr; cases hr), fun j hj => ?_⟩
  rw [hr] at hj
  obtain rfl : j = i := by simpa using hj
  unfold wpOp
  simp only [hi, hc]
  have h' := h (fun a' w' => AllS S live' w' ∧ wpAnyL P md ops Q S kill fuel live' (listed.setIfInBounds j true) a' w') (fun _ _ h1 => h1)
  split
  · rename_i hw; rw [if_pos hw] at h'; exact .inl h'
  · rename_i hw; rw [if_neg hw] at h'; exact h'

theorem lDone {live : List Nat} {listed : Array Bool} {a : Act} {w : World} (hr : Region.ready md ops listed = []) (hS : AllS S live w) (h : Q .normal a w) : ∀ fuel, wpL P md ops Q S kill fuel live listed a w
  | 0 => ⟨hS, hr, h⟩
  | _ + 1 => ⟨hS, fun _ => h, by rw [hr]; simp⟩

theorem lOpen {id : Nat} {a : Act} {w : World} (S : List (Nat × (World → Prop))) (kill : List (Nat × List Nat)) (live : List Nat) (hm : P.follows .mixedOrders = true)
    (h : wpL P .any ops Q (Sfam S) (killOf kill) ops.size live (Array.replicate ops.size false) a w.drew) : (Code.region id ops true).wp P Q a w :=
  wp_region_any hm (wpAny_of_L _ _ _ _ _ h.2)

theorem lOpenIn {F : Fence} {n : Nat} {id : Nat} {a : Act} {w : World} (S : List (Nat × (World → Prop))) (kill : List (Nat × List Nat)) (live : List Nat) (hm : P.follows .mixedOrders = true) (hp : (ops.all fun o => plainB o.op) = true) (hQ : ¬ LetsOut Q)
    (h : wpL P .any ops Q (Sfam S) (killOf kill) ops.size live (Array.replicate ops.size false) a w.drew) : (Code.region id ops true).wpIn F n P Q a w :=
  wpIn_region_any hm (wpAnyIn_of_plain hp hQ _ _ _ _ (wpAny_of_L _ _ _ _ _ h.2))

section
variable {l : List Oper}
theorem lP {i : Nat} {oi : Oper} {v : Value} {fuel : Nat} {live : List Nat} {listed : Array Bool} {a : Act} {w : World} (hi : l[i]? = some oi) (hok : takeOkL md l.toArray kill true live listed i = true)
    (hQ : ∀ c a w, Q (.panic c) (a.put oi.dst v) w → Q (.panic c) a w) (hw : Region.wanted oi (yielded l.toArray a.tmps) = true) (hy : ∀ W, (execOp a.eval oi).run P W = .ok (.value v) W)
    (h : wpL P md l.toArray Q S kill fuel live (listed.setIfInBounds i true) (a.put oi.dst v) w) : wpL P md l.toArray Q S kill (fuel + 1) live listed a w :=
  takeL (by simpa using hi) hok hQ (.inl ⟨hw, fun W _ => hy W⟩) h
theorem lN {i : Nat} {oi : Oper} {fuel : Nat} {live : List Nat} {listed : Array Bool} {a : Act} {w : World} (hi : l[i]? = some oi) (hok : takeOkL md l.toArray kill true live listed i = true)
    (hQ : ∀ c a w, Q (.panic c) (a.put oi.dst undef) w → Q (.panic c) a w) (hw : Region.wanted oi (yielded l.toArray a.tmps) = false)
    (h : wpL P md l.toArray Q S kill fuel live (listed.setIfInBounds i true) (a.put oi.dst undef) w) : wpL P md l.toArray Q S kill (fuel + 1) live listed a w :=
  takeL (by simpa using hi) hok hQ (.inr ⟨hw, rfl⟩) h
theorem lR {i : Nat} {oi : Oper} {v : Value} {fuel : Nat} {live : List Nat} {listed : Array Bool} {a : Act} {w : World} (hi : l[i]? = some oi) (hok : takeOkL md l.toArray kill false live listed i = true)
    (hQ : ∀ c a w, Q (.panic c) (a.put oi.dst v) w → Q (.panic c) a w) (hw : Region.wanted oi (yielded l.toArray a.tmps) = true) (hy : ∀ W, S i W → (execOp a.eval oi).run P W = .ok (.value v) W)
    (h : wpL P md l.toArray Q S kill fuel live (listed.setIfInBounds i true) (a.put oi.dst v) w) : wpL P md l.toArray Q S kill (fuel + 1) live listed a w :=
  takeL (by simpa using hi) hok hQ (.inl ⟨hw, fun W hW => hy W (hW rfl)⟩) h
theorem lE {i : Nat} {oi : Oper} {fuel : Nat} {live live' : List Nat} {listed : Array Bool} {a : Act} {w : World} (hi : l[i]? = some oi) (hr : Region.ready md l.toArray listed = [i]) (hc : cutL kill live i = live') (hS : AllS S live w)
    (h : ∀ K : Act → World → Prop, (∀ a' w', wpL P md l.toArray Q S kill fuel live' (listed.setIfInBounds i true) a' w' → K a' w') →
      if Region.wanted oi (yielded l.toArray a.tmps) = true then Oper.wp P oi a w K Q else K (a.put oi.dst undef) w) :
    wpL P md l.toArray Q S kill (fuel + 1) live listed a w := takeLE (by simpa using hi) hr hc hS h
end
end Go.Proofs.Ytenihlicjahjhaa

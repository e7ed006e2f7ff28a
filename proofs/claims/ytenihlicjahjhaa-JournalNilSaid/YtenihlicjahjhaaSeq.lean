/-
  Seq: a part of the proofs about the given program: contracts of its functions, each with the conditions that stand ahead of its colon.
-/
import Derived.RangeFuncNested
import Derived.RangeFuncBound
import Derived.RangeFuncCalls
import Derived.RangeFuncLeaves
import Derived.Shelf.Abstract
import Derived.Shelf.RegionOpen
import Derived.WalkKit
import Derived.OwnWalkIn
import Derived.TacticsInMore
import Derived.LoopNIn
import Derived.LoopIn
set_option linter.unusedVariables false
set_option linter.unusedSimpArgs false
namespace Go.Proofs.Ytenihlicjahjhaa
open Go Go.RowKit Go.Proofs Go.Shelf

/-- An iterator that hands out just Xs, in order. 'It': what its own steps do to memory; 'Bd': what a round does. -/
def SeqR {α : Type} (F : Fence) (n : Nat) (P : Program) (g : Nat) (lb : Array Value) (encs : α → Array Value) (Xs : List α) (It Bd : World → World → Prop) (w : World) : Prop :=
  ∀ (l : Nat) (J Jx : List α → World → Prop) (W : World), Bd w W →
    (∀ s A B, J s A → It A B → J s B) → (∀ s A B, Jx s A → It A B → Jx s B) →
    (∀ pre x post W1, Xs = pre ++ x :: post → J pre W1 → YieldAt F (n - 1) P l (encs x) W1 fun e W' =>
      (e = .returned (.bool true) ∧ J (pre ++ [x]) W' ∧ Bd W1 W') ∨ (e = .returned (.bool false) ∧ Jx (pre ++ [x]) W' ∧ Bd W1 W')) →
    J [] W →
    CallsIn F n P g (#[.func (.yield l) #[] #[]] ++ lb) W fun e W' => (∃ v, e = .returned v) ∧ (J Xs W' ∨ ∃ pre, pre <+: Xs ∧ Jx pre W')

/-- How a round's body may be left. -/
def postR {α : Type} (Bd : World → World → Prop) (I : List α → World → Prop) (Ix : Code → List α → World → Prop) (xs : List α) (W : World) : Exit → Act → World → Prop
  | .normal, _, W' => KeepsOthers W W' ∧ Bd W W' ∧ I xs W'
  | .ret, _, W' => KeepsOthers W W' ∧ Bd W W' ∧ Ix .ret xs W'
  | .exit id, _, W' => KeepsOthers W W' ∧ Bd W W' ∧ Ix (.exit id) xs W'
  | .goto t, _, W' => KeepsOthers W W' ∧ Bd W W' ∧ Ix (.goto t) xs W'
  | .panic _, _, _ => False
  | .outgrown, _, _ => False

/-- An invariant that does not mind an iterator's steps, nor the loop's own book-keeping from block B on. -/
structure Tame {β : Type} (It : World → World → Prop) (B : Nat) (I : β → World → Prop) : Prop where
  it : ∀ s A C, I s A → It A C → I s C
  alloc : ∀ s W (o : Obj), o.isCells = false → B ≤ W.heap.size → I s W → I s (W.alloc o)
  put : ∀ s W l (o o' : Obj), I s W → B ≤ l → W.heap[l]? = some o → o.isCells = false → I s (W.putObj l o')

variable {F : Fence} {n : Nat} {P : Program}

theorem wpIn_rangeFunc_R {α : Type} {g : Operand} {ps : Array Tmp} {assign body : Code} {Q : Exit → Act → World → Prop} {a : Act} {w : World}
    (hro : F.round = none) (h1 : 1 ≤ n) {gf : Nat} {lb : Array Value} (hg : a.eval g = .func (.func gf) #[] lb) (hFg : F.fn gf) (eg : ∀ args w, (callFunc gf args).run P w = .ok (.enter gf args) w)
    {encs : α → Array Value} {Xs : List α} {It Bd : World → World → Prop} (hseq : SeqR F (n - 1) P gf lb encs Xs It Bd w)
    (hBt : ∀ {A B C : World}, Bd A B → Bd B C → Bd A C) (hBa : ∀ (W : World) (o : Obj), o.isCells = false → Bd W (W.alloc o))
    (hBp : ∀ (W : World) (l : Nat) (o o' : Obj), W.heap[l]? = some o → o.isCells = false → Bd W (W.putObj l o'))
    (hIt : ∀ (A B : World) (k : Nat) (o : Obj), It A B → A.heap[k]? = some o → o.isCells = false → B.heap[k]? = some o) (hps : ∀ x, (encs x).size = ps.size)
    (I : List α → World → Prop) (Ix : Code → List α → World → Prop) (hI : Tame It w.heap.size I) (hIx : ∀ c, Tame It w.heap.size (Ix c)) (h0 : I [] w) (a₁ : α → Act)
    (hassign : ∀ (l : Nat) (x : α) (W : World) (K : Act → World → Prop), K (a₁ x) W →
      assign.wpIn (F.inRound l) (n - 1 - 1) P (Exit.then K (fun _ _ _ => False)) { tmps := (ps.zip (encs x)).foldl (fun t (p, v) => t.setIfInBounds p v) a.tmps, defers := [] } W)
    (hbody : ∀ (l : Nat) (pre : List α) (x : α) (post : List α) (W : World), Xs = pre ++ x :: post → I pre W → body.wpIn (F.inRound l) (n - 1 - 1) P (postR Bd I Ix (pre ++ [x]) W) (a₁ x) W)
    (hdone : ∀ (D : Nat) (W : World), w.heap.size ≤ D → I Xs W → W.heap[D]? = some (.deferred (some [])) → Q .normal { a with defers := { target := .collected D, args := #[] } :: a.defers } W)
    (hstop : ∀ (D : Nat) (c : Code) (pre : List α) (W : World), w.heap.size ≤ D → pre <+: Xs → Ix c pre W → W.heap[D]? = some (.deferred (some [])) → c.wpIn F n P Q { a with defers := { target := .collected D, args := #[] } :: a.defers } W) :
    (Code.rangeFunc g ps assign body).wpIn F n P Q a w := by
  refine wpIn_rangeFunc fun fn hfn => ?_
  rw [hro]
  -- the record of the loop, in its states
  let rec' : LoopState → Option Code → Obj := fun st pe => .loop { state := st, pending := pe, fn := fn, tmps := a.tmps, params := ps, assign := assign, body := body, defers := w.heap.size }
  let L := w.heap.size + 1
  let W1 : World := (w.alloc (.deferred (some []))).alloc (rec' .ready none)
  have hL1 : W1.heap[L]? = some (rec' .ready none) := by
    have := World.alloc_heap_new (w.alloc (.deferred (some []))) (rec' .ready none); rwa [World.size_alloc] at this
  have hD1 : W1.heap[w.heap.size]? = some (.deferred (some [])) :=
    (Below.heap_alloc _ _ _ (by simp)).trans (World.alloc_heap_new w _)
  have hB1 : Bd w W1 := hBt (hBa w _ rfl) (hBa _ _ rfl)
  have hI1 : I [] W1 := hI.alloc _ _ _ rfl (by simp) (hI.alloc _ _ _ rfl (Nat.le_refl _) h0)
  refine ⟨L, [{ target := .collected w.heap.size, args := #[] }], W1, { target := .fn (.func gf) lb, args := #[.func (.yield L) #[] #[]] }, W1, gf,
    #[.func (.yield L) #[] #[]] ++ lb, W1, run_enterLoop_outer _ _ _ _ _, ?_, ?_, ?_, fun _ => h1, ?_⟩
  · simp only [resolve, hg]; simp [go_sem]
  · intro f' hf'; simp [Target.leads] at hf'; subst hf'; exact hFg
  · simp [invoke, go_sem, eg]
  · refine (hseq L (fun pre W => I pre W ∧ W.heap[L]? = some (rec' .ready none) ∧ W.heap[w.heap.size]? = some (.deferred (some [])))
      (fun pre W => ∃ c, Ix c pre W ∧ W.heap[L]? = some (rec' .done (some c)) ∧ W.heap[w.heap.size]? = some (.deferred (some []))) W1 hB1
      (fun s A B h hab => ⟨hI.it _ _ _ h.1 hab, hIt _ _ _ _ hab h.2.1 rfl, hIt _ _ _ _ hab h.2.2 rfl⟩)
      (fun s A B h hab => by obtain ⟨c, hc, h1, h2⟩ := h; exact ⟨c, (hIx c).it _ _ _ hc hab, hIt _ _ _ _ hab h1 rfl, hIt _ _ _ _ hab h2 rfl⟩)
      ?_ ⟨hI1, hL1, hD1⟩).mono ?_
    · rintro pre x post W hX ⟨hi, hl, hd⟩
      have hlt : L < W.heap.size := (Array.getElem?_eq_some_iff.1 hl).1
      have hDL : w.heap.size ≠ L := by show w.heap.size ≠ w.heap.size + 1; omega
      have hBL : w.heap.size ≤ L := Nat.le_succ _
      refine ⟨fn, _, assign, body, run_yield (P := P) (args := encs x) hl (hps x), roundIn_of_wpIn hfn (hassign _ x W _ ⟨_, run_beginRound hl rfl, ?_⟩)⟩
      have hl2 : (W.putObj L (rec' .busy none)).heap[L]? = some (rec' .busy none) := World.putObj_heap_same hlt
      have hd2 : (W.putObj L (rec' .busy none)).heap[w.heap.size]? = some (.deferred (some [])) := (World.putObj_heap_other hDL).trans hd
      have hb2 : Bd W (W.putObj L (rec' .busy none)) := hBp _ _ _ _ hl rfl
      refine wpIn_mono (hbody L pre x post _ hX (hI.put _ _ _ _ _ hi hBL hl rfl)) ?_
      intro e a3 W3 hp
      have fin : ∀ jump, KeepsOthers (W.putObj L (rec' .busy none)) W3 →
          (Instr.endRound L jump).run P W3 = .ok (.bool jump.isNone) (W3.putObj L (rec' (if jump.isNone then .ready else .done) jump)) ∧
          W3.heap[L]? = some (rec' .busy none) ∧
          (W3.putObj L (rec' (if jump.isNone then .ready else .done) jump)).heap[L]? = some (rec' (if jump.isNone then .ready else .done) jump) ∧
          (W3.putObj L (rec' (if jump.isNone then .ready else .done) jump)).heap[w.heap.size]? = some (.deferred (some [])) := fun jump hk => by
        have h3 := hk.same _ _ hl2 rfl
        exact ⟨run_endRound jump h3, h3, World.putObj_heap_same (Array.getElem?_eq_some_iff.1 h3).1, (World.putObj_heap_other hDL).trans (hk.same _ _ hd2 rfl)⟩
      cases e with
      | normal =>
        obtain ⟨hk, hb, hi3⟩ := hp
        obtain ⟨hr, h3, h4, h5⟩ := fin none hk
        exact ⟨_, _, hr, .inl ⟨rfl, ⟨hI.put _ _ _ _ _ hi3 hBL h3 rfl, h4, h5⟩, hBt (hBt hb2 hb) (hBp _ _ _ _ h3 rfl)⟩⟩
      | ret =>
        obtain ⟨hk, hb, hi3⟩ := hp
        obtain ⟨hr, h3, h4, h5⟩ := fin (some .ret) hk
        exact ⟨_, _, hr, .inr ⟨rfl, ⟨_, (hIx _).put _ _ _ _ _ hi3 hBL h3 rfl, h4, h5⟩, hBt (hBt hb2 hb) (hBp _ _ _ _ h3 rfl)⟩⟩
      | exit id =>
        obtain ⟨hk, hb, hi3⟩ := hp
        obtain ⟨hr, h3, h4, h5⟩ := fin (some (.exit id)) hk
        exact ⟨_, _, hr, .inr ⟨rfl, ⟨_, (hIx _).put _ _ _ _ _ hi3 hBL h3 rfl, h4, h5⟩, hBt (hBt hb2 hb) (hBp _ _ _ _ h3 rfl)⟩⟩
      | goto t =>
        obtain ⟨hk, hb, hi3⟩ := hp
        obtain ⟨hr, h3, h4, h5⟩ := fin (some (.goto t)) hk
        exact ⟨_, _, hr, .inr ⟨rfl, ⟨_, (hIx _).put _ _ _ _ _ hi3 hBL h3 rfl, h4, h5⟩, hBt (hBt hb2 hb) (hBp _ _ _ _ h3 rfl)⟩⟩
      | panic ch => exact hp.elim
      | outgrown => exact hp.elim
    · have hDL : w.heap.size ≠ L := by show w.heap.size ≠ w.heap.size + 1; omega
      have hBL : w.heap.size ≤ L := Nat.le_succ _
      rintro e W2 ⟨⟨v, rfl⟩, ⟨hi, hl, hd⟩ | ⟨pre, hpre, c, hi, hl, hd⟩⟩
      · exact ⟨none, _, run_endLoop (P := P) hl (by simp), hdone _ _ (Nat.le_refl _) (hI.put _ _ _ _ _ hi hBL hl rfl) ((World.putObj_heap_other hDL).trans hd)⟩
      · exact ⟨some c, _, run_endLoop (P := P) hl (by simp), hstop _ c pre _ (Nat.le_refl _) hpre ((hIx c).put _ _ _ _ _ hi hBL hl rfl) ((World.putObj_heap_other hDL).trans hd)⟩
end Go.Proofs.Ytenihlicjahjhaa

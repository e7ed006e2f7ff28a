/-
  Rope0: a part of the proofs about the given program: contracts of its functions, each with the conditions that stand ahead of its colon.
-/
import Derived.Test.YtenihlicjahjhaaProg
import Derived.WalkKit
import Derived.Deep.Draws
set_option linter.unusedVariables false
set_option linter.unusedSimpArgs false
namespace Go.Proofs.Ytenihlicjahjhaa
open Go Go.RowKit Go.Proofs

/-- how many line feeds -/
def feeds (l : List UInt8) : Nat := l.count 10

theorem feeds_append (a b : List UInt8) : feeds (a ++ b) = feeds a + feeds b := by simp [feeds]

/-- a rope's leaves in memory; every block of it meets R -/
inductive RopeL (R : Nat → Prop) (w : World) : Option Addr → List (List UInt8) → Prop
  | nil : RopeL R w none []
  | leaf (b : Nat) (s : List UInt8) : R b → w.heap[b]? = some (.cells #[.string ⟨s.toArray⟩, .pointer none, .pointer none, .int .i64 s.length, .int .i64 (feeds s)] 173) →
      s ≠ [] → RopeL R w (some ⟨b, 0, none⟩) [s]
  | node (b : Nat) (p q : Addr) (l m : List (List UInt8)) : R b →
      w.heap[b]? = some (.cells #[.string ⟨#[]⟩, .pointer (some p), .pointer (some q), .int .i64 (l.flatten.length + m.flatten.length), .int .i64 (feeds l.flatten + feeds m.flatten)] 173) →
      l ≠ [] → m ≠ [] → RopeL R w (some p) l → RopeL R w (some q) m → RopeL R w (some ⟨b, 0, none⟩) (l ++ m)

/-- a rope's text in memory -/
def IsRope (R : Nat → Prop) (w : World) (p : Option Addr) (s : List UInt8) : Prop := ∃ ls, RopeL R w p ls ∧ ls.flatten = s

theorem RopeL.keep {R : Nat → Prop} {w w' : World} {p : Option Addr} {s : List (List UInt8)} (h : RopeL R w p s)
    (hk : ∀ k c f, R k → w.heap[k]? = some (.cells c 173 f) → w'.heap[k]? = w.heap[k]?) : RopeL R w' p s := by
  induction h with
  | nil => exact .nil
  | leaf b s hr hb hs => exact .leaf b s hr ((hk b _ _ hr hb).trans hb) hs
  | node b p q s t hr hb hs ht _ _ ih1 ih2 => exact .node b p q s t hr ((hk b _ _ hr hb).trans hb) hs ht ih1 ih2

theorem RopeL.mono {R R' : Nat → Prop} {w : World} {p : Option Addr} {s : List (List UInt8)} (h : RopeL R w p s) (hR : ∀ k, k < w.heap.size → R k → R' k) : RopeL R' w p s := by
  have lt : ∀ {b : Nat} {o : Obj}, w.heap[b]? = some o → b < w.heap.size := fun h => (Array.getElem?_eq_some_iff.1 h).1
  induction h with
  | nil => exact .nil
  | leaf b s hr hb hs => exact .leaf b s (hR _ (lt hb) hr) hb hs
  | node b p q s t hr hb hs ht _ _ ih1 ih2 => exact .node b p q s t (hR _ (lt hb) hr) hb hs ht ih1 ih2

theorem RopeL.ne {R : Nat → Prop} {w : World} {p : Option Addr} {s : List (List UInt8)} (h : RopeL R w p s) : ∀ t ∈ s, t ≠ [] := by
  induction h with
  | nil => simp
  | leaf b s hr hb hs => simpa using hs
  | node b p q s t hr hb hs ht _ _ ih1 ih2 =>
    intro u hu
    rcases List.mem_append.1 hu with hu | hu
    · exact ih1 u hu
    · exact ih2 u hu

theorem RopeL.some_ne {R : Nat → Prop} {w : World} {a : Addr} {s : List (List UInt8)} (h : RopeL R w (some a) s) : s ≠ [] ∧ s.flatten ≠ [] := by
  have hn : s ≠ [] := by cases h <;> simp_all
  refine ⟨hn, ?_⟩
  have := h.ne
  cases s with
  | nil => exact absurd rfl hn
  | cons t r => have := this t (by simp); simp [this]

theorem IsRope.keep {R : Nat → Prop} {w w' : World} {p : Option Addr} {s : List UInt8} (h : IsRope R w p s)
    (hk : ∀ k c f, R k → w.heap[k]? = some (.cells c 173 f) → w'.heap[k]? = w.heap[k]?) : IsRope R w' p s := by
  obtain ⟨ls, h, hs⟩ := h
  exact ⟨ls, h.keep hk, hs⟩

theorem IsRope.mono {R R' : Nat → Prop} {w : World} {p : Option Addr} {s : List UInt8} (h : IsRope R w p s) (hR : ∀ k, k < w.heap.size → R k → R' k) : IsRope R' w p s := by
  obtain ⟨ls, h, hs⟩ := h
  exact ⟨ls, h.mono hR, hs⟩

theorem IsRope.bel {R : Nat → Prop} {w w' : World} {p : Option Addr} {s : List UInt8} (h : IsRope R w p s) (hb : Below w.heap.size w w') : IsRope R w' p s :=
  h.keep fun k _ _ _ hk => hb.block k (Array.getElem?_eq_some_iff.1 hk).1

theorem IsRope.drewN {R : Nat → Prop} {w : World} {p : Option Addr} {s : List UInt8} (h : IsRope R w p s) (n : Nat) : IsRope R (w.drewN n) p s := h.keep fun _ _ _ _ _ => rfl
theorem IsRope.drew {R : Nat → Prop} {w : World} {p : Option Addr} {s : List UInt8} (h : IsRope R w p s) : IsRope R w.drew p s := h.keep fun _ _ _ _ _ => rfl

theorem IsRope.nil {R : Nat → Prop} {w : World} : IsRope R w none [] := ⟨[], .nil, rfl⟩

/-- the cells of a rope that is not nil -/
theorem IsRope.cells {R : Nat → Prop} {w : World} {a : Addr} {s : List UInt8} (h : IsRope R w (some a) s) :
    ∃ b t l r, a = ⟨b, 0, none⟩ ∧ R b ∧ s ≠ [] ∧ w.heap[b]? = some (.cells #[.string t, .pointer l, .pointer r, .int .i64 s.length, .int .i64 (feeds s)] 173) := by
  obtain ⟨ls, h, rfl⟩ := h
  have hn := h.some_ne.2
  cases h with
  | leaf b s hr hb hs => exact ⟨b, _, _, _, rfl, hr, hn, by simpa using hb⟩
  | node b p q s t hr hb hs ht h1 h2 => exact ⟨b, _, _, _, rfl, hr, hn, by simpa [feeds_append] using hb⟩

theorem IsRope.none {R : Nat → Prop} {w : World} {s : List UInt8} (h : IsRope R w none s) : s = [] := by obtain ⟨ls, h, rfl⟩ := h; cases h; rfl

theorem cell_row {w : World} {b t : Nat} {c : Array Value} {f : Nat × Nat} (h : w.heap[b]? = some (.cells c t f)) (j : Nat) : w.cell? ⟨b, j, none⟩ = c[j]? := by
  simp [World.cell?, h]

theorem heap_new (w : World) (o : Obj) : (w.alloc o).heap[w.heap.size]? = some o := by
  show (w.heap.push o)[w.heap.size]? = _
  simp

/-- Len -/
theorem Len_calls {R : Nat → Prop} {p : Option Addr} {s : List UInt8} {w : World} (h : IsRope R w p s) :
    Calls Try.prog 33 #[.pointer p] w fun e w' => e = .returned (.int .i64 s.length) ∧ w = w' := by
  cases p with
  | none =>
    obtain rfl := h.none
    go_enter Try.func33, Try.ntmps33
    go_wp2
    go_ret
    exact ⟨rfl, rfl⟩
  | some a =>
    obtain ⟨b, t, l, r, rfl, _, hs, hb⟩ := h.cells
    have h3 : w.cell? ⟨b, 3, none⟩ = some (.int .i64 s.length) := cell_row hb 3
    clear hb hs h
    go_enter Try.func33, Try.ntmps33
    go_wp2
    go_ret
    exact ⟨rfl, rfl⟩
end Go.Proofs.Ytenihlicjahjhaa

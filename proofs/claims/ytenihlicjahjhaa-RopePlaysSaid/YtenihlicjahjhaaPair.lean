/-
  Pair: two slices that a call owns: ropes, and the texts beside them.
-/
import Derived.Test.YtenihlicjahjhaaAlike6
import Derived.Test.YtenihlicjahjhaaRefLines
set_option linter.unusedVariables false
set_option linter.unusedSimpArgs false
namespace Go.Proofs.Ytenihlicjahjhaa
open Go Go.RowKit Go.Proofs Go.Shelf

abbrev TRp : Nat := 37
abbrev TSt : Nat := 9

/-- so many ropes and texts: each rope has its text -/
structure Pair (B : Nat) (L M : List (Option Addr × List UInt8)) (v u : Value) (W : World) : Prop where
  ropes : W.ownsRow B 37 1 v L.length (L.map fun x => .pointer x.1)
  texts : W.ownsRow B 9 1 u M.length (M.map fun x => .string ⟨x.2.toArray⟩)
  each : ∀ x ∈ L, IsRope (fun _ => True) W x.1 x.2 ∧ x.2.length ≤ 65536
  base : B ≤ W.heap.size

theorem rope_only {R : Nat → Prop} {w w' : World} {p : Option Addr} {s : List UInt8} (h : IsRope R w p s) {t : Nat} (ho : Only (· = t) w w') (ht : ¬ 173 = t) : IsRope R w' p s :=
  h.keep fun k c f _ hk => (ho.cell hk ht).trans hk.symm

theorem Pair.bel {B : Nat} {L M : List (Option Addr × List UInt8)} {v u : Value} {W W' : World} (h : Pair B L M v u W) (hb : Below W.heap.size W W') : Pair B L M v u W' := by
  have hk : KeepT (fun _ => True) W W' := (Only.of_below (T := fun _ => False) hb).keepT (fun _ _ h => h)
  exact ⟨ownsRow_keepT h.ropes hk trivial, ownsRow_keepT h.texts hk trivial, fun x hx => ⟨(h.each x hx).1.bel hb, (h.each x hx).2⟩, Nat.le_trans h.base hb.size⟩

/-- behind the append of a rope -/
theorem Pair.rope {B : Nat} {L : List (Option Addr × List UInt8)} {v v' u : Value} {W W' : World} {o : Obj} {r : Option Addr} {s : List UInt8} (h : Pair B L L v u W) (hr : IsRope (fun _ => True) W r s) (hs : s.length ≤ 65536)
    (ho : W'.ownsRow B 37 1 v' (L.length + 1) (L.map (fun x => .pointer x.1) ++ [.pointer r])) (hg : (W.alloc o).grownBy W' v.ownBlock) : Pair B (L ++ [(r, s)]) L v' u W' := by
  have hO : Only (· = 37) W W' := ((Only.refl (· = 37) W).alloc o).grown hg (fun k hk => by
    obtain ⟨c, f, hc⟩ := ownsRow_row (h.ropes.alloc o) k hk
    exact ⟨c, _, f, hc, rfl⟩)
  refine ⟨by simpa using ho, ownsRow_keepT h.texts (hO.keepT (S := (· = 9)) (by rintro t rfl; decide)) rfl, ?_, Nat.le_trans h.base hO.size⟩
  intro x hx
  rcases List.mem_append.1 hx with hx | hx
  · exact ⟨rope_only (h.each x hx).1 hO (by decide), (h.each x hx).2⟩
  · obtain rfl : x = (r, s) := by simpa using hx
    exact ⟨rope_only hr hO (by decide), hs⟩

/-- behind the append of its text -/
theorem Pair.text {B : Nat} {L : List (Option Addr × List UInt8)} {v u u' : Value} {W W' : World} {o : Obj} {r : Option Addr} {s : List UInt8} (h : Pair B (L ++ [(r, s)]) L v u W)
    (ho : W'.ownsRow B 9 1 u' (L.length + 1) (L.map (fun x => .string ⟨x.2.toArray⟩) ++ [.string ⟨s.toArray⟩])) (hg : (W.alloc o).grownBy W' u.ownBlock) : Pair B (L ++ [(r, s)]) (L ++ [(r, s)]) v u' W' := by
  have hO : Only (· = 9) W W' := ((Only.refl (· = 9) W).alloc o).grown hg (fun k hk => by
    obtain ⟨c, f, hc⟩ := ownsRow_row (h.texts.alloc o) k hk
    exact ⟨c, _, f, hc, rfl⟩)
  exact ⟨ownsRow_keepT h.ropes (hO.keepT (S := (· = 37)) (by rintro t rfl; decide)) rfl, by simpa using ho, fun x hx => ⟨rope_only (h.each x hx).1 hO (by decide), (h.each x hx).2⟩, Nat.le_trans h.base hO.size⟩

/-- what is read of them -/
theorem Pair.read {B : Nat} {L : List (Option Addr × List UInt8)} {v u : Value} {W : World} (h : Pair B L L v u W) (hn : 0 < L.length) :
    ∃ g c g' c', v = .slice (some ⟨g, 0, none⟩) L.length c ∧ u = .slice (some ⟨g', 0, none⟩) L.length c' ∧ L.length ≤ maxLen ∧
      ∀ j x, L[j]? = some x → W.cell? ⟨g, j, none⟩ = some (.pointer x.1) ∧ W.cell? ⟨g', j, none⟩ = some (.string ⟨x.2.toArray⟩) := by
  have h1 := h.ropes
  have h2 := h.texts
  obtain ⟨g, c, rfl⟩ := ownsRow_form h1 hn
  obtain ⟨g', c', rfl⟩ := ownsRow_form h2 hn
  obtain ⟨_, k1, k2, k3, _⟩ := ownsRow_at h1
  obtain ⟨_, _, _, k6, _⟩ := ownsRow_at h2
  refine ⟨g, c, g', c', rfl, rfl, by omega, fun j x hx => ⟨k3 j _ ?_, k6 j _ ?_⟩⟩
  · rw [List.getElem?_map, hx]; rfl
  · rw [List.getElem?_map, hx]; rfl

/-- the cells of both, where the slices are known -/
theorem Pair.at {B : Nat} {L : List (Option Addr × List UInt8)} {g g' c c' : Nat} {W : World} (h : Pair B L L (.slice (some ⟨g, 0, none⟩) L.length c) (.slice (some ⟨g', 0, none⟩) L.length c') W) (j : Nat) (x : Option Addr × List UInt8) (hx : L[j]? = some x) :
    W.cell? ⟨g, j, none⟩ = some (.pointer x.1) ∧ W.cell? ⟨g', j, none⟩ = some (.string ⟨x.2.toArray⟩) := by
  obtain ⟨_, k1, k2, k3, _⟩ := ownsRow_at h.ropes
  obtain ⟨_, _, _, k6, _⟩ := ownsRow_at h.texts
  refine ⟨k3 j _ ?_, k6 j _ ?_⟩
  · rw [List.getElem?_map, hx]; rfl
  · rw [List.getElem?_map, hx]; rfl

theorem infoRp : (Try.prog.info? 37).map (fun i => (i.zero, i.size, i.bytes)) = some (some (.pointer none), 1, 8) := by kernel_rfl

/-- the first two: no rope, and no text -/
theorem Pair.start (w : World) : Pair w.heap.size [(none, [])] [(none, [])] (.slice (some ⟨w.heap.size, 0, none⟩) 1 1) (.slice (some ⟨w.heap.size + 1, 0, none⟩) 1 1)
    ((w.alloc (.cells #[.pointer none] 37)).alloc (.cells #[.string ⟨#[]⟩] 9)) := by
  have hb : ((w.alloc (.cells #[.pointer none] 37)).alloc (.cells #[.string ⟨#[]⟩] 9)).heap[w.heap.size]? = some (.cells #[.pointer none] 37) := by
    rw [Below.heap_alloc _ _ _ (by simp)]; exact heap_new _ _
  have hb2 : ((w.alloc (.cells #[.pointer none] 37)).alloc (.cells #[.string ⟨#[]⟩] 9)).heap[w.heap.size + 1]? = some (.cells #[.string ⟨#[]⟩] 9) := by
    have := heap_new (w.alloc (.cells #[.pointer none] 37)) (.cells #[.string ⟨#[]⟩] 9)
    rwa [World.size_alloc] at this
  refine ⟨⟨rfl, .inr ⟨w.heap.size, 1, #[.pointer none], rfl, Nat.le_refl _, hb, Nat.le_refl _, by unfold maxLen; omega, rfl, rfl⟩⟩,
    ⟨rfl, .inr ⟨w.heap.size + 1, 1, #[.string ⟨#[]⟩], rfl, Nat.le_succ _, hb2, Nat.le_refl _, by unfold maxLen; omega, rfl, rfl⟩⟩, ?_, by simp; omega⟩
  intro x hx
  obtain rfl : x = (none, []) := by simpa using hx
  exact ⟨IsRope.nil, by simp⟩
end Go.Proofs.Ytenihlicjahjhaa

/-
  OpenAct: an argument that is a slice of acts is a script in memory.
-/
import Derived.Test.YtenihlicjahjhaaPlays
import Derived.Test.YtenihlicjahjhaaDone
import Derived.Deep.Slices
import Derived.Deep.Fields
set_option linter.unusedVariables false
set_option linter.unusedSimpArgs false
namespace Go.Proofs.Ytenihlicjahjhaa
open Go Go.ChangeShapes Go.WideShapes Go.RowKit Go.Deep

section
variable {H : Type} {enc : TypeId × Value → H} {P : Program} {W : World} {base : Nat} {sp : Nat → Bool} {hd : Bool}

/-- the j-th field of an element, one cell each -/
theorem field_at {e : TypeId} {fs : Array Field} {n : Nat} {a : Addr} {cs : List Value} {x : DataW H × List MemPlace} (he : P.underlying e = some (.struct fs)) (hone : oneCellFields P fs = true) (hC : P.cellsOf e = fs.size)
    (hc : W.cells? base a (P.cellsOf e) = some cs) (h : DataW.trod enc P W base sp hd n e cs = some x) (j : Nat) (f : Field) (hj : fs[j]? = some f) :
    ∃ v y m, W.cell? (a.add j) = some v ∧ DataW.trod enc P W base sp hd m f.type [v] = some y := by
  obtain ⟨ys, m, _, _, hlen, hyl, hf⟩ := DataW.trod_struct he h
  obtain ⟨_, hcl, hat⟩ := World.cells?_some hc
  obtain ⟨ho, hk⟩ := hone_of hone j f hj
  have hjl : j < fs.size := (Array.getElem?_eq_some_iff.1 hj).1
  have hj1 : j < cs.length := by omega
  have h1 := hf j f hj
  rw [ho, hk, List.drop_eq_getElem_cons hj1] at h1
  have h2 : DataW.trod enc P W base sp hd m f.type [cs[j]] = some (ys[j]'(by omega)) := by
    rw [← List.getElem?_eq_getElem (by omega : j < ys.length), ← h1]; rfl
  exact ⟨_, _, _, by rw [hat j (by omega)]; exact List.getElem?_eq_getElem hj1, h2⟩

theorem spot_none {a : Addr} {v : Value} (h : W.cell? a = some v) : a.spot = none := by
  unfold World.cell? at h
  cases hs : a.spot with
  | none => rfl
  | some s => rw [hs] at h; split at h <;> simp at h

instance : Inhabited ActR := ⟨⟨0, 0, 0, 0, 0, []⟩⟩

/-- a slice of acts -/
theorem open_script {t e : TypeId} {f0 f1 f2 f3 f4 f5 : Field} {v : Value} {d : DataW H} {ps : List MemPlace} {r : Reach} {b0 : Nat} (ht : P.underlying t = some (.slice e)) (he : P.underlying e = some (.struct #[f0, f1, f2, f3, f4, f5]))
    (hone : oneCellFields P #[f0, f1, f2, f3, f4, f5] = true) (hC : P.cellsOf e = 6) (i0 : P.underlying f0.type = some (.int .i64)) (i1 : P.underlying f1.type = some (.int .i64)) (i2 : P.underlying f2.type = some (.int .i64))
    (i3 : P.underlying f3.type = some (.int .i64)) (i4 : P.underlying f4.type = some (.int .i64)) (i5 : P.underlying f5.type = some .string)
    (hval : Value.okWide P W r b0 t v) (hd : DataW.Trod enc P W base sp hd t v d ps) : ∃ Sc, Script W v Sc := by
  obtain ⟨a, len, cap, rfl⟩ := okWide_slice ht hval
  obtain ⟨fuel, hf⟩ := hd
  rcases open_slice ht hf with ⟨h0, _⟩ | ⟨a', len', cap', m, n, D, Pl, hcs, hb, hl, hm, hmm, hx, hi⟩
  · have h0' : ([Value.slice a len cap] : List Value) = [.slice none 0 0] := by simpa [Value.cells] using h0
    cases h0'
    exact ⟨[], ⟨⟨none, 0, rfl, fun k x h => (by simp at h)⟩, fun x h => (by simp at h), Nat.zero_le _⟩⟩
  · have hcs' : ([Value.slice a len cap] : List Value) = [.slice (some a') len' cap'] := by simpa [Value.cells] using hcs
    cases hcs'
    have hlm : len ≤ m := by rw [hmm]; split <;> omega
    have each : ∀ i, i < len → ∃ x : ActR, x.ok ∧ ∀ j u, x.cells[j]? = some u → W.cell? ((a'.add (i * 6)).add j) = some u := by
      intro i hil
      obtain ⟨cs, hc, htr⟩ := hi i (by omega)
      have F := fun j f hj => field_at he hone hC hc htr j f hj
      obtain ⟨v0, y0, m0, c0, t0⟩ := F 0 f0 rfl
      obtain ⟨v1, y1, m1, c1, t1⟩ := F 1 f1 rfl
      obtain ⟨v2, y2, m2, c2, t2⟩ := F 2 f2 rfl
      obtain ⟨v3, y3, m3, c3, t3⟩ := F 3 f3 rfl
      obtain ⟨v4, y4, m4, c4, t4⟩ := F 4 f4 rfl
      obtain ⟨v5, y5, m5, c5, t5⟩ := F 5 f5 rfl
      obtain ⟨n0, e0, _, w0⟩ := DataW.trod_int i0 t0
      obtain ⟨n1, e1, _, w1⟩ := DataW.trod_int i1 t1
      obtain ⟨n2, e2, _, w2⟩ := DataW.trod_int i2 t2
      obtain ⟨n3, e3, _, w3⟩ := DataW.trod_int i3 t3
      obtain ⟨n4, e4, _, w4⟩ := DataW.trod_int i4 t4
      obtain ⟨s5, e5, _, w5⟩ := DataW.trod_string i5 t5
      cases e0; cases e1; cases e2; cases e3; cases e4; cases e5
      rw [hC] at c0 c1 c2 c3 c4 c5
      refine ⟨⟨n0, n1, n2, n3, n4, s5.data.toList⟩, ⟨wf_i64 w0, wf_i64 w1, wf_i64 w2, wf_i64 w3, wf_i64 w4⟩, ?_⟩
      intro j u hj
      unfold ActR.cells at hj
      dsimp only at hj
      rw [← bytes_list s5] at hj
      match j, hj with
      | 0, hj => cases hj; exact c0
      | 1, hj => cases hj; exact c1
      | 2, hj => cases hj; exact c2
      | 3, hj => cases hj; exact c3
      | 4, hj => cases hj; exact c4
      | 5, hj => cases hj; exact c5
      | j + 6, hj => simp at hj
    have hsize : ∀ (g : Nat → ActR) (k : Nat) (x : ActR), ((List.range len).map g)[k]? = some x → k < len ∧ x = g k := by
      intro g k x h
      rw [List.getElem?_map] at h
      by_cases hk : k < len
      · rw [List.getElem?_range hk] at h; cases h; exact ⟨hk, rfl⟩
      · rw [List.getElem?_eq_none (by simp; omega)] at h; cases h
    obtain ⟨g, hg⟩ := choose_lt (p := fun i (x : ActR) => x.ok ∧ ∀ j u, x.cells[j]? = some u → W.cell? ((a'.add (i * 6)).add j) = some u) each
    refine ⟨(List.range len).map g, ⟨⟨some a', cap, by simp, fun k x hx => ?_⟩, fun x hx => ?_, by simp; omega⟩⟩
    · obtain ⟨hk, rfl⟩ := hsize g k x hx
      have h := (hg k hk).2
      have h00 := (hg 0 (by omega)).2 0 _ rfl
      have e00 : ((a'.add (0 * 6)).add 0) = a' := by simp [Addr.add]
      rw [e00] at h00
      have s0 := spot_none h00
      obtain ⟨b, o, s⟩ := a'
      dsimp only at s0
      subst s0
      refine ⟨b, o, rfl, cell_lt h00, fun j u hj => ?_⟩
      have := h j u hj
      rwa [Addr.add_mid, Addr.add_mid] at this
    · obtain ⟨i, hi', rfl⟩ := List.mem_map.1 hx
      exact (hg i (List.mem_range.1 hi')).1
end
end Go.Proofs.Ytenihlicjahjhaa

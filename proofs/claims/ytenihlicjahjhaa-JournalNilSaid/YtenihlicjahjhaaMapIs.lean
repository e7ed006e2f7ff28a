/-
  MapIs: a map of blocks of 32 bytes in memory, read as a function of the place.
-/
import Derived.Test.YtenihlicjahjhaaRegn
import Derived.Maps.RangeWalk
set_option linter.unusedVariables false
set_option linter.unusedSimpArgs false
namespace Go.Proofs.Ytenihlicjahjhaa
open Go Go.RowKit Go.Proofs
open Go.Maps (Keyed)

/-- a block as one value -/
def blkV (l : List UInt8) : Value := .agg (Lib.byteCells l).toArray
def blkD (l : List UInt8) : DataW Unit := .agg (l.map fun b => .lit (.int .u8 b.toNat))
def zero32 : List UInt8 := List.replicate 32 0

theorem blkV_inj {a b : List UInt8} (h : blkV a = blkV b) : a = b := by
  unfold blkV at h
  have h1 : (Lib.byteCells a).toArray = (Lib.byteCells b).toArray := by injection h
  exact byteCells_inj (by simpa using h1)

theorem blkD_inj {a b : List UInt8} (h : blkD a = blkD b) : a = b := by
  unfold blkD at h
  have h1 : a.map (fun b => (DataW.lit (.int .u8 b.toNat) : DataW Unit)) = b.map fun b => .lit (.int .u8 b.toNat) := by injection h
  exact (List.map_inj_right (fun x y e => by
    have e1 : Lit.int .u8 (x.toNat : Int) = Lit.int .u8 (y.toNat : Int) := by injection e
    have : (x.toNat : Int) = y.toNat := by injection e1
    exact UInt8.toNat_inj.1 (by omega))).1 h1

open Classical in
/-- how a map's element reads -/
noncomputable def blkR (v : Value) : Option (DataW Unit × List MemPlace) :=
  if h : ∃ l : List UInt8, l.length = 32 ∧ v = blkV l then some (blkD h.choose, []) else none

theorem blkR_mk {l : List UInt8} (h : l.length = 32) : blkR (blkV l) = some (blkD l, []) := by
  have hx : ∃ m : List UInt8, m.length = 32 ∧ blkV l = blkV m := ⟨l, h, rfl⟩
  unfold blkR
  rw [dif_pos hx]
  rw [← blkV_inj hx.choose_spec.2]

theorem blkR_inv {v : Value} {y : DataW Unit × List MemPlace} (h : blkR v = some y) : ∃ l : List UInt8, l.length = 32 ∧ v = blkV l ∧ y = (blkD l, []) := by
  by_cases hx : ∃ l : List UInt8, l.length = 32 ∧ v = blkV l
  · obtain ⟨l, hl, rfl⟩ := hx
    rw [blkR_mk hl] at h
    exact ⟨l, hl, rfl, (Option.some.inj h).symm⟩
  · unfold blkR at h
    rw [dif_neg hx] at h
    cases h

/-- numbers below S, none twice: at most S -/
theorem few_nats : ∀ (S : Nat) (l : List Nat), l.Nodup → (∀ x ∈ l, x < S) → l.length ≤ S
  | 0, l, _, h => by
    cases l with
    | nil => simp
    | cons x r => exact absurd (h x (by simp)) (by omega)
  | S + 1, l, hn, h => by
    have h1 := few_nats S (l.erase S) (hn.erase S) (fun x hx => by
      have := (hn.mem_erase_iff).1 hx
      have := h x this.2
      omega)
    have h2 := List.length_erase (a := S) (l := l)
    split at h2 <;> omega

theorem few_keys (S : Nat) (l : List Lit) (hn : l.Pairwise (· ≠ ·)) (h : ∀ x ∈ l, ∃ i : Nat, i < S ∧ x = .int .i64 i) : l.length ≤ S := by
  let g : Lit → Nat := fun x => match x with | .int _ n => n.toNat | _ => 0
  have hg : ∀ x ∈ l, g x < S ∧ x = .int .i64 (g x) := fun x hx => by
    obtain ⟨i, hi, rfl⟩ := h x hx
    exact ⟨by simpa [g] using hi, by simp [g]⟩
  have := few_nats S (l.map g) ?_ ?_
  · simpa using this
  · unfold List.Nodup
    rw [List.pairwise_map]
    refine List.Pairwise.imp_of_mem ?_ hn
    intro a b ha hb hab e
    exact hab (by rw [(hg a ha).2, (hg b hb).2, e])
  · intro x hx
    obtain ⟨y, hy, rfl⟩ := List.mem_map.1 hx
    exact (hg y hy).1

/-- block b of w is a map of blocks; at most S places are in it -/
structure MapIs (P : Program) (k : TypeId) (w : World) (b S : Nat) (f : Int → List UInt8) : Prop where
  get : ∃ D : DataW Unit, w.ownsMap P k blkR b 65536 D ∧ (∀ i : Int, D.atKey (.int .i64 i) (blkD zero32) = blkD (f i)) ∧ (∀ kl, Maps.has D kl = true → ∃ i : Nat, i < S ∧ kl = .int .i64 i)
  len : ∀ i, (f i).length = 32

section
variable {P : Program} {k t e : TypeId} {w : World} {b S : Nat} {f : Int → List UInt8}

theorem MapIs.made (w : World) (P : Program) (k : TypeId) (S : Nat) : MapIs P k (w.alloc (.map #[] 0)) w.heap.size S (fun _ => zero32) :=
  ⟨⟨_, (World.ownsMap_made w P k blkR).mono (Nat.zero_le _), fun _ => rfl, fun kl h => by simp [Maps.has] at h⟩, fun _ => by simp [zero32]⟩

theorem MapIs.obj (h : MapIs P k w b S f) : ∃ es c, w.heap[b]? = some (.map es c) := by
  obtain ⟨⟨D, ⟨es, c, hb, _⟩, _⟩, _⟩ := h
  exact ⟨es, c, hb⟩

theorem MapIs.lt (h : MapIs P k w b S f) : b < w.heap.size := by obtain ⟨_, _, hb⟩ := h.obj; exact lt_of_heap hb

theorem MapIs.same {w' : World} (h : MapIs P k w b S f) (hb : w'.heap[b]? = w.heap[b]?) : MapIs P k w' b S f := by
  obtain ⟨⟨D, ⟨es, c, h1, r⟩, h2, h3⟩, hl⟩ := h
  exact ⟨⟨D, ⟨es, c, hb.trans h1, r⟩, h2, h3⟩, hl⟩

theorem MapIs.agree {w' : World} {Q : Nat → Prop} (h : MapIs P k w b S f) (ha : Agree Q w w') (hq : Q b) : MapIs P k w' b S f := by
  obtain ⟨es, c, hb⟩ := h.obj
  exact h.same ((ha.2 b hq _ hb).trans hb.symm)

theorem MapIs.lookup (h : MapIs P k w b S f) (K : Keyed P k) (hk : P.underlying k = some (.int .i64)) (ht : P.underlying t = some (.map k e)) (hz : (zeroValue e).run P w = .ok (blkV zero32) w) {i : Int} (hi : (Lit.int .i64 i).wf = true) :
    (Instr.lookup t (.map (some b)) (.int .i64 i) false).run P w = .ok (blkV (f i)) w := by
  obtain ⟨⟨D, hown, hat, _⟩, hl⟩ := h
  obtain ⟨v, ps, hrun, hv⟩ := hown.lookup (zd := blkD zero32) (zp := []) K ht hz (blkR_mk (by simp [zero32])) (Maps.keyOf_int_mk hk hi)
  obtain ⟨l, hl1, rfl, he⟩ := blkR_inv hv
  rw [hat] at he
  have : blkD (f i) = blkD l := by injection he
  rw [blkD_inj this]
  exact hrun

theorem MapIs.update (h : MapIs P k w b S f) (K : Keyed P k) (hk : P.underlying k = some (.int .i64)) (ht : P.underlying t = some (.map k e)) (hS : S ≤ 65536) {i : Nat} (hi : i < S) {l : List UInt8} (hl : l.length = 32) :
    ∃ w', (Instr.mapUpdate t (.map (some b)) (.int .i64 i) (blkV l)).run P w = .ok () w' ∧ MapIs P k w' b S (fun j => if j = i then l else f j) ∧ w.grownBy w' (some b) := by
  obtain ⟨⟨D, hown, hat, hhas⟩, hlen⟩ := h
  have hw : (Lit.int .i64 i).wf = true := by
    simp only [Lit.wf, Bool.and_eq_true, decide_eq_true_eq]
    exact ⟨by show (-9223372036854775808 : Int) ≤ _; omega, by show _ ≤ (9223372036854775807 : Int); omega⟩
  have hkey := Maps.keyOf_int_mk hk hw
  have hlit : WideAt.IsKeyLit (.int .i64 (i : Int)) := K.key hkey
  obtain ⟨es0, hD, _, _⟩ := hown.entries K
  have hmap : Maps.IsMap D := ⟨es0, hD⟩
  obtain ⟨w', hrun, hown', hg⟩ := hown.update K ht (by unfold maxLen; omega) hkey (blkR_mk hl)
  refine ⟨w', hrun, ⟨⟨D.put (.int .i64 i) (blkD l), ?_, ?_, ?_⟩, ?_⟩, hg⟩
  · obtain ⟨es, c, hb, F, hs, he⟩ := hown'
    refine ⟨es, c, hb, F, ?_, he⟩
    obtain ⟨es1, hD1, hpw, _⟩ := World.ownsMap.entries ⟨es, c, hb, F, hs, he⟩ K
    have hes : es.size = es1.length := by
      rw [he] at hD1
      have : es1 = (es.toList.map (WideElems.rg P k blkR)).foldr DataW.insert [] := by injection hD1 with h; exact h.symm
      rw [this, length_sorted]; simp
    rw [hes, ← List.length_map (f := fun p : Lit × DataW Unit => p.1)]
    refine Nat.le_trans (few_keys S _ (List.pairwise_map.2 hpw) fun x hx => ?_) hS
    obtain ⟨p, hp, rfl⟩ := List.mem_map.1 hx
    by_cases hpi : p.1 = .int .i64 i
    · exact ⟨i, hi, hpi⟩
    · refine hhas p.1 ?_
      rw [← Maps.has_put_other (D := D) (k := .int .i64 i) hpi (blkD l), hD1, Maps.has_eq]
      have hkp : WideAt.IsKeyLit p.1 := by
        obtain ⟨es2, hD2, _, hk2⟩ := World.ownsMap.entries ⟨es, c, hb, F, hs, he⟩ K
        rw [hD1] at hD2
        have : es1 = es2 := by injection hD2
        exact hk2 p (this ▸ hp)
      exact List.any_eq_true.2 ⟨p, hp, WideAt.sameKey_self hkp⟩
  · intro j
    by_cases hj : j = i
    · subst hj
      rw [Maps.atKey_put_same hmap hlit, if_pos rfl]
    · rw [Maps.atKey_put_other (by intro e; injection e with _ e; exact hj e), hat, if_neg hj]
  · intro kl hkl
    by_cases hki : kl = .int .i64 i
    · exact ⟨i, hi, hki⟩
    · rw [Maps.has_put_other hki] at hkl
      exact hhas kl hkl
  · intro j
    show (if j = (i : Int) then l else f j).length = 32
    split
    · exact hl
    · exact hlen j
end
end Go.Proofs.Ytenihlicjahjhaa

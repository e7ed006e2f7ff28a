/-
  Bytes: rows of bytes: parts of them, copies, and whether two are one.
-/
import Derived.Test.YtenihlicjahjhaaRegn
import Derived.Test.YtenihlicjahjhaaShelf
import Derived.Lib.Hide
set_option linter.unusedVariables false
set_option linter.unusedSimpArgs false
namespace Go.Proofs.Ytenihlicjahjhaa
open Go Go.RowKit Go.Proofs

theorem Bts.mk {Q : Nat → Prop} {w : World} {l : List UInt8} {n c g o : Nat} (hn : l.length = n) (hc : n ≤ c) (hm : c ≤ maxLen) (hg : Q g) (hr : w.rangeAt g o (Lib.byteCells l)) : Bts Q w (.slice (some ⟨g, o, none⟩) n c) l := by
  subst hn
  exact ⟨_, _, rfl, hc, hm, fun _ => ⟨g, o, rfl, hg, hr⟩⟩

theorem range_part {w : World} {g o : Nat} {l : List UInt8} (hr : w.rangeAt g o (Lib.byteCells l)) (i n : Nat) : w.rangeAt g (o + i) (Lib.byteCells ((l.drop i).take n)) := by
  intro j u hj
  unfold Lib.byteCells at hj
  rw [List.getElem?_map, List.getElem?_take] at hj
  split at hj
  · rw [List.getElem?_drop] at hj
    rw [Nat.add_assoc]
    refine hr (i + j) u ?_
    unfold Lib.byteCells
    rw [List.getElem?_map]
    exact hj
  · cases hj

def ints (l : List UInt8) : List Int := l.map fun b => (b.toNat : Int)
theorem ints_cells (l : List UInt8) : (ints l).map (Value.int .u8) = Lib.byteCells l := by simp [ints, Lib.byteCells]
theorem ints_length (l : List UInt8) : (ints l).length = l.length := by simp [ints]
theorem ints_inj {a b : List UInt8} (h : ints a = ints b) : a = b :=
  (List.map_inj_right (fun x y e => UInt8.toNat_inj.1 (by have : (x.toNat : Int) = y.toNat := e; omega))).1 h
theorem ints_getD (l : List UInt8) (i : Nat) (h : i < l.length) : (ints l).getD i 0 = ((l[i]'h).toNat : Int) := by
  simp [ints, List.getD_eq_getElem?_getD, List.getElem?_eq_getElem h]

theorem range_ints {w : World} {g o : Nat} {l : List UInt8} (hr : w.rangeAt g o (Lib.byteCells l)) : ∀ i, i < l.length → w.cell? ((⟨g, o, none⟩ : Addr).add i) = some (.int .u8 ((ints l).getD i 0)) := by
  intro i hi
  rw [Addr.add_mid, ints_getD l i hi]
  exact hr i _ (byteCells_get (List.getElem?_eq_getElem hi))

theorem Clone_calls {Q : Nat → Prop} {w : World} {v : Value} {l : List UInt8} (hv : Bts Q w v l) (hl : l.length ≤ 140737488355328) :
    Calls Try.prog 100 #[v] w fun e w' => ∃ u, e = .returned u ∧ w'.ownsRow w.heap.size 5 1 u l.length (Lib.byteCells l) ∧ Below w.heap.size w w' := by
  obtain ⟨a, c, rfl, h1, h2, h3⟩ := hv
  cases a with
  | none =>
    have : l = [] := Classical.byContradiction fun h => by obtain ⟨g, o, e, _⟩ := h3 h; cases e
    subst this
    refine (Try.bytes_Clone_nil _ _ w).mono ?_
    rintro e w' ⟨rfl, rfl⟩
    exact ⟨_, rfl, World.ownsRow_nil _ _ _ _, Below.refl _ _⟩
  | some a =>
    refine (Try.bytes_Clone_at a l.length c (ints l) w (ints_length l) hl ?_).mono ?_
    · intro i hi
      obtain ⟨g, o, e, _, hr⟩ := h3 (by intro e; subst e; simp at hi)
      cases e
      exact range_ints hr i hi
    · rintro e w' ⟨u, rfl, ho, _, hb⟩
      exact ⟨u, rfl, by rw [ints_cells] at ho; exact ho, hb⟩

theorem bts_in {Q : Nat → Prop} {w : World} {a : Option Addr} {n c : Nat} {l : List UInt8} (h : Bts Q w (.slice a n c) l) : Lib.BytesIn w a n (ints l) := by
  obtain ⟨a', c', e, _, _, h3⟩ := h
  cases e
  intro hn
  obtain ⟨g, o, rfl, _, hr⟩ := h3 (List.length_pos_iff.1 hn)
  exact ⟨g, o, rfl, fun i hi => by rw [ints_getD l i hi]; exact hr i _ (byteCells_get (List.getElem?_eq_getElem hi))⟩

theorem bytesOf_ints (l : List UInt8) : Lib.bytesOf (ints l) = l := by
  simp [Lib.bytesOf, ints, Function.comp_def]

theorem Equal_calls {Q Q' : Nat → Prop} {w : World} {v u : Value} {a b : List UInt8} (ha : Bts Q w v a) (hb : Bts Q' w u b) :
    Calls Try.prog 132 #[v, u] w fun e w' => e = .returned (.bool (a == b)) ∧ w' = w := by
  obtain ⟨a1, c1, rfl, h1⟩ := id ha
  obtain ⟨a2, c2, rfl, h2⟩ := id hb
  refine (Try.bytes_Equal_all a1 a2 _ c1 _ c2 (ints a) (ints b) w (ints_length a) (ints_length b) (bts_in ha) (bts_in hb)).mono ?_
  rintro e w' ⟨rfl, rfl⟩
  rw [bytesOf_ints, bytesOf_ints]
  exact ⟨rfl, rfl⟩
end Go.Proofs.Ytenihlicjahjhaa

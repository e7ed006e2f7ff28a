/-
  Regn: blocks of memory by regions: what a call may turn, and what stays as it lay; slices of bytes.
-/
import Derived.Test.YtenihlicjahjhaaMem
import Derived.Deep.MidRow
import Derived.Lib.UnsafeStr
set_option linter.unusedVariables false
set_option linter.unusedSimpArgs false
namespace Go.Proofs.Ytenihlicjahjhaa
open Go Go.RowKit Go.Proofs

/-- from w to w' only blocks of R have turned; R' holds of R, and of what is new -/
structure Reg (R : Nat → Prop) (w : World) (R' : Nat → Prop) (w' : World) : Prop where
  os : w'.os = w.os
  tape : w'.tape = w.tape
  output : w'.output = w.output
  size : w.heap.size ≤ w'.heap.size
  keep : ∀ k, k < w.heap.size → ¬ R k → w'.heap[k]? = w.heap[k]?
  new : ∀ k, R' k → R k ∨ w.heap.size ≤ k

def Out (Q R : Nat → Prop) : Prop := ∀ k, Q k → ¬ R k
def Within (Q : Nat → Prop) (w : World) : Prop := ∀ k, Q k → k < w.heap.size
/-- what lies in Q lies as it lay -/
def Agree (Q : Nat → Prop) (w w' : World) : Prop := w.heap.size ≤ w'.heap.size ∧ ∀ k, Q k → ∀ o, w.heap[k]? = some o → w'.heap[k]? = some o
/-- R, and what has come since w -/
def Grw (R : Nat → Prop) (w w' : World) (k : Nat) : Prop := R k ∨ (w.heap.size ≤ k ∧ k < w'.heap.size)

namespace Reg
variable {R R' R'' S S' : Nat → Prop} {w w' w'' : World}
theorem refl (R : Nat → Prop) (w : World) : Reg R w R w := ⟨rfl, rfl, rfl, Nat.le_refl _, fun _ _ _ => rfl, fun _ h => .inl h⟩
theorem trans (h : Reg R w R' w') (k : Reg R' w' R'' w'') : Reg R w R'' w'' :=
  ⟨k.os.trans h.os, k.tape.trans h.tape, k.output.trans h.output, Nat.le_trans h.size k.size,
    fun i hi hn => (k.keep i (Nat.lt_of_lt_of_le hi h.size) (fun hr => (h.new i hr).elim hn (fun e => by omega))).trans (h.keep i hi hn),
    fun i hi => (k.new i hi).elim (h.new i) (fun e => .inr (Nat.le_trans h.size e))⟩
theorem sub (h : Reg R w R' w') (hR : ∀ k, R k → S k) (hS : ∀ k, S' k → S k ∨ w.heap.size ≤ k) : Reg S w S' w' :=
  ⟨h.os, h.tape, h.output, h.size, fun k hk hn => h.keep k hk (fun hr => hn (hR k hr)), hS⟩
theorem to (h : Reg R w R' w') (hS : ∀ k, S' k → R k ∨ w.heap.size ≤ k) : Reg R w S' w' := h.sub (fun _ h => h) hS
theorem grw (h : Reg R w R' w') : Reg R w (Grw R w w') w' := h.to fun k hk => hk.imp id And.left
theorem alloc (h : Reg R w R' w') (o : Obj) (hS : ∀ k, S' k → R' k ∨ w'.heap.size ≤ k) : Reg R w S' (w'.alloc o) :=
  h.trans ⟨rfl, rfl, rfl, by simp, fun k hk _ => Below.heap_alloc w' o k hk, hS⟩
theorem drew (h : Reg R w R' w') : Reg R w R' w'.drew := ⟨h.os, h.tape, h.output, h.size, h.keep, h.new⟩
theorem setCell (h : Reg R w R' w') {a : Addr} (ha : R' a.block) (v : Value) : Reg R w R' (w'.setCell a v) :=
  h.trans ⟨rfl, rfl, rfl, by simp [World.setCell], fun k hk hn => Below.heap_setCell w' a v k (fun e => hn (e ▸ ha)), fun _ h => .inl h⟩
theorem grown (h : Reg R w R' w') {row : Option Nat} (hg : w'.grownBy w'' row) (hr : ∀ g, row = some g → R' g) (hS : ∀ k, S' k → R' k ∨ w'.heap.size ≤ k) : Reg R w S' w'' :=
  h.trans ⟨hg.os, hg.tape, hg.output, hg.size, fun k hk hn => hg.block k hk (fun e => hn (hr k e.symm)), hS⟩
theorem below (h : Reg R w R' w') (hb : Below w'.heap.size w' w'') (hS : ∀ k, S' k → R' k ∨ w'.heap.size ≤ k) : Reg R w S' w'' :=
  h.trans ⟨hb.os, hb.tape, hb.output, hb.size, fun k hk _ => hb.block k hk, hS⟩
theorem toBelow (h : Reg R w R' w') {B : Nat} (hB : ∀ k, R k → B ≤ k) (hw : B ≤ w.heap.size) : Below B w w' :=
  ⟨h.os, h.tape, h.output, h.size, fun k hk => h.keep k (by omega) (fun hr => by have := hB k hr; omega)⟩
theorem at' (h : Reg R w R' w') {k : Nat} {o : Obj} (hk : w.heap[k]? = some o) (hn : ¬ R k) : w'.heap[k]? = some o := (h.keep k (lt_of_heap hk) hn).trans hk
theorem agree (h : Reg R w R' w') {Q : Nat → Prop} (hq : Out Q R) : Agree Q w w' := ⟨h.size, fun k hk o ho => h.at' ho (hq k hk)⟩
theorem out (h : Reg R w R' w') {Q : Nat → Prop} (hq : Out Q R) (hw : Within Q w) : Out Q R' := fun k hk hr => (h.new k hr).elim (hq k hk) (fun e => by have := hw k hk; omega)
theorem within (h : Reg R w R' w') {Q : Nat → Prop} (hw : Within Q w) : Within Q w' := fun k hk => Nat.lt_of_lt_of_le (hw k hk) h.size
end Reg

/-- from w to w' only blocks of R have turned, and new ones were laid -/
structure Upd (R : Nat → Prop) (w w' : World) : Prop where
  os : w'.os = w.os
  tape : w'.tape = w.tape
  output : w'.output = w.output
  size : w.heap.size ≤ w'.heap.size
  keep : ∀ k, k < w.heap.size → ¬ R k → w'.heap[k]? = w.heap[k]?

namespace Upd
variable {R R' : Nat → Prop} {w w' w'' : World}
theorem refl (R : Nat → Prop) (w : World) : Upd R w w := ⟨rfl, rfl, rfl, Nat.le_refl _, fun _ _ _ => rfl⟩
theorem trans (h : Upd R w w') (k : Upd R' w' w'') (hR : ∀ k, R' k → R k ∨ w.heap.size ≤ k) : Upd R w w'' :=
  ⟨k.os.trans h.os, k.tape.trans h.tape, k.output.trans h.output, Nat.le_trans h.size k.size,
    fun i hi hn => (k.keep i (Nat.lt_of_lt_of_le hi h.size) (fun hr => (hR i hr).elim hn (fun e => by omega))).trans (h.keep i hi hn)⟩
theorem sub (h : Upd R w w') (hR : ∀ k, R k → R' k) : Upd R' w w' := ⟨h.os, h.tape, h.output, h.size, fun k hk hn => h.keep k hk (fun hr => hn (hR k hr))⟩
theorem alloc (h : Upd R w w') (o : Obj) : Upd R w (w'.alloc o) := h.trans (R' := fun _ => False) ⟨rfl, rfl, rfl, by simp, fun k hk _ => Below.heap_alloc w' o k hk⟩ (fun _ h => h.elim)
theorem drew (h : Upd R w w') : Upd R w w'.drew := ⟨h.os, h.tape, h.output, h.size, h.keep⟩
theorem drewN (h : Upd R w w') (n : Nat) : Upd R w (w'.drewN n) := ⟨h.os, h.tape, h.output, h.size, h.keep⟩
theorem setCell (h : Upd R w w') {a : Addr} (ha : R a.block ∨ w.heap.size ≤ a.block) (v : Value) : Upd R w (w'.setCell a v) :=
  h.trans (R' := fun k => k = a.block) ⟨rfl, rfl, rfl, by simp [World.setCell], fun k _ hn => Below.heap_setCell w' a v k hn⟩ (fun k e => by subst e; exact ha)
theorem grown (h : Upd R w w') {row : Option Nat} (hg : w'.grownBy w'' row) (hr : ∀ g, row = some g → R g ∨ w.heap.size ≤ g) : Upd R w w'' :=
  h.trans (R' := fun k => row = some k) ⟨hg.os, hg.tape, hg.output, hg.size, fun k hk hn => hg.block k hk (fun e => hn e.symm)⟩ hr
theorem below (h : Upd R w w') (hb : Below w'.heap.size w' w'') : Upd R w w'' :=
  h.trans (R' := fun _ => False) ⟨hb.os, hb.tape, hb.output, hb.size, fun k hk _ => hb.block k hk⟩ (fun _ h => h.elim)
theorem toBelow (h : Upd R w w') {B : Nat} (hB : ∀ k, R k → B ≤ k) (hw : B ≤ w.heap.size) : Below B w w' :=
  ⟨h.os, h.tape, h.output, h.size, fun k hk => h.keep k (by omega) (fun hr => by have := hB k hr; omega)⟩
theorem at' (h : Upd R w w') {k : Nat} {o : Obj} (hk : w.heap[k]? = some o) (hn : ¬ R k) : w'.heap[k]? = some o := (h.keep k (lt_of_heap hk) hn).trans hk
theorem agree (h : Upd R w w') {Q : Nat → Prop} (hq : Out Q R) : Agree Q w w' := ⟨h.size, fun k hk o ho => h.at' ho (hq k hk)⟩
theorem reg (h : Upd R w w') : Reg R w (Grw R w w') w' := ⟨h.os, h.tape, h.output, h.size, h.keep, fun k hk => hk.imp id And.left⟩
end Upd
theorem Reg.upd {R R' : Nat → Prop} {w w' : World} (h : Reg R w R' w') : Upd R w w' := ⟨h.os, h.tape, h.output, h.size, h.keep⟩
theorem Upd.of_below {w w' : World} (h : Below w.heap.size w w') (R : Nat → Prop) : Upd R w w' := (Upd.refl R w).below h

theorem Reg.of_below {w w' : World} (h : Below w.heap.size w w') (R : Nat → Prop) : Reg R w R w' := (Reg.refl R w).below h (fun _ h => .inl h)
theorem Out.symm {Q R : Nat → Prop} (h : Out Q R) : Out R Q := fun k hr hq => h k hq hr
theorem Out.grw {Q R : Nat → Prop} {w w' : World} (h : Out Q R) (hw : Within Q w) : Out Q (Grw R w w') := fun k hk hr => hr.elim (h k hk) (fun e => by have := hw k hk; omega)
theorem Within.grw {R : Nat → Prop} {w w' : World} (h : Within R w) (hs : w.heap.size ≤ w'.heap.size) : Within (Grw R w w') w' := fun k hk => hk.elim (fun e => Nat.lt_of_lt_of_le (h k e) hs) And.right
theorem Agree.refl (Q : Nat → Prop) (w : World) : Agree Q w w := ⟨Nat.le_refl _, fun _ _ _ h => h⟩
theorem Agree.trans {Q : Nat → Prop} {a b c : World} (h : Agree Q a b) (k : Agree Q b c) : Agree Q a c := ⟨Nat.le_trans h.1 k.1, fun i hi o ho => k.2 i hi o (h.2 i hi o ho)⟩
theorem Agree.mono {Q Q' : Nat → Prop} {a b : World} (h : Agree Q a b) (hq : ∀ k, Q' k → Q k) : Agree Q' a b := ⟨h.1, fun k hk => h.2 k (hq k hk)⟩
theorem Agree.below {Q : Nat → Prop} {w w' : World} (h : Below w.heap.size w w') : Agree Q w w' := ⟨h.size, fun k _ o ho => (h.block k (lt_of_heap ho)).trans ho⟩
theorem Agree.cell {Q : Nat → Prop} {w w' : World} (h : Agree Q w w') {g o : Nat} {v : Value} (hg : Q g) (hc : w.cell? ⟨g, o, none⟩ = some v) : w'.cell? ⟨g, o, none⟩ = some v := by
  unfold World.cell? at hc ⊢
  dsimp only at hc ⊢
  cases hh : w.heap[g]? with
  | none => rw [hh] at hc; cases hc
  | some ob => rw [hh] at hc; rw [h.2 g hg _ hh]; exact hc
theorem Agree.row {Q : Nat → Prop} {w w' : World} (h : Agree Q w w') {b e size : Nat} {v : Value} {n : Nat} {xs : List Value} (hv : ∀ g, v.ownBlock = some g → Q g) (ho : w.ownsRow b e size v n xs) : w'.ownsRow b e size v n xs := by
  obtain ⟨h1, h2⟩ := ho
  refine ⟨h1, ?_⟩
  rcases h2 with h2 | ⟨g, cap, cur, rfl, hg, hh, r⟩
  · exact .inl h2
  · exact .inr ⟨g, cap, cur, rfl, hg, h.2 g (hv g rfl) _ hh, r⟩

/-- a slice of bytes in memory, in blocks of Q -/
def Bts (Q : Nat → Prop) (w : World) (v : Value) (l : List UInt8) : Prop :=
  ∃ a c, v = .slice a l.length c ∧ l.length ≤ c ∧ c ≤ maxLen ∧ (l ≠ [] → ∃ g o, a = some ⟨g, o, none⟩ ∧ Q g ∧ w.rangeAt g o (Lib.byteCells l))

theorem Bts.nil (Q : Nat → Prop) (w : World) : Bts Q w (.slice none 0 0) [] := ⟨none, 0, rfl, Nat.le_refl _, Nat.zero_le _, fun h => absurd rfl h⟩
theorem Bts.agree {Q : Nat → Prop} {w w' : World} {v : Value} {l : List UInt8} (h : Bts Q w v l) (ha : Agree Q w w') : Bts Q w' v l := by
  obtain ⟨a, c, rfl, h1, h2, h3⟩ := h
  refine ⟨a, c, rfl, h1, h2, fun hl => ?_⟩
  obtain ⟨g, o, rfl, hg, hr⟩ := h3 hl
  exact ⟨g, o, rfl, hg, fun j u hj => ha.cell hg (hr j u hj)⟩
theorem Bts.mono {Q Q' : Nat → Prop} {w : World} {v : Value} {l : List UInt8} (h : Bts Q w v l) (hq : ∀ k, k < w.heap.size → Q k → Q' k) : Bts Q' w v l := by
  obtain ⟨a, c, rfl, h1, h2, h3⟩ := h
  refine ⟨a, c, rfl, h1, h2, fun hl => ?_⟩
  obtain ⟨g, o, rfl, hg, hr⟩ := h3 hl
  refine ⟨g, o, rfl, hq g ?_ hg, hr⟩
  have hpos : 0 < l.length := List.length_pos_iff.2 hl
  have := hr 0 (.int .u8 (l[0]'hpos).toNat) (by simp [Lib.byteCells, List.getElem?_eq_getElem hpos])
  exact World.block_lt_of_cell? w _ this
theorem Bts.len {Q : Nat → Prop} {w : World} {v : Value} {l : List UInt8} (h : Bts Q w v l) : l.length ≤ maxLen := by obtain ⟨a, c, _, h1, h2, _⟩ := h; omega

theorem byteCells_get {l : List UInt8} {k : Nat} {b : UInt8} (h : l[k]? = some b) : (Lib.byteCells l)[k]? = some (.int .u8 b.toNat) := by simp [Lib.byteCells, h]
theorem byteCells_one (l : List UInt8) : ∀ u ∈ Lib.byteCells l, u.oneCell' = true := by
  intro u hu
  obtain ⟨b, _, rfl⟩ := List.mem_map.1 hu
  rfl
theorem byteCells_append (a b : List UInt8) : Lib.byteCells (a ++ b) = Lib.byteCells a ++ Lib.byteCells b := by simp [Lib.byteCells]
theorem byteCells_inj {a b : List UInt8} (h : Lib.byteCells a = Lib.byteCells b) : a = b := by
  unfold Lib.byteCells at h
  exact (List.map_inj_right (fun x y e => by
    have : (x.toNat : Int) = y.toNat := by injection e
    exact UInt8.toNat_inj.1 (by omega))).1 h

/-- a row of bytes that is owned, read as a slice -/
theorem Bts.of_row {w : World} {b : Nat} {v : Value} {n : Nat} {l : List UInt8} (h : w.ownsRow b 5 1 v n (Lib.byteCells l)) (Q : Nat → Prop) (hQ : ∀ g, v.ownBlock = some g → Q g) : Bts Q w v l := by
  have hn : l.length = n := by have := h.1; rw [Lib.byteCells_length] at this; omega
  subst hn
  rcases h.2 with ⟨rfl, h0⟩ | ⟨g, cap, cur, rfl, hg, hh, h1, h2, h3, h4⟩
  · have : l = [] := List.eq_nil_of_length_eq_zero h0
    subst this
    exact Bts.nil Q w
  · refine ⟨_, _, rfl, h1, h2, fun _ => ⟨g, 0, rfl, hQ g rfl, fun j u hj => ?_⟩⟩
    have := h.cells (g := g) rfl j u hj
    rwa [Addr.add_mid] at this
end Go.Proofs.Ytenihlicjahjhaa

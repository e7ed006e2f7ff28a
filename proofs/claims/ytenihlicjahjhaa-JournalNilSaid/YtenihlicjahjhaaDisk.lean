/-
  Disk: a disk in memory, and the contracts of its methods.
-/
import Derived.Test.YtenihlicjahjhaaRope1
import Derived.Test.YtenihlicjahjhaaMapIs
import Derived.Maps.AppendAt
import Derived.Maps.OwnOps
import Derived.Deep.WholeRow
import Derived.Lib.Hide
import Derived.Deep.LoopGhost
set_option linter.unusedVariables false
set_option linter.unusedSimpArgs false
namespace Go.Proofs.Ytenihlicjahjhaa
open Go Go.RowKit Go.Proofs
open Go.Maps (Keyed)

structure DiskG where
  size : Nat
  first : Int → List UInt8
  now : Int → List UInt8
  calls : List (Int × List UInt8)

def callCells (c : Int × List UInt8) : List Value := .int .i64 c.1 :: Lib.byteCells c.2
def callsCells (L : List (Int × List UInt8)) : List Value := L.flatMap callCells

theorem callsCells_snoc (L : List (Int × List UInt8)) (c : Int × List UInt8) : callsCells (L ++ [c]) = callsCells L ++ callCells c := by simp [callsCells]

theorem intK : Keyed Try.prog 3 := Maps.int_keyed Try.underlying3

structure DiskAt (R : Nat → Prop) (w : World) (d m1 m2 : Nat) (v : Value) (G : DiskG) : Prop where
  obj : w.heap[d]? = some (.cells #[.int .i64 G.size, .map (some m1), .map (some m2), v] 188)
  first : MapIs Try.prog 3 w m1 G.size G.first
  now : MapIs Try.prog 3 w m2 G.size G.now
  ne : m1 ≠ m2
  calls : w.ownsRow 0 192 33 v G.calls.length (callsCells G.calls)
  rd : R d
  r1 : R m1
  r2 : R m2
  rv : ∀ g, v.ownBlock = some g → R g
  pos : 1 ≤ G.size
  big : G.size ≤ 65536
  lens : ∀ c ∈ G.calls, c.2.length = 32

/-- a disk in memory; its blocks lie in R -/
def IsDisk (R : Nat → Prop) (w : World) (d : Nat) (G : DiskG) : Prop := ∃ m1 m2 v, DiskAt R w d m1 m2 v G

theorem IsDisk.agree {R : Nat → Prop} {w w' : World} {d : Nat} {G : DiskG} (h : IsDisk R w d G) (ha : Agree R w w') : IsDisk R w' d G := by
  obtain ⟨m1, m2, v, h⟩ := h
  exact ⟨m1, m2, v, ha.2 d h.rd _ h.obj, h.first.agree ha h.r1, h.now.agree ha h.r2, h.ne, ha.row h.rv h.calls, h.rd, h.r1, h.r2, h.rv, h.pos, h.big, h.lens⟩
theorem IsDisk.mono {R R' : Nat → Prop} {w : World} {d : Nat} {G : DiskG} (h : IsDisk R w d G) (hR : ∀ k, k < w.heap.size → R k → R' k) : IsDisk R' w d G := by
  obtain ⟨m1, m2, v, h⟩ := h
  exact ⟨m1, m2, v, h.obj, h.first, h.now, h.ne, h.calls, hR _ (lt_of_heap h.obj) h.rd, hR _ h.first.lt h.r1, hR _ h.now.lt h.r2, fun g hg => hR _ (h.calls.lt g hg).2 (h.rv g hg), h.pos, h.big, h.lens⟩
theorem IsDisk.bel {R : Nat → Prop} {w w' : World} {d : Nat} {G : DiskG} (h : IsDisk R w d G) (hb : Below w.heap.size w w') : IsDisk R w' d G := h.agree (Agree.below hb)
theorem IsDisk.drewN {R : Nat → Prop} {w : World} {d : Nat} {G : DiskG} (h : IsDisk R w d G) (n : Nat) : IsDisk R (w.drewN n) d G := h.agree ⟨Nat.le_refl _, fun _ _ _ h => h⟩

theorem Blocks_calls {R : Nat → Prop} {w : World} {d : Nat} {G : DiskG} (h : IsDisk R w d G) :
    Calls Try.prog 94 #[.pointer (some ⟨d, 0, none⟩)] w fun e w' => e = .returned (.int .i64 G.size) ∧ w = w' := by
  obtain ⟨m1, m2, v, h⟩ := h
  have c0 : w.cell? ⟨d, 0, none⟩ = some (.int .i64 G.size) := cell_row h.obj 0
  clear h
  go_enter Try.func94, Try.ntmps94
  go_wp2_with fail
  go_ret
  exact ⟨rfl, rfl⟩

theorem DCalls_calls {R : Nat → Prop} {w : World} {d : Nat} {G : DiskG} (h : IsDisk R w d G) :
    Calls Try.prog 37 #[.pointer (some ⟨d, 0, none⟩)] w fun e w' => e = .returned (.int .i64 G.calls.length) ∧ w = w' := by
  obtain ⟨m1, m2, v, h⟩ := h
  have c3 : w.cell? ⟨d, 3, none⟩ = some v := cell_row h.obj 3
  obtain ⟨a, c, rfl⟩ : ∃ a c, v = .slice a G.calls.length c := by
    rcases h.calls.2 with ⟨hv, h0⟩ | ⟨g, cap, cur, hv, _⟩
    · rw [h0]; exact ⟨_, _, hv⟩
    · exact ⟨_, _, hv⟩
  clear h
  go_enter Try.func37, Try.ntmps37
  go_wp2_with fail
  go_ret
  exact ⟨rfl, rfl⟩

theorem check_in {R : Nat → Prop} {w : World} {d : Nat} {G : DiskG} {n : Int} (h : IsDisk R w d G) (h0 : 0 ≤ n) (h1 : n < G.size) :
    Calls Try.prog 113 #[.pointer (some ⟨d, 0, none⟩), .int .i64 n] w fun e w' => e = .returned (.int .i64 0) ∧ w = w' := by
  obtain ⟨m1, m2, v, h⟩ := h
  have c0 : w.cell? ⟨d, 0, none⟩ = some (.int .i64 G.size) := cell_row h.obj 0
  clear h
  have d1 : decide (n < 0) = false := by simp only [decide_eq_false_iff_not]; omega
  have d2 : decide ((G.size : Int) ≤ n) = false := by simp only [decide_eq_false_iff_not]; omega
  go_enter Try.func113, Try.ntmps113
  go_wp2_with fail
  go_ret
  exact ⟨rfl, rfl⟩

theorem check_out {R : Nat → Prop} {w : World} {d : Nat} {G : DiskG} {n : Int} (h : IsDisk R w d G) (h0 : n < 0 ∨ G.size ≤ n) :
    Calls Try.prog 113 #[.pointer (some ⟨d, 0, none⟩), .int .i64 n] w fun e w' => e = .returned (.int .i64 21) ∧ w = w' := by
  obtain ⟨m1, m2, v, h⟩ := h
  have c0 : w.cell? ⟨d, 0, none⟩ = some (.int .i64 G.size) := cell_row h.obj 0
  clear h
  by_cases hn : n < 0
  · have d1 : decide (n < 0) = true := by simp only [decide_eq_true_eq]; omega
    go_enter Try.func113, Try.ntmps113
    go_wp2_with fail
    go_ret
    exact ⟨rfl, rfl⟩
  · have d1 : decide (n < 0) = false := by simp only [decide_eq_false_iff_not]; omega
    have d2 : decide ((G.size : Int) ≤ n) = true := by simp only [decide_eq_true_eq]; omega
    go_enter Try.func113, Try.ntmps113
    go_wp2_with fail
    go_ret
    exact ⟨rfl, rfl⟩
end Go.Proofs.Ytenihlicjahjhaa

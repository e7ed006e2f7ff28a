/-
  Text: a part of the proofs about the given program: contracts of its functions, each with the conditions that stand ahead of its colon.
-/
import Derived.Test.YtenihlicjahjhaaParts
import Derived.Shelf.Strings.Builder1
set_option linter.unusedVariables false
set_option linter.unusedSimpArgs false
namespace Go.Proofs.Ytenihlicjahjhaa
open Go Go.RowKit Go.Proofs Go.Shelf

attribute [local go_sem] Oper.semAt_some

/-- parts: the closure over a boxed copy of the rope -/
theorem parts_calls (p : Option Addr) (w : World) :
    Calls Try.prog 104 #[.pointer p] w fun e w' => e = .returned (.func (.func 135) #[] #[.pointer (some ⟨w.heap.size, 0, none⟩)]) ∧ w' = w.alloc (.cells #[.pointer p] 37) := by
  go_enter Try.func104, Try.ntmps104
  go_wp2
  go_ret
  exact ⟨rfl, rfl⟩

theorem B_size : (Try.prog.info? 177).map (·.size) = some 2 := by kernel_rfl
theorem B_lies : liesAt Try.prog Try.prog.depth 177 (2 / Try.prog.cellsOf 177) 0 177 1 = true := by kernel_rfl
theorem info_u8 : (Try.prog.info? 5).map (fun i => (i.zero, i.size, i.bytes)) = some (some (.int .u8 0), 1, 1) := by kernel_rfl

set_option maxRecDepth 100000 in
theorem copyCheck_used (b : Nat) (w : World) (h0 : w.cell? ⟨b, 0, none⟩ = some (.pointer (some ⟨b, 0, none⟩))) :
    Calls Try.prog 136 #[.pointer (some ⟨b, 0, none⟩)] w fun e w' => e = .returned (.tuple #[]) ∧ w' = w := by
  obtain ⟨j, hj, _⟩ := Option.map_eq_some_iff.1 B_size
  go_enter Try.func136, Try.ntmps136
  go_wp2
  rw [Lib.run_neq_ptr_same w _ Try.underlying175 hj]
  go_wp2
  go_end0
  exact ⟨rfl, rfl⟩

set_option maxRecDepth 100000 in
theorem copyCheck_fresh (b : Nat) (w : World) (h0 : w.cell? ⟨b, 0, none⟩ = some (.pointer none)) (hsh : w.shape? b = some (177, 2)) (hfz : w.frozen? ⟨b, 0, none⟩ = false) :
    Calls Try.prog 136 #[.pointer (some ⟨b, 0, none⟩)] w fun e w' => e = .returned (.tuple #[]) ∧ w' = w.setCell ⟨b, 0, none⟩ (.pointer (some ⟨b, 0, none⟩)) := by
  obtain ⟨j, hj, hjs⟩ := Option.map_eq_some_iff.1 B_size
  go_enter Try.func136, Try.ntmps136
  go_wp2
  rw [Lib.run_to_unsafe w ⟨b, 0, none⟩ Try.underlying175 Try.underlying269 hj (by rw [hjs]; decide) hsh (Nat.zero_lt_succ 1)]
  simp only [Result.andThen]
  rw [Oper.upon_value]
  go_wp2
  rw [run_callFunc_extern Try.func170 (by kernel_rfl) (by kernel_rfl) (by kernel_rfl) (e := Extern.AbiNoEscape.same) (by kernel_rfl)]
  rw [Lib.run_noEscape]
  simp only [Result.andThen]
  rw [Oper.upon_value]
  go_wp2
  rw [Lib.run_from_unsafe w ⟨b, 0, none⟩ Try.underlying269 Try.underlying175 hj hsh B_lies]
  simp only [Result.andThen]
  rw [Oper.upon_value]
  go_wp2
  go_end0
  exact ⟨rfl, rfl⟩

theorem copyCheck_calls (B b : Nat) (bs : List Value) (w : World) (h : Lib.IsBuilder 177 5 B b bs w) :
    Calls Try.prog 136 #[.pointer (some ⟨b, 0, none⟩)] w fun e w' => e = .returned (.tuple #[]) ∧ Lib.BuilderAt 177 5 B b (.pointer (some ⟨b, 0, none⟩)) bs w' ∧ Below B w w' ∧ Only (· = 177) w w' := by
  rcases h with h | h
  · refine (copyCheck_fresh b w h.cell0 h.shape h.frozen0).mono ?_
    rintro e w' ⟨rfl, rfl⟩
    obtain ⟨hB, v, hb, _⟩ := id h
    exact ⟨rfl, h.used _, (Below.refl B w).setCell (p := ⟨b, 0, none⟩) h.1 _, Only.setCell (T := (· = 177)) (Only.refl _ w) (a := ⟨b, 0, none⟩) hb rfl _⟩
  · refine (copyCheck_used b w h.cell0).mono ?_
    rintro e w' ⟨rfl, rfl⟩
    exact ⟨rfl, h, Below.refl B _, Only.refl _ _⟩

/-- WriteString onto a builder that the call itself has made -/
theorem WriteString_calls (B b : Nat) (bs : List Value) (s : ByteArray) (w : World) (h : Lib.IsBuilder 177 5 B b bs w) (hlen : bs.length + s.size ≤ 140737488355328) (hBw : B ≤ w.heap.size) :
    Calls Try.prog 105 #[.pointer (some ⟨b, 0, none⟩), .string s] w fun e w' => e = .returned (.tuple #[.int .i64 s.size, .nilIface]) ∧
      Lib.BuilderAt 177 5 B b (.pointer (some ⟨b, 0, none⟩)) (bs ++ Lib.strCells s) w' ∧ Below B w w' ∧ Only (fun t => t = 177 ∨ t = 5) w w' := by
  obtain ⟨i0, hi, hz0, hz1, hz2⟩ := info_parts info_u8
  go_enter Try.func105, Try.ntmps105
  go_wp2_with (go_at_call 136; refine (copyCheck_calls B b bs _ h).mono ?_)
  rintro e w1 ⟨rfl, h1, hb1, ho1⟩
  obtain ⟨hB, v, hbk, hown, hne⟩ := h1
  have c0 : w1.cell? ⟨b, 0, none⟩ = some (.pointer (some ⟨b, 0, none⟩)) := by rw [Lib.cell_of_heap hbk]; rfl
  have c1 : w1.cell? ⟨b, 1, none⟩ = some v := by rw [Lib.cell_of_heap hbk]; rfl
  go_wp2_with (at_builtin; refine Lib.wpList_append_own_string _ rfl _ _ 22 9 rfl B 5 i0 Try.underlying22 Try.underlying9 hi hz0 hz1 hz2 _ _ _ rfl hown s rfl ?c3 ?c4 ?c5 ?_)
  case c3 => unfold maxLen; omega
  case c4 => omega
  case c5 => have := hb1.size; omega
  intro v' w2 hown' hgrow _
  have hlt : b < w1.heap.size := lt_of_heap hbk
  have hb2 : w2.heap[b]? = some (.cells #[.pointer (some ⟨b, 0, none⟩), v] 177 (0, 0)) := by
    rw [hgrow.block b hlt (fun e => hne e.symm)]
    exact hbk
  have d0 : w2.cell? ⟨b, 0, none⟩ = some (.pointer (some ⟨b, 0, none⟩)) := by rw [Lib.cell_of_heap hb2]; rfl
  have d1 : w2.cell? ⟨b, 1, none⟩ = some v := by rw [Lib.cell_of_heap hb2]; rfl
  have f1 : w2.frozen? ⟨b, 1, none⟩ = false := Lib.frozen_of_heap hb2 1
  obtain ⟨ao, n', cap, rfl⟩ : ∃ ao n' cap, v' = .slice ao n' cap := by
    rcases hown'.2 with ⟨hv, _⟩ | ⟨g, cap, cur, hv, _⟩
    · exact ⟨_, _, _, hv⟩
    · exact ⟨_, _, _, hv⟩
  go_wp2
  go_ret2
  refine ⟨rfl, ?_, ?_, ?_⟩
  · exact Lib.BuilderAt.put (T := 177) (e := 5) hB hb2 (bs' := bs ++ Lib.strCells s) (by simpa [Lib.strCells_length] using hown') (by decide)
  · exact (hb1.grown hgrow (by have := hb1.size; omega) (fun k hk => (hown.lt k hk).1)).setCell (p := ⟨b, 1, none⟩) hB _
  · exact ((ho1.mono (fun t h => .inl h)).grown hgrow (fun r hr => by obtain ⟨c, f, hc⟩ := ownsRow_row hown r hr; exact ⟨c, _, f, hc, .inr rfl⟩)).setCell (a := ⟨b, 1, none⟩) hb2 (.inl rfl) _

def BT (t : Nat) : Prop := t = 177 ∨ t = 5

theorem builderAt_keepT {B b : Nat} {q : Value} {bs : List Value} {W W' : World} (h : Lib.BuilderAt 177 5 B b q bs W) (hk : KeepT BT W W') : Lib.BuilderAt 177 5 B b q bs W' := by
  obtain ⟨hB, v, hb, hown, hne⟩ := h
  exact ⟨hB, v, hk.keep _ _ _ _ hb (.inl rfl), ownsRow_keepT hown hk (.inr rfl), hne⟩

theorem isBuilder_keepT {B b : Nat} {bs : List Value} {W W' : World} (h : Lib.IsBuilder 177 5 B b bs W) (hk : KeepT BT W W') : Lib.IsBuilder 177 5 B b bs W' :=
  h.imp (builderAt_keepT · hk) (builderAt_keepT · hk)

/-- what the text that is gathered in a builder needs of the world -/
def Gathers (w : World) (b : Nat) (pre : List (List UInt8)) (W : World) : Prop :=
  Lib.IsBuilder 177 5 w.heap.size b (Lib.byteCells pre.flatten) W ∧ Below w.heap.size w W

theorem Gathers.tame (w w0 : World) (b : Nat) (hw : w.heap.size ≤ w0.heap.size) : Tame (fun A C => Only (· = 37) A C ∧ Below w0.heap.size A C) w0.heap.size (Gathers w b) where
  it _ _ _ h hi := ⟨isBuilder_keepT h.1 (hi.1.keepT (by rintro t (rfl | rfl) <;> decide)), h.2.trans (hi.2.mono hw)⟩
  alloc _ _ o _ hB h := ⟨isBuilder_keepT h.1 ((KeepT.refl _ _).alloc o), h.2.alloc h.2.size o⟩
  put _ W l o o' h hB hl ho := ⟨isBuilder_keepT h.1 ((KeepT.refl _ _).putObj o' hl ho), h.2.grown (grownBy_putObj' W l o') h.2.size (fun k e => by cases e; omega)⟩

set_option maxHeartbeats 1000000 in
theorem Text_calls {R : Nat → Prop} {p : Option Addr} {s : List UInt8} {w : World} (h : IsRope R w p s) (hs : s.length ≤ 65536) :
    Calls Try.prog 35 #[.pointer p] w fun e w' => e = .returned (.string ⟨s.toArray⟩) ∧ Below w.heap.size w w' := by
  obtain ⟨ls, hl, rfl⟩ := h
  refine (callsIn_wide (n := 5)).1 ?_
  refine callsIn_of_wp_marks Try.func35 rfl trivial ?_ rfl
  simp only [Try.ntmps35, List.size_toArray, List.length_cons, List.length_nil, Nat.reduceAdd, Nat.reduceSub, Array.replicate_succ, Array.replicate_zero, List.push_toArray, List.append_toArray, List.nil_append, List.cons_append]
  gi_wp2_with (refine ⟨trivial, ?_⟩; gi_at_call 104; refine (callsIn_wide.2 (parts_calls _ _)).mono ?_; rintro e w' ⟨rfl, rfl⟩)
  have hs1 : ((w.alloc (.cells #[.pointer none, .slice none 0 0] 177)).alloc (.cells #[.pointer p] 37)).heap.size = w.heap.size + 2 := by simp
  have hg0 : Gathers w w.heap.size [] ((w.alloc (.cells #[.pointer none, .slice none 0 0] 177)).alloc (.cells #[.pointer p] 37)) :=
    ⟨isBuilder_keepT (Lib.fresh_isBuilder _ _ w) ((KeepT.refl _ _).alloc _), ((Below.refl _ w).alloc (Nat.le_refl _) _).alloc (by simp) _⟩
  have hl2 : RopeL R ((w.alloc (.cells #[.pointer none, .slice none 0 0] 177)).alloc (.cells #[.pointer p] 37)) p ls :=
    hl.keep fun k c f _ hk => by rw [Below.heap_alloc _ _ _ (by have := lt_of_heap hk; simp; omega), Below.heap_alloc _ _ _ (lt_of_heap hk)]
  have hb2 : ((w.alloc (.cells #[.pointer none, .slice none 0 0] 177)).alloc (.cells #[.pointer p] 37)).heap[w.heap.size + 1]? = some (.cells #[.pointer p] 37) := by
    have := World.alloc_heap_new (w.alloc (.cells #[.pointer none, .slice none 0 0] 177)) (.cells #[.pointer p] 37)
    rwa [World.size_alloc] at this
  generalize ((w.alloc (.cells #[.pointer none, .slice none 0 0] 177)).alloc (.cells #[.pointer p] 37)) = W0 at *
  have hlen : ls.length ≤ 65536 := by
    have : ∀ (l : List (List UInt8)), (∀ t ∈ l, t ≠ []) → l.length ≤ l.flatten.length := by
      intro l
      induction l with
      | nil => simp
      | cons t r ih =>
        intro h
        have h1 := ih (fun t ht => h t (by simp [ht]))
        have h2 : 0 < t.length := List.length_pos_iff.2 (h t (by simp))
        simp only [List.flatten_cons, List.length_append, List.length_cons]; omega
    exact Nat.le_trans (this ls hl.ne) hs
  refine wpIn_rangeFunc_R rfl (by decide) (gf := 135) (lb := #[.pointer (some ⟨w.heap.size + 1, 0, none⟩)]) rfl trivial (enters_of Try.func135 (by kernel_rfl) rfl)
    (parts1_seq 4 (by omega) R p ls (w.heap.size + 1) W0 hl2 hb2 hlen) (fun h k => h.trans k) (fun W o _ => (KeepT.refl _ W).alloc o) (fun W l o o' hl ho => (KeepT.refl _ W).putObj o' hl ho)
    (fun A C k o h hk ho => h.1.keep k o hk (fun c t f e => by subst e; cases ho)) (fun _ => rfl)
    (Gathers w w.heap.size) (fun _ _ _ => False) (Gathers.tame w W0 _ (by omega)) (fun _ => ⟨fun _ _ _ h _ => h, fun _ _ _ _ _ h => h, fun _ _ _ _ _ h _ _ _ => h⟩) hg0
    (fun x => { tmps := #[.pointer p, undef, .string ⟨#[]⟩, .pointer (some ⟨w.heap.size, 0, none⟩), .string ⟨x.toArray⟩, .pointer p, .func (.func 135) #[] #[.pointer (some ⟨w.heap.size + 1, 0, none⟩)], .string ⟨x.toArray⟩, undef, undef, undef], defers := [] }) ?assign ?body ?done ?stop
  case assign =>
    intro l x W K hK
    gi_wp2
    exact hK
  case body =>
    rintro l pre x post W hX ⟨hb, hB⟩
    have hlx : (Lib.byteCells pre.flatten).length + x.length ≤ 65536 := by
      have : ls.flatten.length = pre.flatten.length + (x.length + post.flatten.length) := by rw [hX]; simp only [List.flatten_append, List.flatten_cons, List.length_append]
      rw [Lib.byteCells_length]; omega
    clear hX hlen hl2 hb2 hg0 hl hs
    gi_wp2_with (refine ⟨trivial, ?_⟩; gi_at_call 105; refine (CallsIn.inRound l (callsIn_wide.2 (WriteString_calls _ _ _ _ _ hb (by rw [show (⟨x.toArray⟩ : ByteArray).size = x.length from rfl]; omega) hB.size))).mono ?_; rintro e w' ⟨rfl, hb', hB', hO'⟩)
    refine ⟨hO'.others, hO'.keepT (by rintro t (rfl | rfl) <;> decide), .inr ?_, hB.trans hB'⟩
    rw [show Lib.strCells ⟨x.toArray⟩ = Lib.byteCells x from rfl, ← Lib.byteCells_append] at hb'
    simpa using hb'
  case done =>
    rintro D W hD ⟨hb, hB⟩ hK
    gi_wp2_with (refine ⟨trivial, ?_⟩; gi_at_call 106; refine (callsIn_wide.2 (Try.Builder_String_any_k _ _ _ _ (hb.imp Lib.BuilderAtF.of Lib.BuilderAtF.of) hB.size)).mono ?_; rintro e w' ⟨rfl, _, hB', hO'⟩)
    have hK2 := hO' _ _ hK (by intro e; cases e; omega) (fun _ _ e => by cases e)
    refine ⟨by simp, .inl ⟨_, _, rfl, run_takeDeferred hK2, ?_⟩⟩
    have hBB := hB.trans hB'
    exact ⟨_, results_tmp rfl _ _ _, rfl, hBB.grown (grownBy_putObj' _ _ _) hBB.size (fun k e => by cases e; omega)⟩
  case stop =>
    rintro D c pre W _ _ h _
    exact h.elim
end Go.Proofs.Ytenihlicjahjhaa

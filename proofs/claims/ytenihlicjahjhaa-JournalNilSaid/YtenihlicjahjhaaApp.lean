/-
  App: a record is put behind a journal's others: plain words, and steps.
-/
import Derived.Test.YtenihlicjahjhaaOpen
set_option linter.unusedVariables false
set_option linter.unusedSimpArgs false
namespace Go.Proofs.Ytenihlicjahjhaa
open Go Go.RowKit Go.Proofs

/-- k blocks are written, from the i-th on -/
def appW (first : Nat) (B : List UInt8) : Nat → Nat → DiskG → DiskG
  | _, 0, G => G
  | i, k + 1, G => appW first B (i + 1) k (G.write (first + i) (blk B i))
theorem appW_size (first : Nat) (B : List UInt8) : ∀ (k i : Nat) (G : DiskG), (appW first B i k G).size = G.size
  | 0, _, _ => rfl
  | k + 1, i, G => by rw [appW, appW_size]; rfl
theorem appW_calls (first : Nat) (B : List UInt8) : ∀ (k i : Nat) (G : DiskG), (appW first B i k G).calls.length = G.calls.length + k
  | 0, _, _ => rfl
  | k + 1, i, G => by rw [appW, appW_calls]; simp [DiskG.write]; omega

/-- a journal's bytes with a frame laid over them -/
def layB (B : List UInt8) (at_ : Nat) (f : List UInt8) : List UInt8 := B.take at_ ++ f ++ B.drop (at_ + f.length)
theorem layB_length (B : List UInt8) (n : Nat) (f : List UInt8) (h : n + f.length ≤ B.length) : (layB B n f).length = B.length := by simp [layB]; omega
def JouG.laid (J : JouG) (l : List UInt8) : JouG := { J with bytes := layB J.bytes J.used (frame l), used := J.used + (7 + l.length) }
def JouG.app (J : JouG) (l : List UInt8) : JouG := { J with bytes := layB J.bytes J.used (frame l), used := J.used + (7 + l.length), recs := J.recs ++ [l] }
def appG (J : JouG) (l : List UInt8) (G : DiskG) : DiskG := appW J.first (layB J.bytes J.used (frame l)) (J.used / 32) ((J.used + (7 + l.length) + 31) / 32 - J.used / 32) G

theorem JouG.ok.laid {J : JouG} (h : J.ok) {l : List UInt8} (hl : J.used + (7 + l.length) ≤ J.bytes.length) : (J.laid l).ok := by
  have e : (J.laid l).bytes.length = J.bytes.length := layB_length _ _ _ (by rw [frame_length]; exact hl)
  exact ⟨by rw [e]; exact h.whole, by rw [e]; exact h.pos, by rw [e]; exact h.big, by rw [e]; exact hl, Nat.le_trans h.few (Nat.le_add_right _ _), h.small⟩
theorem JouG.ok.app {J : JouG} (h : J.ok) {l : List UInt8} (hl : J.used + (7 + l.length) ≤ J.bytes.length) : (J.app l).ok := by
  have k := h.laid hl
  refine ⟨k.whole, k.pos, k.big, k.used, ?_, k.small⟩
  have := h.few
  show (J.recs ++ [l]).length ≤ J.used + (7 + l.length)
  rw [List.length_append, List.length_singleton]; omega

/-- copy into a row that is owned, as a step of a region that draws its order -/
theorem step_copy_at {w : World} {ops : Array Oper} {op : Oper} {act : Act} {K : Act → World → Prop} {Q : Exit → Act → World → Prop} {E : Prop} (hgd : op.guard = none) (x y : Operand) (ho : op.op = .call { callee := .builtin .copy, args := #[x, y], argTypes := #[22, 22] })
    (dp sp : Option Addr) (dLen dCap sLen sCap : Nat) (hx : act.eval x = .slice dp dLen dCap) (hy : act.eval y = .slice sp sLen sCap) (bb n c off : Nat) (B S : List UInt8) (hown : w.ownsRow 0 5 1 (.slice (some ⟨bb, 0, none⟩) n c) n (Lib.byteCells B)) (hn : S.length = Nat.min sLen dLen)
    (hpos : 0 < S.length → dp = some ⟨bb, off, none⟩ ∧ ∃ ad, sp = some ad ∧ ∀ j v, (Lib.byteCells S)[j]? = some v → w.cell? (ad.add j) = some v) (hfit : off + S.length ≤ n)
    (h : ∀ w', w'.ownsRow 0 5 1 (.slice (some ⟨bb, 0, none⟩) n c) n (Lib.byteCells (B.take off ++ S ++ B.drop (off + S.length))) → w.grownBy w' (some bb) → K (act.put op.dst (.int .i64 S.length)) w') :
    if Region.wanted op (yielded ops act.tmps) = true then Oper.wp Try.prog op act w K Q else E := by
  have hw : Region.wanted op (yielded ops act.tmps) = true := by simp [Region.wanted, hgd]
  rw [if_pos hw]
  obtain ⟨w', hrun, h1, h2⟩ := exec_copy_own ho hx hy hown hn hpos hfit
  exact wp_exec hrun (h w' h1 h2)

theorem Bts.ne {Q : Nat → Prop} {w : World} {u : Value} {x : List UInt8} {j t : Nat} {cs : Array Value} {f : Nat × Nat} (h : Bts Q w u x) (hobj : w.heap[j]? = some (.cells cs t f)) (hcs : ∀ v ∈ cs.toList, ∀ n, v ≠ .int .u8 n) : Bts (fun k => Q k ∧ k ≠ j) w u x := by
  obtain ⟨a, c, rfl, h1, h2, h3⟩ := h
  refine ⟨a, c, rfl, h1, h2, fun hx => ?_⟩
  obtain ⟨g, o, rfl, hg, hr⟩ := h3 hx
  refine ⟨g, o, rfl, ⟨hg, ?_⟩, hr⟩
  rintro rfl
  have hpos : 0 < x.length := List.length_pos_iff.2 hx
  have h0 := hr 0 _ (byteCells_get (List.getElem?_eq_getElem hpos))
  rw [cell_row hobj] at h0
  exact hcs _ (by rw [← Array.getElem?_toList] at h0; exact List.mem_of_getElem? h0) _ rfl

theorem jou_cells (d first bb n c used : Nat) (rv : Value) (hrv : ∃ a m k, rv = .slice a m k) : ∀ v ∈ (#[.pointer (some ⟨d, 0, none⟩), .int .i64 first, .slice (some ⟨bb, 0, none⟩) n c, .int .i64 used, rv] : Array Value).toList, ∀ k, v ≠ .int .u8 k := by
  obtain ⟨a, m, k, rfl⟩ := hrv
  intro v hv k
  simp at hv
  rcases hv with rfl | rfl | rfl | rfl | rfl <;> simp

/-- behind the frame's copy, and the new count of bytes -/
theorem JouAt.laid {R : Nat → Prop} {w w' : World} {j d bb c : Nat} {rv : Value} {J : JouG} {l : List UInt8} (h : JouAt R w j d bb c rv J) (hl : J.used + (7 + l.length) ≤ J.bytes.length)
    (hrow : w'.ownsRow 0 5 1 (.slice (some ⟨bb, 0, none⟩) J.bytes.length c) J.bytes.length (Lib.byteCells (layB J.bytes J.used (frame l)))) (hgr : w.grownBy w' (some bb)) :
    JouAt R (w'.setCell ⟨j, 3, none⟩ (.int .i64 (J.used + (7 + l.length) : Nat))) j d bb c rv (J.laid l) ∧ Upd (fun k => k = bb ∨ k = j) w (w'.setCell ⟨j, 3, none⟩ (.int .i64 (J.used + (7 + l.length) : Nat))) := by
  have hne : j ≠ bb := by
    rintro rfl
    obtain ⟨cc, ff, hk2⟩ := ownsRow_row h.row j rfl
    rw [h.obj] at hk2; cases hk2
  have ho1 : w'.heap[j]? = _ := (hgr.block j (lt_of_heap h.obj) (fun e => by cases e; exact hne rfl)).trans h.obj
  have e : (J.laid l).bytes.length = J.bytes.length := layB_length _ _ _ (by rw [frame_length]; exact hl)
  have hupd : Upd (fun k => k = bb ∨ k = j) w (w'.setCell ⟨j, 3, none⟩ (.int .i64 (J.used + (7 + l.length) : Nat))) :=
    ((Upd.refl _ w).grown hgr (fun k hk => by cases hk; exact .inl (.inl rfl))).setCell (a := ⟨j, 3, none⟩) (.inl (.inr rfl)) _
  refine ⟨⟨?_, ?_, ?_, h.rj, h.rb, h.ok.laid hl⟩, hupd⟩
  · rw [e]; exact heap_setCell_at ho1 _
  · rw [e]
    exact ownsRow_other hrow (fun k hk e2 => by cases hk; exact hne e2) _
  · obtain ⟨vs, k1, k2, k3⟩ := h.recs
    have hrow2 := ownsRow_row k1
    have hj2 : ∀ g, rv.ownBlock = some g → g ≠ j := fun g hg e2 => by
      obtain ⟨cc, ff, hh⟩ := hrow2 g hg
      rw [e2, h.obj] at hh; cases hh
    refine ⟨vs, Agree.row (Q := fun k => rv.ownBlock = some k) ?_ (fun _ hg => hg) k1, k2, fun i u x hu hx => ?_⟩
    · exact hupd.agree fun k hk hr => hr.elim (fun e2 => (k2 k hk).2 e2) (fun e2 => hj2 k hk e2)
    · have h1 := (k3 i u x hu hx).ne h.obj (jou_cells _ _ _ _ _ _ _ (by obtain ⟨a, c, e⟩ := own_slice k1; exact ⟨_, _, _, e⟩))
      exact (h1.agree (hupd.agree fun k hk hr => hr.elim (fun e2 => hk.1.1.2 e2) (fun e2 => hk.2 e2))).mono fun k _ hk => hk.1

/-- behind the append of a record's copy -/
theorem JouAt.snoc {R : Nat → Prop} {w V1 V2 : World} {j d bb c : Nat} {rv rv' u : Value} {J : JouG} {x : List UInt8} {vs : List Value} {o : Array Value} (h : JouAt R w j d bb c rv J) (hb1 : Below w.heap.size w V1) (hwin : Within R w)
    (hu : V1.ownsRow w.heap.size 5 1 u x.length (Lib.byteCells x)) (hvs : w.ownsRow 0 22 1 rv J.recs.length vs)
    (hbt : ∀ (i : Nat) (u : Value) (x : List UInt8), vs[i]? = some u → J.recs[i]? = some x → Bts (fun k => (R k ∧ k ≠ bb) ∧ rv.ownBlock ≠ some k) w u x) (hR : ∀ g, rv.ownBlock = some g → R g ∧ g ≠ bb)
    (hgr : (V1.alloc (.cells o 22)).grownBy V2 rv.ownBlock) (hown2 : V2.ownsRow 0 22 1 rv' (J.recs.length + 1) (vs ++ [u])) (hloc : rv'.ownBlock = rv.ownBlock ∨ rv'.ownBlock = some (V1.alloc (.cells o 22)).heap.size)
    (hok : ({ J with recs := J.recs ++ [x] } : JouG).ok) :
    JouAt (Grw R w (V2.setCell ⟨j, 4, none⟩ rv')) (V2.setCell ⟨j, 4, none⟩ rv') j d bb c rv' { J with recs := J.recs ++ [x] } ∧ Upd R w (V2.setCell ⟨j, 4, none⟩ rv') := by
  have hs1 := hb1.size
  have hbblt := (h.row.lt bb rfl).2
  have hvs1 : V1.ownsRow 0 22 1 rv J.recs.length vs := Agree.row (Q := fun _ => True) (Agree.below hb1) (fun _ _ => trivial) hvs
  have hrow1 := ownsRow_row (hvs1.alloc (.cells o 22))
  have ho1 : V1.heap[j]? = _ := (hb1.block j (lt_of_heap h.obj)).trans h.obj
  have ho2 : V2.heap[j]? = _ := grown_cells hgr hrow1 ((Below.heap_alloc V1 _ _ (lt_of_heap ho1)).trans ho1) (by decide)
  have hr2 : V2.ownsRow 0 5 1 (.slice (some ⟨bb, 0, none⟩) J.bytes.length c) J.bytes.length (Lib.byteCells J.bytes) := by
    refine World.ownsRow.kept ((Agree.row (Q := fun _ => True) (Agree.below hb1) (fun _ _ => trivial) h.row).alloc (.cells o 22)) hgr (.inr fun e => ?_)
    exact (hR bb e.symm).2 rfl
  have hupd : Upd R w (V2.setCell ⟨j, 4, none⟩ rv') := ((((Upd.refl R w).below hb1).alloc _).grown hgr (fun g hg => .inl (hR g hg).1)).setCell (a := ⟨j, 4, none⟩) (.inl h.rj) _
  have hrecs2 : Recs (fun k => (R k ∨ w.heap.size ≤ k) ∧ k ≠ bb) V2 rv' (J.recs ++ [x]) := by
    have hbt1 : ∀ (i : Nat) (u : Value) (x : List UInt8), vs[i]? = some u → J.recs[i]? = some x → Bts (fun k => ((R k ∨ w.heap.size ≤ k) ∧ k ≠ bb) ∧ rv.ownBlock ≠ some k) V1 u x := fun i u x h1 h2 =>
      ((hbt i u x h1 h2).agree (Agree.below hb1)).mono fun k _ hk => ⟨⟨.inl hk.1.1, hk.1.2⟩, hk.2⟩
    have hu1 : Bts (fun k => ((R k ∨ w.heap.size ≤ k) ∧ k ≠ bb) ∧ rv.ownBlock ≠ some k) V1 u x := Bts.of_row hu _ (fun g hg => by
      have hge := (hu.lt g hg).1
      refine ⟨⟨.inr hge, by omega⟩, fun e => ?_⟩
      have := (hvs.lt g e).2
      omega)
    exact recs_snoc hvs1 hbt1 (fun g hg => ⟨.inl (hR g hg).1, (hR g hg).2⟩) hu1 hgr hown2 hloc (fun _ h => h) ⟨.inr (by simp; omega), by simp; omega⟩
  have hrv2 := hrecs2
  obtain ⟨vs2, k1, k2, k3⟩ := hrecs2
  have hsl : ∃ a m k, rv' = .slice a m k := by obtain ⟨a, c, e⟩ := own_slice k1; exact ⟨_, _, _, e⟩
  have hrow2 := ownsRow_row k1
  have hjn : ∀ g, rv'.ownBlock = some g → g ≠ j := fun g hg e2 => by
    obtain ⟨cc, ff, hh⟩ := hrow2 g hg
    rw [e2, ho2] at hh; cases hh
  have hne : j ≠ bb := by
    rintro rfl
    obtain ⟨cc, ff, hk2⟩ := ownsRow_row h.row j rfl
    rw [h.obj] at hk2; cases hk2
  have hset : ∀ (Q : Nat → Prop), ¬ Q j → Agree Q V2 (V2.setCell ⟨j, 4, none⟩ rv') := fun Q hq => ⟨by simp [World.setCell], fun k hk ob hob => by
    have hkj : k ≠ j := fun e => hq (e ▸ hk)
    exact (Below.heap_setCell V2 ⟨j, 4, none⟩ rv' k hkj).trans hob⟩
  have hrecsF : Recs (fun k => (R k ∨ w.heap.size ≤ k) ∧ k ≠ bb) (V2.setCell ⟨j, 4, none⟩ rv') rv' (J.recs ++ [x]) := by
    refine ⟨vs2, Agree.row (Q := fun k => rv'.ownBlock = some k) (hset _ fun hk => hjn j hk rfl) (fun _ hg => hg) k1, k2, fun i u x hu hx => ?_⟩
    have h1 := (k3 i u x hu hx).ne ho2 (jou_cells _ _ _ _ _ _ _ (by obtain ⟨a, c, e⟩ := own_slice hvs; exact ⟨_, _, _, e⟩))
    exact (h1.agree (hset _ fun hk => hk.2 rfl)).mono fun k _ hk => hk.1
  refine ⟨⟨heap_setCell_at ho2 rv', ownsRow_other hr2 (fun k hk e => by cases hk; exact hne e) _, hrecsF.mono fun k hk hr => ⟨hr.1.imp id (fun e => ⟨e, hk⟩), hr.2⟩, .inl h.rj, .inl h.rb, hok⟩, hupd⟩
end Go.Proofs.Ytenihlicjahjhaa

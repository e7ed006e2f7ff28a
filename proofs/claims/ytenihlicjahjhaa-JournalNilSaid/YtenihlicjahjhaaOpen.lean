/-
  Open: a journal is opened: the walk.
-/
import Derived.Test.YtenihlicjahjhaaZero
import Derived.Test.YtenihlicjahjhaaRefLine
set_option linter.unusedVariables false
set_option linter.unusedSimpArgs false
namespace Go.Proofs.Ytenihlicjahjhaa
open Go Go.RowKit Go.Proofs

/-- the bytes of so many blocks -/
def regionB (G : DiskG) (first : Nat) : Nat → List UInt8
  | 0 => []
  | i + 1 => regionB G first i ++ G.now ((first + i : Nat) : Int)

theorem IsDisk.now_length {R : Nat → Prop} {w : World} {d : Nat} {G : DiskG} (h : IsDisk R w d G) (i : Int) : (G.now i).length = 32 := by
  obtain ⟨m1, m2, v, h⟩ := h
  exact h.now.len i
theorem regionB_length {G : DiskG} (h : ∀ i, (G.now i).length = 32) (first : Nat) : ∀ i, (regionB G first i).length = i * 32
  | 0 => rfl
  | i + 1 => by rw [regionB, List.length_append, regionB_length h first i, h]; omega

theorem few_scan : ∀ (n : Nat) (l : List UInt8), l.length ≤ n → (scan l).length ≤ used (scan l)
  | 0, l, h => by
    have : l = [] := List.eq_nil_of_length_eq_zero (by omega)
    subst this
    simp [scan, scanN]
  | n + 1, l, h => by
    by_cases ht : recE l = 0
    · rw [scan_step ht, used]
      have := few_scan n (l.drop (7 + recN l)) (by rw [List.length_drop]; omega)
      simp only [List.length_cons]; omega
    · rw [scan_stop ht]; simp

/-- a journal that is being opened -/
structure OInv (w : World) (d first jb i : Nat) (G : DiskG) (bv : Value) (wr : World) : Prop where
  obj : wr.heap[jb]? = some (.cells #[.pointer (some ⟨d, 0, none⟩), .int .i64 first, bv, .int .i64 0, .slice none 0 0] 163)
  row : wr.ownsRow 0 5 1 bv (i * 32) (Lib.byteCells (regionB G first i))
  rb : ∀ g, bv.ownBlock = some g → w.heap.size ≤ g
  bel : Below w.heap.size w wr
  jb : w.heap.size ≤ jb

theorem OInv.step {w : World} {d first jb i : Nat} {G : DiskG} {bv bv' : Value} {wr w1 w2 : World} (h : OInv w d first jb i G bv wr) (hb1 : Below wr.heap.size wr w1) (hl : ∀ i, (G.now i).length = 32)
    (hown : w2.ownsRow 0 5 1 bv' (i * 32 + 32) (Lib.byteCells (regionB G first i) ++ Lib.byteCells (G.now ((first + i : Nat) : Int)))) (hgr : w1.grownBy w2 bv.ownBlock) (hloc : bv'.ownBlock = bv.ownBlock ∨ bv'.ownBlock = some w1.heap.size) :
    OInv w d first jb (i + 1) G bv' (w2.setCell ⟨jb, 2, none⟩ bv') := by
  have ho1 := (hb1.block jb (lt_of_heap h.obj)).trans h.obj
  have hr1 : w1.ownsRow 0 5 1 bv (i * 32) (Lib.byteCells (regionB G first i)) := Agree.row (Q := fun _ => True) (Agree.below hb1) (fun _ _ => trivial) h.row
  have ho2 := grown_cells hgr (ownsRow_row hr1) ho1 (by decide)
  have hs := h.bel.size
  have hs1 := hb1.size
  refine ⟨heap_setCell_at ho2 bv', ?_, ?_, ?_, h.jb⟩
  · rw [regionB, byteCells_append, show (i + 1) * 32 = i * 32 + 32 by omega]
    refine ownsRow_other hown (fun k hk e => ?_) _
    obtain ⟨cc, ff, hk2⟩ := ownsRow_row hown k hk
    dsimp only at e
    rw [← e, ho2] at hk2
    cases hk2
  · intro g hg
    rcases hloc with e | e
    · exact h.rb g (by rw [← e]; exact hg)
    · rw [e] at hg
      have : w1.heap.size = g := Option.some.inj hg
      omega
  · exact ((h.bel.trans (hb1.mono hs)).grown hgr (by omega) (fun k hk => h.rb k hk)).setCell (p := ⟨jb, 2, none⟩) h.jb _

/-- what Open leaves of the disk, and the journal -/
def openJ (G : DiskG) (first size : Nat) : JouG := ⟨first, zeroB (regionB G first size) (used (scan (regionB G first size))), used (scan (regionB G first size)), scan (regionB G first size)⟩
def openG (G : DiskG) (first size : Nat) : DiskG :=
  let B := regionB G first size
  let N := zeroB B (used (scan B))
  if zeroF B N size then (zeroW first B N size G).sync else zeroW first B N size G

/-- a journal that has been read, its bytes as they are -/
theorem OInv.done {w : World} {d first jb i g c : Nat} {G : DiskG} {wr w1 : World} {Rd : Nat → Prop} {u : Value} (h : OInv w d first jb i G (.slice (some ⟨g, 0, none⟩) (i * 32) c) wr) (hd : IsDisk Rd w d G) (hw : Within Rd w) (hb1 : Below wr.heap.size wr w1)
    (hrec : Recs (fun k => wr.heap.size ≤ k) w1 u (scan (regionB G first i))) (hB : (regionB G first i).length = i * 32) (h1 : 1 ≤ i) (h2 : first + i ≤ G.size) :
    JD (fun k => w.heap.size ≤ k ∧ k < w1.heap.size) Rd ((w1.setCell ⟨jb, 4, none⟩ u).setCell ⟨jb, 3, none⟩ (.int .i64 (used (scan (regionB G first i)) : Nat))) jb d ⟨first, regionB G first i, used (scan (regionB G first i)), scan (regionB G first i)⟩ G ∧
      Below w.heap.size w ((w1.setCell ⟨jb, 4, none⟩ u).setCell ⟨jb, 3, none⟩ (.int .i64 (used (scan (regionB G first i)) : Nat))) := by
  have hbig : G.size ≤ 65536 := by obtain ⟨_, _, _, h⟩ := hd; exact h.big
  have hs := h.bel.size
  have hs1 := hb1.size
  have hjlt := lt_of_heap h.obj
  have ho1 := (hb1.block jb hjlt).trans h.obj
  have ho3 := heap_setCell_at (j := 3) (heap_setCell_at (j := 4) ho1 u) (.int .i64 (used (scan (regionB G first i)) : Nat))
  have hr1 : w1.ownsRow 0 5 1 (.slice (some ⟨g, 0, none⟩) (i * 32) c) (i * 32) (Lib.byteCells (regionB G first i)) := Agree.row (Q := fun _ => True) (Agree.below hb1) (fun _ _ => trivial) h.row
  have hglt := (h.row.lt g rfl).2
  have hne : jb ≠ g := by
    rintro rfl
    obtain ⟨cc, ff, hk2⟩ := ownsRow_row h.row jb rfl
    rw [h.obj] at hk2; cases hk2
  have hbF : Below w.heap.size w ((w1.setCell ⟨jb, 4, none⟩ u).setCell ⟨jb, 3, none⟩ (.int .i64 (used (scan (regionB G first i)) : Nat))) :=
    ((h.bel.trans (hb1.mono hs)).setCell (p := ⟨jb, 4, none⟩) h.jb _).setCell (p := ⟨jb, 3, none⟩) h.jb _
  have hag : ∀ (Q : Nat → Prop), ¬ Q jb → Agree Q w1 ((w1.setCell ⟨jb, 4, none⟩ u).setCell ⟨jb, 3, none⟩ (.int .i64 (used (scan (regionB G first i)) : Nat))) := fun Q hq =>
    ⟨by simp [World.setCell], fun k hk o ho => by
      have : k ≠ jb := fun e => hq (e ▸ hk)
      rw [Below.heap_setCell _ _ _ _ this, Below.heap_setCell _ _ _ _ this]; exact ho⟩
  have hul := used_scan_le _ (regionB G first i) (Nat.le_refl _)
  refine ⟨⟨⟨g, c, u, ?_, ?_, ?_, ⟨h.jb, by omega⟩, ⟨h.rb g rfl, by omega⟩, ?_⟩, hd.bel hbF, fun k hk hr => by have := hw k hr; have := hk.1; omega, fun k hk => by have := hk.2; simpa [World.setCell] using this, fun k hk => Nat.lt_of_lt_of_le (hw k hk) hbF.size⟩, hbF⟩
  · dsimp only
    rw [hB]; exact ho3
  · dsimp only
    rw [hB]
    exact ownsRow_other (ownsRow_other hr1 (fun k hk e => by cases hk; exact hne e) _) (fun k hk e => by cases hk; exact hne e) _
  · refine (hrec.agree (hag _ (by omega))).mono fun k hk hr => ⟨⟨by omega, ?_⟩, by omega⟩
    simpa [World.setCell] using hk
  · refine ⟨by dsimp only; rw [hB]; omega, by dsimp only; rw [hB]; omega, by dsimp only; rw [hB]; omega, hul, few_scan _ _ (Nat.le_refl _), by dsimp only; omega⟩

set_option maxRecDepth 100000 in
set_option maxHeartbeats 4000000 in
theorem Open_calls {Rd : Nat → Prop} {w : World} {d : Nat} {G : DiskG} {first size : Nat} (hd : IsDisk Rd w d G) (hw : Within Rd w) (h1 : 1 ≤ size) (h2 : first + size ≤ G.size) (hc : G.calls.length < 800000000000) :
    Calls Try.prog 22 #[.pointer (some ⟨d, 0, none⟩), .int .i64 first, .int .i64 size] w fun e w' => ∃ j, e = .returned (.tuple #[.pointer (some ⟨j, 0, none⟩), .int .i64 0]) ∧
      ∃ R' Rd', JD R' Rd' w' j d (openJ G first size) (openG G first size) ∧ Move (fun _ => False) Rd w R' Rd' w' := by
  have hbig : G.size ≤ 65536 := by obtain ⟨_, _, _, h⟩ := hd; exact h.big
  have hnow := hd.now_length
  have Hd := Lib.hid hd
  have Hw := Lib.hid hw
  have Hnow := Lib.hid hnow
  have a1 : decide ((size : Int) < 1) = false := by simp only [decide_eq_false_iff_not]; omega
  have a2 : decide ((first : Int) < 0) = false := by simp only [decide_eq_false_iff_not]; omega
  have a3 : decide ((G.size : Int) ≤ first) = false := by simp only [decide_eq_false_iff_not]; omega
  have a5 : decide (G.size ≤ first) = false := by simp only [decide_eq_false_iff_not]; omega
  have a4 : decide ((G.size : Int) - first < size) = false := by simp only [decide_eq_false_iff_not]; omega
  obtain ⟨i0, hi, hz0, hz1, hz2⟩ := info_parts infoU8
  clear hd hw hnow
  go_enter Try.func22, Try.ntmps22
  go_wp2_with fail
  refine (Blocks_calls Hd.out).mono ?_
  rintro e w0 ⟨rfl, rfl⟩
  go_wp2_with fail
  refine (Blocks_calls Hd.out).mono ?_
  rintro e w0 ⟨rfl, rfl⟩
  go_wp2_with fail
  obtain ⟨W0, hW0⟩ : ∃ W0, W0 = w.alloc (.cells #[.pointer (some ⟨d, 0, none⟩), .int .i64 first, .slice none 0 0, .int .i64 0, .slice none 0 0] 163) := ⟨_, rfl⟩
  obtain ⟨jb, hjb⟩ : ∃ jb, jb = w.heap.size := ⟨_, rfl⟩
  have hinv0 : OInv w d first jb 0 G (.slice none 0 0) W0 := by
    rw [hW0, hjb]
    exact ⟨heap_new _ _, World.ownsRow_nil _ _ _ _, fun g hg => (by cases hg), (Below.refl _ w).alloc (Nat.le_refl _) _, Nat.le_refl _⟩
  rw [← hW0, ← hjb]
  have hjw : w.heap.size ≤ jb := by omega
  have Hinv0 := Lib.hid hinv0
  have Hjb := Lib.hid hjb
  clear hinv0 hW0 hjb
  go_loopg [41] size (fun k q wr => ∃ (i : Nat) (bv : Value), i ≤ size ∧ q = .int .i64 i ∧ OInv w d first jb i G bv wr ∧ k = size - i)
  case atStart => exact ⟨0, _, Nat.zero_le _, rfl, Hinv0.out, rfl⟩
  case round =>
    obtain ⟨i, bv, hi0, rfl, hinv, hk⟩ := hrel
    have HI := Lib.hid hinv
    have Hk := Lib.hid hk
    have hbel := hinv.bel
    have hbs := hbel.size
    have c2 : wr.cell? ⟨jb, 2, none⟩ = some bv := cell_row hinv.obj 2
    clear hinv hk
    by_cases hlt : i < size
    · have d1 : decide ((i : Int) < size) = true := by simp only [decide_eq_true_eq]; omega
      go_wp2_with fail
      refine (Read_calls (n := (first : Int) + i) (Hd.out.bel hbel) (by omega) (by omega)).mono ?_
      rintro e w1 ⟨u, rfl, hown1, hb1⟩
      obtain ⟨g1, c1, rfl⟩ := ownsRow_form hown1 (by omega)
      rw [show ((first : Int) + i) = ((first + i : Nat) : Int) by omega] at hown1
      have hu := Bts.of_row hown1 (fun _ => True) (fun _ _ => trivial)
      obtain ⟨au, cu, eu, _, _, hu3⟩ := hu
      injection eu with eu eu2 eu3
      subst eu
      clear eu2 eu3
      have c2' : w1.cell? ⟨jb, 2, none⟩ = some bv := (hb1.cell (p := ⟨jb, 2, none⟩) (lt_of_heap HI.out.obj)).trans c2
      have hr1 : w1.ownsRow 0 5 1 bv (i * 32) (Lib.byteCells (regionB G first i)) := Agree.row (Q := fun _ => True) (Agree.below hb1) (fun _ _ => trivial) HI.out.row
      have ho1 := (hb1.block jb (lt_of_heap HI.out.obj)).trans HI.out.obj
      have Hr1 := Lib.hid hr1
      have Hu3 := Lib.hid hu3
      have Ho1 := Lib.hid ho1
      clear hown1 hr1 hu3 ho1 c2
      go_wp2_with (at_builtin; refine wpList_append_own_at _ rfl _ _ 22 rfl 0 5 i0 (.int .u8 0) 1 1 Try.underlying22 hi hz0 hz1 hz2 rfl (by decide) _ _ _ rfl Hr1.out ⟨g1, 0, none⟩ 32 c1 (Lib.byteCells (G.now ((first + i : Nat) : Int))) rfl ?k1 ?k2 ?k3 ?k4 ?k5 ?k6 ?_)
      case k1 => rw [Lib.byteCells_length, Hnow.out]
      case k2 =>
        obtain ⟨g, o, e, _, hr⟩ := Hu3.out (by intro e; have := Hnow.out ((first + i : Nat) : Int); rw [e] at this; cases this)
        cases e
        intro j u hj
        rw [Addr.add_mid]
        exact hr j u hj
      case k3 => exact byteCells_one _
      case k4 => unfold maxLen; omega
      case k5 => omega
      case k6 => exact Nat.zero_le _
      intro bv' w2 hown2 hgr2 _ hloc2
      obtain ⟨g2, c2v, rfl⟩ := ownsRow_form hown2 (by omega)
      have ho2 := grown_cells hgr2 (ownsRow_row Hr1.out) Ho1.out (by decide)
      have e3 : w2.cell? ⟨jb, 2, none⟩ = some bv := cell_row ho2 2
      have e4 : w2.frozen? ⟨jb, 2, none⟩ = false := Lib.frozen_of_heap ho2 2
      have hst := HI.out.step hb1 Hnow.out hown2 hgr2 hloc2
      have Hst := Lib.hid hst
      clear hown2 hgr2 hloc2 hst ho2
      go_wp2_with fail
      go_roundg (size - (i + 1))
      case measure => have := Hk.out; omega
      case rel => exact ⟨i + 1, _, by omega, by rw [Int.natCast_add]; rfl, Hst.out, rfl⟩
    · have hie : i = size := by omega
      subst hie
      have hB : (regionB G first i).length = i * 32 := regionB_length Hnow.out first i
      obtain ⟨g, c, rfl⟩ := ownsRow_form HI.out.row (by omega)
      have hv := Bts.of_row HI.out.row (fun _ => True) (fun _ _ => trivial)
      have Hv := Lib.hid hv
      have HB := Lib.hid hB
      clear hv hB
      go_wp2_with fail
      refine (Scan_calls Hv.out (by rw [HB.out]; omega)).mono ?_
      rintro e w1 ⟨u, rfl, hrec, hb1⟩
      obtain ⟨vs, hvs, hvs2⟩ := id hrec
      obtain ⟨ua, uc, rfl⟩ := own_slice hvs
      clear hvs hvs2
      have ho1 := (hb1.block jb (lt_of_heap HI.out.obj)).trans HI.out.obj
      have f3 : w1.cell? ⟨jb, 3, none⟩ = some (.int .i64 0) := cell_row ho1 3
      have f4 : w1.cell? ⟨jb, 4, none⟩ = some (.slice none 0 0) := cell_row ho1 4
      have z3 : w1.frozen? ⟨jb, 3, none⟩ = false := Lib.frozen_of_heap ho1 3
      have z4 : w1.frozen? ⟨jb, 4, none⟩ = false := Lib.frozen_of_heap ho1 4
      have Hrec := Lib.hid hrec
      have Ho1 := Lib.hid ho1
      clear hrec ho1
      go_wp2_with fail
      obtain ⟨hjd, hbF⟩ := HI.out.done Hd.out Hw.out hb1 Hrec.out HB.out h1 h2
      have Hjd := Lib.hid hjd
      have hul := used_scan_le _ (regionB G first i) (Nat.le_refl _)
      have hdiv : (regionB G first i).length / 32 = i := by rw [HB.out]; omega
      have hz := zero_calls (n := used (scan (regionB G first i))) hjd hul (by dsimp only; rw [hdiv]; exact h2) (by omega)
      dsimp only at hz
      rw [hdiv] at hz
      obtain ⟨F, hF⟩ : ∃ F, F = zeroF (regionB G first i) (zeroB (regionB G first i) (used (scan (regionB G first i)))) i := ⟨_, rfl⟩
      rw [← hF] at hz
      have Hz := Lib.hid hz
      have HF := Lib.hid hF
      have Hdiv := Lib.hid hdiv
      clear hjd hz hF hdiv f3 f4 z3 z4 c2
      refine Hz.out.mono ?_
      rintro e w4 ⟨rfl, Rd4, hjd4, hmv4⟩
      have Hjd4 := Lib.hid hjd4
      have Hmv4 := Lib.hid hmv4
      have hup : Upd (fun k => False ∨ Rd k) w w4 := by
        have h0 : Upd (fun k => False ∨ Rd k) w _ := (Upd.refl _ w).below hbF
        exact h0.trans hmv4.upd (fun k hk => hk.elim (fun e => .inr e.1) (fun e => .inl (.inr e)))
      have hrd4 : ∀ k, Rd4 k → Rd k ∨ w.heap.size ≤ k := fun k hk => (hmv4.rd k hk).imp id (fun e => Nat.le_trans hbF.size e)
      have hcalls := zeroW_calls first (regionB G first i) (zeroB (regionB G first i) (used (scan (regionB G first i)))) i G
      have Hup := Lib.hid hup
      have Hrd4 := Lib.hid hrd4
      have HbF := hbF.size
      have Hcalls := Lib.hid hcalls
      clear hjd4 hmv4 hup hrd4 hcalls hbF
      cases F with
      | false =>
        go_wp2_with fail
        go_ret2
        refine ⟨jb, rfl, (fun k => w.heap.size ≤ k ∧ k < w1.heap.size), Rd4, ?_, Hup.out, fun k hk => .inr hk.1, Hrd4.out⟩
        have e : openG G first i = zeroW first (regionB G first i) (zeroB (regionB G first i) (used (scan (regionB G first i)))) i G := by
          unfold openG
          dsimp only
          rw [← HF.out]; rfl
        rw [e]
        exact Hjd4.out
      | true =>
        go_wp2_with fail
        refine (Sync_calls Hjd4.out.disk Hjd4.out.wind (by have := Hcalls.out; omega)).mono ?_
        rintro e w5 ⟨rfl, Rd5, hd5, hreg5, hwi5⟩
        have Hd5 := Lib.hid hd5
        have Hreg5 := Lib.hid hreg5
        have Hwi5 := Lib.hid hwi5
        clear hd5 hreg5 hwi5
        go_wp2_with fail
        go_ret2
        have hr5 := Hreg5.out
        refine ⟨jb, rfl, (fun k => w.heap.size ≤ k ∧ k < w1.heap.size), Rd5, ⟨Hjd4.out.jou.agree (hr5.agree Hjd4.out.out), ?_, hr5.out Hjd4.out.out Hjd4.out.win, hr5.within Hjd4.out.win, Hwi5.out⟩, ?_, fun k hk => .inr hk.1, ?_⟩
        · have e : openG G first i = (zeroW first (regionB G first i) (zeroB (regionB G first i) (used (scan (regionB G first i)))) i G).sync := by
            unfold openG
            dsimp only
            rw [← HF.out]; rfl
          rw [e]
          exact Hd5.out
        · exact Hup.out.trans hr5.upd (fun k hk => (Hrd4.out k hk).imp .inr id)
        · exact fun k hk => (hr5.new k hk).elim (Hrd4.out k) (fun e => .inr (Nat.le_trans Hup.out.size e))
end Go.Proofs.Ytenihlicjahjhaa

/-
  Append: a record is put behind a journal's others: the walk.
-/
import Derived.Test.YtenihlicjahjhaaApp
set_option linter.unusedVariables false
set_option linter.unusedSimpArgs false
namespace Go.Proofs.Ytenihlicjahjhaa
open Go Go.RowKit Go.Proofs

theorem Append_bad {R Q : Nat → Prop} {w : World} {j d : Nat} {J : JouG} {v : Value} {l : List UInt8} (h : IsJou R w j d J) (hv : Bts Q w v l) (hl : l.length = 0 ∨ 4096 < l.length) :
    Calls Try.prog 24 #[.pointer (some ⟨j, 0, none⟩), v] w fun e w' => e = .returned (.int .i64 1) ∧ w' = w := by
  have Hv := Lib.hid hv
  have Hl := Lib.hid hl
  clear h hv hl
  go_enter Try.func24, Try.ntmps24
  go_wp2_with fail
  refine (Wrap_bad Hv.out Hl.out).mono ?_
  rintro e w1 ⟨rfl, rfl⟩
  go_wp2_with fail
  go_ret
  exact ⟨rfl, rfl⟩

theorem Append_full {R Q : Nat → Prop} {w : World} {j d : Nat} {J : JouG} {v : Value} {l : List UInt8} (h : IsJou R w j d J) (hv : Bts Q w v l) (h1 : 1 ≤ l.length) (h2 : l.length ≤ 4096) (hl : J.bytes.length - J.used < 7 + l.length) :
    Calls Try.prog 24 #[.pointer (some ⟨j, 0, none⟩), v] w fun e w' => e = .returned (.int .i64 51) ∧ Below w.heap.size w w' := by
  have Hv := Lib.hid hv
  have H := Lib.hid h
  clear h hv
  have d1 : decide (((J.bytes.length - J.used : Nat) : Int) < ((7 + l.length : Nat) : Int)) = true := by simp only [decide_eq_true_eq]; omega
  go_enter Try.func24, Try.ntmps24
  go_wp2_with fail
  refine (Wrap_calls Hv.out h1 h2).mono ?_
  rintro e w1 ⟨u, rfl, hown1, hb1⟩
  obtain ⟨ua, uc, rfl⟩ := own_slice hown1
  clear hown1
  go_wp2_with fail
  refine (Room_calls (H.out.bel hb1)).mono ?_
  rintro e w2 ⟨rfl, hb2⟩
  have d2 : decide (J.bytes.length - J.used < 7 + l.length) = true := by simp only [decide_eq_true_eq]; omega
  go_wp2_with fail
  go_ret
  exact ⟨rfl, hb1.trans (hb2.mono hb1.size)⟩

/-- where the writing of the blocks stands: k of them are still to come -/
structure AInv (R Rd Q : Nat → Prop) (w : World) (j d bb c : Nat) (rv v : Value) (l : List UInt8) (J1 : JouG) (G GF : DiskG) (i k : Nat) (Rd1 : Nat → Prop) (G1 : DiskG) (wr : World) : Prop where
  jou : JouAt R wr j d bb c rv J1
  disk : IsDisk Rd1 wr d G1
  wind : Within Rd1 wr
  out : Out R Rd1
  rest : appW J1.first J1.bytes i k G1 = GF
  upd : Upd (fun k => R k ∨ Rd k) w wr
  rd : ∀ k, Rd1 k → Rd k ∨ w.heap.size ≤ k
  size : G1.size = G.size
  calls : G1.calls.length + k ≤ G.calls.length + 65536
  bts : Bts Q wr v l
  sum : i + k = (J1.used + 31) / 32

theorem AInv.step {R Rd Q : Nat → Prop} {w : World} {j d bb c : Nat} {rv v : Value} {l : List UInt8} {J1 : JouG} {G GF : DiskG} {i k : Nat} {Rd1 Rd2 : Nat → Prop} {G1 : DiskG} {wr w2 : World} (h : AInv R Rd Q w j d bb c rv v l J1 G GF i (k + 1) Rd1 G1 wr)
    (hwin : Within R w) (hqd : Out Q Rd) (hqw : Within Q w) (hd : IsDisk Rd2 w2 d (G1.write (J1.first + i) (blk J1.bytes i))) (hreg : Reg Rd1 wr Rd2 w2) (hw2 : Within Rd2 w2) : AInv R Rd Q w j d bb c rv v l J1 G GF (i + 1) k Rd2 (G1.write (J1.first + i) (blk J1.bytes i)) w2 := by
  have hwr : Within R wr := fun k hk => Nat.lt_of_lt_of_le (hwin k hk) h.upd.size
  have hq1 : Out Q Rd1 := fun k hk hr => (h.rd k hr).elim (hqd k hk) (fun e => by have := hqw k hk; omega)
  refine ⟨h.jou.agree (hreg.agree h.out), hd, hw2, hreg.out h.out hwr, h.rest, h.upd.trans hreg.upd (fun k hk => (h.rd k hk).imp .inr id), ?_, h.size, ?_, h.bts.agree (hreg.agree hq1), by have := h.sum; omega⟩
  · exact fun k hk => (hreg.new k hk).elim (h.rd k) (fun e => .inr (Nat.le_trans h.upd.size e))
  · have := h.calls
    simp only [DiskG.write, List.length_append, List.length_singleton]; omega

set_option maxRecDepth 100000 in
set_option maxHeartbeats 4000000 in
theorem Append_calls {R Rd Q : Nat → Prop} {w : World} {j d : Nat} {J : JouG} {G : DiskG} {v : Value} {l : List UInt8} (h : JD R Rd w j d J G) (hv : Bts Q w v l) (hq : Out Q R) (hqd : Out Q Rd) (hqw : Within Q w) (h1 : 1 ≤ l.length) (h2 : l.length ≤ 4096)
    (hl : J.used + (7 + l.length) ≤ J.bytes.length) (hfit : J.first + J.bytes.length / 32 ≤ G.size) (hc : G.calls.length < 900000000000) :
    Calls Try.prog 24 #[.pointer (some ⟨j, 0, none⟩), v] w fun e w' => e = .returned (.int .i64 0) ∧
      ∃ R' Rd', JD R' Rd' w' j d (J.app l) (appG J l G) ∧ Move R Rd w R' Rd' w' := by
  obtain ⟨⟨bb, c, rv, hj⟩, hd, hout, hwin, hwind⟩ := h
  have hok := hj.ok
  have hbig := hok.big
  have hwh := hok.whole
  have hpos := hok.pos
  have Hj := Lib.hid hj
  have Hv := Lib.hid hv
  have Hd := Lib.hid hd
  have Hout := Lib.hid hout
  have Hwin := Lib.hid hwin
  have Hwind := Lib.hid hwind
  have Hok := Lib.hid hok
  have Hq := Lib.hid hq
  have Hqd := Lib.hid hqd
  have Hqw := Lib.hid hqw
  have hus := hok.used
  have d1 : decide (((J.bytes.length - J.used : Nat) : Int) < ((7 + l.length : Nat) : Int)) = false := by simp only [decide_eq_false_iff_not]; omega
  have d2 : decide (J.bytes.length - J.used < 7 + l.length) = false := by simp only [decide_eq_false_iff_not]; omega
  have d3 : decide (((J.bytes.length - J.used : Nat) : Int) < 7 + (l.length : Int)) = false := by simp only [decide_eq_false_iff_not]; omega
  clear hj hv hd hout hwin hwind hok hq hqd hqw
  go_enter Try.func24, Try.ntmps24
  go_wp2_with fail
  refine (Wrap_calls Hv.out h1 h2).mono ?_
  rintro e w1 ⟨u, rfl, hown1, hb1⟩
  obtain ⟨ug, uc, rfl⟩ := ownsRow_form hown1 (by omega)
  have hu1 := Bts.of_row hown1 (fun k => w.heap.size ≤ k) (fun g hg => (hown1.lt g hg).1)
  have Hu1 := Lib.hid hu1
  clear hown1 hu1
  go_wp2_with fail
  refine (Room_calls (IsJou.bel ⟨bb, c, rv, Hj.out⟩ hb1)).mono ?_
  rintro e w2 ⟨rfl, hb2⟩
  have hb12 := hb1.trans (hb2.mono hb1.size)
  have Hj2 := Lib.hid (Hj.out.agree (Agree.below (Q := R) hb12))
  have c0 : w2.cell? ⟨j, 0, none⟩ = some (.pointer (some ⟨d, 0, none⟩)) := cell_row Hj2.out.obj 0
  have c2 : w2.cell? ⟨j, 2, none⟩ = some (.slice (some ⟨bb, 0, none⟩) J.bytes.length c) := cell_row Hj2.out.obj 2
  have c3 : w2.cell? ⟨j, 3, none⟩ = some (.int .i64 J.used) := cell_row Hj2.out.obj 3
  have hcap := Hj2.out.cap
  have hfl := frame_length l
  have Hfl := Lib.hid hfl
  have hw1 : IntKind.i64.wrap ((J.used : Int) + ((frame l).length : Nat)) = ((J.used + (7 + l.length) : Nat) : Int) := by rw [hfl, IntKind.wrap_i64] <;> omega
  have Hu2 := Lib.hid (Hu1.out.agree (Agree.below hb2))
  clear hfl
  have hk1 : (frame l).length = Nat.min (7 + l.length) (J.bytes.length - J.used) := by rw [Hfl.out]; exact (Nat.min_eq_left (by omega)).symm
  have hk2 : 0 < (frame l).length → (if c = J.used then some ⟨bb, 0, none⟩ else (some ⟨bb, 0, none⟩ : Option Addr).map (·.add J.used)) = some ⟨bb, J.used, none⟩ ∧ ∃ ad, (some ⟨ug, 0, none⟩ : Option Addr) = some ad ∧
      ∀ k x, (Lib.byteCells (frame l))[k]? = some x → w2.drew.cell? (ad.add k) = some x := by
    intro _
    refine ⟨by rw [if_neg (by omega)]; simp only [Option.map_some, Addr.add_mid, Nat.zero_add], _, rfl, ?_⟩
    obtain ⟨a3, c3, e3, _, _, hz⟩ := Hu2.out
    injection e3 with e3 _ _
    subst e3
    obtain ⟨g, o, e, _, hr⟩ := hz (by intro e; have := congrArg List.length e; rw [Hfl.out] at this; simp at this)
    cases e
    intro k x hx
    rw [Addr.add_mid]
    exact hr k x hx
  have hk3 : J.used + (frame l).length ≤ J.bytes.length := by rw [Hfl.out]; exact hl
  have Hk1 := Lib.hid hk1
  have Hk2 := Lib.hid hk2
  have Hk3 := Lib.hid hk3
  have Hrow := Lib.hid Hj2.out.row
  clear hk1 hk2 hk3
  go_wp2_with fail
  refine lOpen [(3, (fun W => W.cell? ⟨j, 3, none⟩ = some (.int .i64 J.used))), (7, (fun W => W.cell? ⟨j, 2, none⟩ = some (.slice (some ⟨bb, 0, none⟩) J.bytes.length c)))] [(11, [7]), (15, [3, 7])] [3, 7] (by kernel_rfl) ?_
  refine lP (i := 0) (v := ?_) rfl (by kernel_rfl) (fun _ _ _ h => h) rfl ?_ ?_
  rotate_left
  · intro W; go_simp; try with_reducible rfl
  try simp only [put_lit, put_none, List.set_cons_succ, List.set_cons_zero]
  refine lP (i := 1) (v := ?_) rfl (by kernel_rfl) (fun _ _ _ h => h) rfl ?_ ?_
  rotate_left
  · intro W; go_simp; try with_reducible rfl
  try simp only [put_lit, put_none, List.set_cons_succ, List.set_cons_zero]
  refine lP (i := 2) (v := ?_) rfl (by kernel_rfl) (fun _ _ _ h => h) rfl ?_ ?_
  rotate_left
  · intro W; go_simp; try with_reducible rfl
  try simp only [put_lit, put_none, List.set_cons_succ, List.set_cons_zero]
  refine lP (i := 4) (v := ?_) rfl (by kernel_rfl) (fun _ _ _ h => h) rfl ?_ ?_
  rotate_left
  · intro W; go_simp; try with_reducible rfl
  try simp only [put_lit, put_none, List.set_cons_succ, List.set_cons_zero]
  refine lP (i := 5) (v := ?_) rfl (by kernel_rfl) (fun _ _ _ h => h) rfl ?_ ?_
  rotate_left
  · intro W; go_simp; try with_reducible rfl
  try simp only [put_lit, put_none, List.set_cons_succ, List.set_cons_zero]
  refine lP (i := 6) (v := ?_) rfl (by kernel_rfl) (fun _ _ _ h => h) rfl ?_ ?_
  rotate_left
  · intro W; go_simp; try with_reducible rfl
  try simp only [put_lit, put_none, List.set_cons_succ, List.set_cons_zero]
  refine lP (i := 8) (v := ?_) rfl (by kernel_rfl) (fun _ _ _ h => h) rfl ?_ ?_
  rotate_left
  · intro W; go_simp; try with_reducible rfl
  try simp only [put_lit, put_none, List.set_cons_succ, List.set_cons_zero]
  refine lP (i := 10) (v := ?_) rfl (by kernel_rfl) (fun _ _ _ h => h) rfl ?_ ?_
  rotate_left
  · intro W; go_simp; try with_reducible rfl
  try simp only [put_lit, put_none, List.set_cons_succ, List.set_cons_zero]
  refine lR (i := 3) (v := ?_) rfl (by kernel_rfl) (fun _ _ _ h => h) rfl ?_ ?_
  rotate_left
  · intro W hS; have hc : (fun W => W.cell? ⟨j, 3, none⟩ = some (.int .i64 J.used)) W := hS; clear hS; dsimp only at hc; go_simp; try with_reducible rfl
  try simp only [put_lit, put_none, List.set_cons_succ, List.set_cons_zero]
  refine lR (i := 7) (v := ?_) rfl (by kernel_rfl) (fun _ _ _ h => h) rfl ?_ ?_
  rotate_left
  · intro W hS; have hc : (fun W => W.cell? ⟨j, 2, none⟩ = some (.slice (some ⟨bb, 0, none⟩) J.bytes.length c)) W := hS; clear hS; dsimp only at hc; go_simp; try with_reducible rfl
  try simp only [put_lit, put_none, List.set_cons_succ, List.set_cons_zero]
  refine lP (i := 9) (v := ?_) rfl (by kernel_rfl) (fun _ _ _ h => h) rfl ?_ ?_
  rotate_left
  · intro W; refine exec_cut_from (x := .tmp 37) (y := .tmp 38) (a := some ⟨bb, 0, none⟩) (n := J.bytes.length) (c := c) (i := J.used) ?_ ?_ ?_ hus W <;> rfl
  try simp only [put_lit, put_none, List.set_cons_succ, List.set_cons_zero]
  refine lE (i := 11) (live' := [3]) rfl (by kernel_rfl) (by kernel_rfl) ⟨c3, c2, trivial⟩ (fun K hK => ?_)
  refine step_copy_at rfl (.tmp 39) (.tmp 40) rfl (if c = J.used then some ⟨bb, 0, none⟩ else (some ⟨bb, 0, none⟩ : Option Addr).map (·.add J.used)) (some ⟨ug, 0, none⟩) (J.bytes.length - J.used) (c - J.used) (7 + l.length) uc rfl rfl bb J.bytes.length c J.used J.bytes (frame l) (w := w2.drew) Hrow.out Hk1.out Hk2.out Hk3.out ?_
  intro w3 hrow3 hgr3
  have hjb : j ≠ bb := (by rintro rfl; obtain ⟨cc, ff, hk2⟩ := ownsRow_row Hrow.out j rfl; rw [Hj2.out.obj] at hk2; cases hk2)
  have ho3 := (hgr3.block j (lt_of_heap Hj2.out.obj) (fun e => by cases e; exact hjb rfl)).trans Hj2.out.obj
  have e3 : w3.cell? ⟨j, 3, none⟩ = some (.int .i64 J.used) := cell_row ho3 3
  have e4 : w3.frozen? ⟨j, 3, none⟩ = false := Lib.frozen_of_heap ho3 3
  have Hrow3 := Lib.hid hrow3
  have Hgr3 := Lib.hid hgr3
  clear hrow3 hgr3 ho3
  refine hK _ _ ?_
  clear hK K
  try simp only [put_lit, put_none, List.set_cons_succ, List.set_cons_zero]
  refine lP (i := 12) (v := ?_) rfl (by kernel_rfl) (fun _ _ _ h => h) rfl ?_ ?_
  rotate_left
  · intro W; go_simp; try with_reducible rfl
  try simp only [put_lit, put_none, List.set_cons_succ, List.set_cons_zero]
  refine lP (i := 13) (v := ?_) rfl (by kernel_rfl) (fun _ _ _ h => h) rfl ?_ ?_
  rotate_left
  · intro W; go_simp; try with_reducible rfl
  try simp only [put_lit, put_none, List.set_cons_succ, List.set_cons_zero]
  refine lP (i := 14) (v := ?_) rfl (by kernel_rfl) (fun _ _ _ h => h) rfl ?_ ?_
  rotate_left
  · intro W; go_simp; try with_reducible rfl
  try simp only [put_lit, put_none, List.set_cons_succ, List.set_cons_zero]
  refine lE (i := 15) (live' := []) rfl (by kernel_rfl) (by kernel_rfl) ⟨e3, trivial⟩ (fun K hK => ?_)
  go_simp
  refine hK _ _ ?_
  clear hK K
  try simp only [put_lit, put_none, List.set_cons_succ, List.set_cons_zero]
  refine lDone (by kernel_rfl) (by exact trivial) ?_ _
  obtain ⟨U, hU⟩ : ∃ U, U = J.used + (7 + l.length) := ⟨_, rfl⟩
  have ecast : (J.used : Int) + (7 + (l.length : Int)) = (U : Int) := by omega
  rw [ecast]
  obtain ⟨hj4, hup4⟩ := JouAt.laid (w := w2.drew) (Hj2.out.agree (w' := w2.drew) ⟨Nat.le_refl _, fun _ _ _ h => h⟩) hl Hrow3.out Hgr3.out
  rw [← hU] at hj4 hup4
  obtain ⟨W4, hW4⟩ : ∃ W4, W4 = w3.setCell ⟨j, 3, none⟩ (.int .i64 (U : Nat)) := ⟨_, rfl⟩
  rw [← hW4] at hj4 hup4 ⊢
  have hbbR := Hj.out.rb
  have hjR := Hj.out.rj
  have hb12' : Below w.heap.size w w2.drew := hb12.drew
  have hinv0 : AInv R Rd Q w j d bb c rv v l (J.laid l) G (appG J l G) (J.used / 32) ((U + 31) / 32 - J.used / 32) Rd G W4 := by
    have hupd : Upd (fun k => R k ∨ Rd k) w W4 := ((Upd.refl _ w).below hb12').trans hup4 (fun k hk => hk.elim (fun e => .inl (.inl (e ▸ hbbR))) (fun e => .inl (.inl (e ▸ hjR))))
    have hagQ : ∀ (Q : Nat → Prop), Out Q R → Agree Q w2.drew W4 := fun Q hq => hup4.agree fun k hk hr => hq k hk (hr.elim (fun e => e ▸ hbbR) (fun e => e ▸ hjR))
    refine ⟨hj4, (Hd.out.bel hb12').agree (hagQ Rd (fun k hk hr => Hout.out k hr hk)), fun k hk => Nat.lt_of_lt_of_le (Hwind.out k hk) hupd.size, Hout.out, ?_, hupd, fun _ h => .inl h, rfl, by omega, (Hv.out.agree (Agree.below hb12')).agree (hagQ Q Hq.out), ?_⟩
    · rw [hU]; rfl
    · show J.used / 32 + ((U + 31) / 32 - J.used / 32) = ((J.used + (7 + l.length)) + 31) / 32
      rw [← hU]; omega
  have Hinv0 := Lib.hid hinv0
  have HU := Lib.hid hU
  have HW4 := Lib.hid hW4
  have hUl : U ≤ J.bytes.length := by omega
  have hJU : J.used ≤ U := by omega
  clear hinv0 hU hW4 hj4 hup4 ecast c0 c2 c3 e3 e4 hb12 hb12' hb1 hb2
  go_wp2_with fail
  go_loopg [8] ((U + 31) / 32 - J.used / 32) (fun kk q wr => ∃ (i k : Nat) (Rd1 : Nat → Prop) (G1 : DiskG), q = .int .i64 i ∧ AInv R Rd Q w j d bb c rv v l (J.laid l) G (appG J l G) i k Rd1 G1 wr ∧ kk = k)
  case atStart => exact ⟨J.used / 32, _, Rd, G, by rw [Int.natCast_ediv]; rfl, Hinv0.out, rfl⟩
  case round =>
    obtain ⟨i, k, Rd1, G1, rfl, hinv, hkk⟩ := hrel
    have HI := Lib.hid hinv
    have Hkk := Lib.hid hkk
    have hsum : i + k = (U + 31) / 32 := by
      have := hinv.sum
      rw [HU.out]; exact this
    have c3 : wr.cell? ⟨j, 3, none⟩ = some (.int .i64 U) := by
      have := cell_row hinv.jou.obj 3
      have e : (J.laid l).used = U := HU.out.symm
      rw [e] at this
      exact this
    have hlb : (J.laid l).bytes.length = J.bytes.length := layB_length _ _ _ Hk3.out
    clear hinv hkk
    cases k with
    | zero =>
      have d5 : decide ((i : Int) * 32 < U) = false := by simp only [decide_eq_false_iff_not]; omega
      have c4 : wr.cell? ⟨j, 4, none⟩ = some rv := cell_row HI.out.jou.obj 4
      obtain ⟨vs, hvs, hR, hbt⟩ := HI.out.jou.recs
      have hfew := Hok.out.few
      have hl47 : l.length ≤ 140737488355328 := by omega
      have Hvs := Lib.hid hvs
      have HR := Lib.hid hR
      have Hbt := Lib.hid hbt
      have Hbts := Lib.hid HI.out.bts
      have Hjw := Lib.hid HI.out.jou
      obtain ⟨i1, hi1, hy0, hy1, hy2⟩ := info_parts infoSl
      have hjlt := lt_of_heap HI.out.jou.obj
      clear hvs hR hbt
      go_wp2_with fail
      refine lOpen [(4, (fun W => W.cell? ⟨j, 4, none⟩ = some rv))] [(6, []), (7, []), (8, [4]), (11, [4])] [4] (by kernel_rfl) ?_
      refine lP (i := 0) (v := ?_) rfl (by kernel_rfl) (fun _ _ _ h => h) rfl ?_ ?_
      rotate_left
      · intro W; go_simp; try with_reducible rfl
      try simp only [put_lit, put_none, List.set_cons_succ, List.set_cons_zero]
      refine lP (i := 1) (v := ?_) rfl (by kernel_rfl) (fun _ _ _ h => h) rfl ?_ ?_
      rotate_left
      · intro W; go_simp; try with_reducible rfl
      try simp only [put_lit, put_none, List.set_cons_succ, List.set_cons_zero]
      refine lP (i := 2) (v := ?_) rfl (by kernel_rfl) (fun _ _ _ h => h) rfl ?_ ?_
      rotate_left
      · intro W; go_simp; try with_reducible rfl
      try simp only [put_lit, put_none, List.set_cons_succ, List.set_cons_zero]
      refine lP (i := 3) (v := ?_) rfl (by kernel_rfl) (fun _ _ _ h => h) rfl ?_ ?_
      rotate_left
      · intro W; go_simp; try with_reducible rfl
      try simp only [put_lit, put_none, List.set_cons_succ, List.set_cons_zero]
      refine lP (i := 5) (v := ?_) rfl (by kernel_rfl) (fun _ _ _ h => h) rfl ?_ ?_
      rotate_left
      · intro W; go_simp; try with_reducible rfl
      try simp only [put_lit, put_none, List.set_cons_succ, List.set_cons_zero]
      refine lR (i := 4) (v := ?_) rfl (by kernel_rfl) (fun _ _ _ h => h) rfl ?_ ?_
      rotate_left
      · intro W hS; have hc : (fun W => W.cell? ⟨j, 4, none⟩ = some rv) W := hS; clear hS; dsimp only at hc; go_simp; try with_reducible rfl
      try simp only [put_lit, put_none, List.set_cons_succ, List.set_cons_zero]
      refine lE (i := 6) (live' := [4]) rfl (by kernel_rfl) (by kernel_rfl) ⟨c4, trivial⟩ (fun K hK => ?_)
      go_simp
      refine (Clone_calls (w := wr.drew) Hbts.out hl47).mono ?_
      rintro e V1 ⟨u, rfl, hu, hbV⟩
      obtain ⟨gu, cu, rfl⟩ := ownsRow_form hu (by omega)
      have f4 : V1.cell? ⟨j, 4, none⟩ = some rv := (hbV.cell (p := ⟨j, 4, none⟩) hjlt).trans c4
      have Hu := Lib.hid hu
      have HbV := Lib.hid hbV
      clear hu hbV
      refine hK _ _ ?_
      clear hK K
      try simp only [put_lit, put_none, List.set_cons_succ, List.set_cons_zero]
      refine lE (i := 7) (live' := [4]) rfl (by kernel_rfl) (by kernel_rfl) ⟨f4, trivial⟩ (fun K hK => ?_)
      go_simp
      skip
      refine hK _ _ ?_
      clear hK K
      try simp only [put_lit, put_none, List.set_cons_succ, List.set_cons_zero]
      refine lE (i := 8) (live' := []) rfl (by kernel_rfl) (by kernel_rfl) ⟨(World.cell?_alloc_lt _ _ _ (by have := HbV.out.size; exact Nat.lt_of_lt_of_le hjlt this)).trans f4, trivial⟩ (fun K hK => ?_)
      refine step_append_at rfl (.tmp 74) (.tmp 77) 32 rfl 0 22 i1 (.slice none 0 0) 1 24 Try.underlying32 hi1 hy0 hy1 hy2 rfl (by decide) rv (J.laid l).recs.length vs rfl (World.ownsRow.alloc (Agree.row (Q := fun _ => True) (Agree.below HbV.out) (fun _ _ => trivial) Hvs.out) _) ⟨V1.heap.size, 0, none⟩ 1 1 [.slice (some ⟨gu, 0, none⟩) l.length cu] rfl rfl (cells_new V1 _ _) (fun u hu => by simp at hu; subst hu; rfl) (by show J.recs.length + 1 ≤ maxLen; unfold maxLen; omega) (by show (J.recs.length + 1) * 24 ≤ _; omega) (Nat.zero_le _) (by omega) ?_
      intro g' c' V2 hown2 hgr2 hloc
      have ho1 : V1.heap[j]? = _ := (HbV.out.block j hjlt).trans Hjw.out.obj
      have ho2 : V2.heap[j]? = _ := grown_cells hgr2 (ownsRow_row (World.ownsRow.alloc (Agree.row (Q := fun _ => True) (Agree.below HbV.out) (fun _ _ => trivial) Hvs.out) _)) ((Below.heap_alloc V1 _ _ (lt_of_heap ho1)).trans ho1) (by decide)
      have e3 : V2.cell? ⟨j, 4, none⟩ = some rv := cell_row ho2 4
      have e4 : V2.frozen? ⟨j, 4, none⟩ = false := Lib.frozen_of_heap ho2 4
      have Hown2 := Lib.hid hown2
      have Hgr2 := Lib.hid hgr2
      have Hloc := Lib.hid hloc
      clear hown2 hgr2 hloc ho1 ho2
      refine hK _ _ ?_
      clear hK K
      try simp only [put_lit, put_none, List.set_cons_succ, List.set_cons_zero]
      refine lP (i := 9) (v := ?_) rfl (by kernel_rfl) (fun _ _ _ h => h) rfl ?_ ?_
      rotate_left
      · intro W; go_simp; try with_reducible rfl
      try simp only [put_lit, put_none, List.set_cons_succ, List.set_cons_zero]
      refine lP (i := 10) (v := ?_) rfl (by kernel_rfl) (fun _ _ _ h => h) rfl ?_ ?_
      rotate_left
      · intro W; go_simp; try with_reducible rfl
      try simp only [put_lit, put_none, List.set_cons_succ, List.set_cons_zero]
      refine lE (i := 11) (live' := []) rfl (by kernel_rfl) (by kernel_rfl) trivial (fun K hK => ?_)
      go_simp
      refine hK _ _ ?_
      clear hK K
      try simp only [put_lit, put_none, List.set_cons_succ, List.set_cons_zero]
      refine lDone (by kernel_rfl) (by exact trivial) ?_ _
      have hjwd := HI.out.jou.agree (w' := wr.drew) ⟨Nat.le_refl _, fun _ _ _ h => h⟩
      have hwrR : Within R wr.drew := fun k hk => Nat.lt_of_lt_of_le (Hwin.out k hk) HI.out.upd.size
      obtain ⟨hj5, hup5⟩ := hjwd.snoc (w := wr.drew) (o := #[.slice (some ⟨gu, 0, none⟩) l.length cu]) HbV.out hwrR Hu.out Hvs.out Hbt.out HR.out Hgr2.out Hown2.out (by
        rcases Hloc.out with e | e
        · exact .inl e.symm
        · exact .inr (by rw [e]; rfl)) (Hok.out.app hl)
      have Hj5 := Lib.hid hj5
      have Hup5 := Lib.hid hup5
      obtain ⟨F, hF⟩ : ∃ F, F = V2.setCell ⟨j, 4, none⟩ (.slice (some ⟨g', 0, none⟩) ((J.laid l).recs.length + 1) c') := ⟨_, rfl⟩
      have Hj6 : Hid (JouAt (Grw R wr.drew F) F j d bb c (.slice (some ⟨g', 0, none⟩) ((J.laid l).recs.length + 1) c') (J.app l)) := by rw [hF]; exact Hj5.out
      have Hup6 : Hid (Upd R wr.drew F) := by rw [hF]; exact Hup5.out
      rw [← hF]
      clear hF hj5 hup5 hjwd hwrR Hj5 Hup5 e3 e4 f4 c4
      go_wp2_with fail
      go_ret
      have hup := Hup6.out
      have hI := HI.out
      have hgf : appG J l G = G1 := by have := hI.rest; rw [appW] at this; exact this.symm
      have hRw : Within R wr := fun k hk => Nat.lt_of_lt_of_le (Hwin.out k hk) hI.upd.size
      have hgo : Out (Grw R wr.drew F) Rd1 := fun k hk hr => hk.elim (fun e => hI.out k e hr) (fun e => by have := hI.wind k hr; have e1 : wr.heap.size ≤ k := e.1; omega)
      refine ⟨rfl, Grw R wr.drew F, Rd1, ⟨⟨bb, c, _, Hj6.out⟩, ?_, hgo, hRw.grw hup.size, fun k hk => Nat.lt_of_lt_of_le (hI.wind k hk) hup.size⟩, ?_, ?_, hI.rd⟩
      · rw [hgf]
        exact (hI.disk.drewN 1).agree (hup.agree (fun k hk hr => hI.out k hr hk))
      · exact (hI.upd.drew).trans hup (fun k hk => .inl (.inl hk))
      · exact fun k hk => hk.imp id (fun e => Nat.le_trans hI.upd.size e.1)
    | succ m =>
      have d5 : decide ((i : Int) * 32 < U) = true := by simp only [decide_eq_true_eq]; omega
      have c0 : wr.cell? ⟨j, 0, none⟩ = some (.pointer (some ⟨d, 0, none⟩)) := cell_row HI.out.jou.obj 0
      have c1 : wr.cell? ⟨j, 1, none⟩ = some (.int .i64 J.first) := cell_row HI.out.jou.obj 1
      have hi32 : i * 32 + 32 ≤ (J.laid l).bytes.length := by rw [hlb]; omega
      have hsm := Hok.out.small
      have hws : IntKind.i64.wrap ((J.first : Int) + i) = ((J.first + i : Nat) : Int) := by rw [IntKind.wrap_i64] <;> omega
      have hin : J.first + i < G1.size := by rw [HI.out.size]; omega
      have hcq : G1.calls.length < 1000000000000 := by have := HI.out.calls; omega
      have Hin := Lib.hid hin
      have Hcq := Lib.hid hcq
      have Hi32 := Lib.hid hi32
      have Hbl := Lib.hid (blk_length hi32)
      have Hbn := Lib.hid (HI.out.jou.blk hi32)
      clear hin hcq hi32
      go_wp2_with fail
      refine lOpen [(3, (fun W => W.cell? ⟨j, 0, none⟩ = some (.pointer (some ⟨d, 0, none⟩)))), (7, (fun W => W.cell? ⟨j, 1, none⟩ = some (.int .i64 J.first)))] [(12, []), (13, [3, 7])] [3, 7] (by kernel_rfl) ?_
      refine lP (i := 0) (v := ?_) rfl (by kernel_rfl) (fun _ _ _ h => h) rfl ?_ ?_
      rotate_left
      · intro W; go_simp; try with_reducible rfl
      try simp only [put_lit, put_none, List.set_cons_succ, List.set_cons_zero]
      refine lP (i := 1) (v := ?_) rfl (by kernel_rfl) (fun _ _ _ h => h) rfl ?_ ?_
      rotate_left
      · intro W; go_simp; try with_reducible rfl
      try simp only [put_lit, put_none, List.set_cons_succ, List.set_cons_zero]
      refine lP (i := 2) (v := ?_) rfl (by kernel_rfl) (fun _ _ _ h => h) rfl ?_ ?_
      rotate_left
      · intro W; go_simp; try with_reducible rfl
      try simp only [put_lit, put_none, List.set_cons_succ, List.set_cons_zero]
      refine lP (i := 4) (v := ?_) rfl (by kernel_rfl) (fun _ _ _ h => h) rfl ?_ ?_
      rotate_left
      · intro W; go_simp; try with_reducible rfl
      try simp only [put_lit, put_none, List.set_cons_succ, List.set_cons_zero]
      refine lP (i := 5) (v := ?_) rfl (by kernel_rfl) (fun _ _ _ h => h) rfl ?_ ?_
      rotate_left
      · intro W; go_simp; try with_reducible rfl
      try simp only [put_lit, put_none, List.set_cons_succ, List.set_cons_zero]
      refine lP (i := 6) (v := ?_) rfl (by kernel_rfl) (fun _ _ _ h => h) rfl ?_ ?_
      rotate_left
      · intro W; go_simp; try with_reducible rfl
      try simp only [put_lit, put_none, List.set_cons_succ, List.set_cons_zero]
      refine lP (i := 8) (v := ?_) rfl (by kernel_rfl) (fun _ _ _ h => h) rfl ?_ ?_
      rotate_left
      · intro W; go_simp; try with_reducible rfl
      try simp only [put_lit, put_none, List.set_cons_succ, List.set_cons_zero]
      refine lP (i := 10) (v := ?_) rfl (by kernel_rfl) (fun _ _ _ h => h) rfl ?_ ?_
      rotate_left
      · intro W; go_simp; try with_reducible rfl
      try simp only [put_lit, put_none, List.set_cons_succ, List.set_cons_zero]
      refine lP (i := 11) (v := ?_) rfl (by kernel_rfl) (fun _ _ _ h => h) rfl ?_ ?_
      rotate_left
      · intro W; go_simp; try with_reducible rfl
      try simp only [put_lit, put_none, List.set_cons_succ, List.set_cons_zero]
      refine lR (i := 3) (v := ?_) rfl (by kernel_rfl) (fun _ _ _ h => h) rfl ?_ ?_
      rotate_left
      · intro W hS; have hc : (fun W => W.cell? ⟨j, 0, none⟩ = some (.pointer (some ⟨d, 0, none⟩))) W := hS; clear hS; dsimp only at hc; go_simp; try with_reducible rfl
      try simp only [put_lit, put_none, List.set_cons_succ, List.set_cons_zero]
      refine lR (i := 7) (v := ?_) rfl (by kernel_rfl) (fun _ _ _ h => h) rfl ?_ ?_
      rotate_left
      · intro W hS; have hc : (fun W => W.cell? ⟨j, 1, none⟩ = some (.int .i64 J.first)) W := hS; clear hS; dsimp only at hc; go_simp; try with_reducible rfl
      try simp only [put_lit, put_none, List.set_cons_succ, List.set_cons_zero]
      refine lP (i := 9) (v := ?_) rfl (by kernel_rfl) (fun _ _ _ h => h) rfl ?_ ?_
      rotate_left
      · intro W; go_simp; try with_reducible rfl
      try simp only [put_lit, put_none, List.set_cons_succ, List.set_cons_zero]
      refine lE (i := 12) (live' := [3, 7]) rfl (by kernel_rfl) (by kernel_rfl) ⟨c0, c1, trivial⟩ (fun K hK => ?_)
      go_simp
      refine (block_calls (w := wr.drew) (HI.out.jou.agree (w' := wr.drew) ⟨Nat.le_refl _, fun _ _ _ h => h⟩) Hi32.out).mono ?_
      rintro e V ⟨rfl, rfl⟩
      refine hK _ _ ?_
      clear hK K
      try simp only [put_lit, put_none, List.set_cons_succ, List.set_cons_zero]
      refine lE (i := 13) (live' := []) rfl (by kernel_rfl) (by kernel_rfl) ⟨c0, c1, trivial⟩ (fun K hK => ?_)
      go_simp
      refine (Write_calls (Q := fun k => k = bb) (w := wr.drew) (HI.out.disk.drewN 1) HI.out.wind Hin.out Hbn.out Hbl.out (fun k hk hr => HI.out.out bb hbbR (hk ▸ hr)) Hcq.out).mono ?_
      rintro e V ⟨rfl, Rd2, hd2, hreg2, hwi2⟩
      refine hK _ _ ?_
      clear hK K
      try simp only [put_lit, put_none, List.set_cons_succ, List.set_cons_zero]
      refine lDone (by kernel_rfl) (by exact trivial) ?_ _
      have hreg2' : Reg Rd1 wr Rd2 V := ⟨hreg2.os, hreg2.tape, hreg2.output, hreg2.size, hreg2.keep, hreg2.new⟩
      have hst := HI.out.step Hwin.out Hqd.out Hqw.out hd2 hreg2' hwi2
      have Hst := Lib.hid hst
      clear hd2 hreg2 hreg2' hwi2 hst c0 c1 c3
      go_wp2_with fail
      go_roundg m
      case measure => have := Hkk.out; omega
      case rel => exact ⟨i + 1, m, Rd2, _, by rw [Int.natCast_add]; rfl, Hst.out, rfl⟩
end Go.Proofs.Ytenihlicjahjhaa

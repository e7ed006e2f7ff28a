/-
  Zero: noughts behind a place of a journal's bytes: the walk.
-/
import Derived.Test.YtenihlicjahjhaaJou
import Derived.Deep.DeepMust
set_option linter.unusedVariables false
set_option linter.unusedSimpArgs false
namespace Go.Proofs.Ytenihlicjahjhaa
open Go Go.RowKit Go.Proofs

/-- a journal and its disk -/
structure JD (R Rd : Nat → Prop) (w : World) (j d : Nat) (J : JouG) (G : DiskG) : Prop where
  jou : IsJou R w j d J
  disk : IsDisk Rd w d G
  out : Out R Rd
  win : Within R w
  wind : Within Rd w

/-- from w to w' the two regions have turned -/
structure Move (R Rd : Nat → Prop) (w : World) (R' Rd' : Nat → Prop) (w' : World) : Prop where
  upd : Upd (fun k => R k ∨ Rd k) w w'
  r : ∀ k, R' k → R k ∨ w.heap.size ≤ k
  rd : ∀ k, Rd' k → Rd k ∨ w.heap.size ≤ k

theorem Move.refl (R Rd : Nat → Prop) (w : World) : Move R Rd w R Rd w := ⟨Upd.refl _ _, fun _ h => .inl h, fun _ h => .inl h⟩
theorem Move.trans {R Rd R1 Rd1 R2 Rd2 : Nat → Prop} {w w1 w2 : World} (h : Move R Rd w R1 Rd1 w1) (k : Move R1 Rd1 w1 R2 Rd2 w2) : Move R Rd w R2 Rd2 w2 :=
  ⟨h.upd.trans k.upd (fun i hi => hi.elim (fun e => (h.r i e).imp .inl id) (fun e => (h.rd i e).imp .inr id)), fun i hi => (k.r i hi).elim (h.r i) (fun e => .inr (Nat.le_trans h.upd.size e)), fun i hi => (k.rd i hi).elim (h.rd i) (fun e => .inr (Nat.le_trans h.upd.size e))⟩
theorem Move.below {R Rd R1 Rd1 : Nat → Prop} {w w1 w2 : World} (h : Move R Rd w R1 Rd1 w1) (hb : Below w1.heap.size w1 w2) : Move R Rd w R1 Rd1 w2 := ⟨h.upd.below hb, h.r, h.rd⟩
theorem Move.below0 {R Rd R1 Rd1 : Nat → Prop} {w w1 w2 : World} (hb : Below w.heap.size w w1) (h : Move R Rd w1 R1 Rd1 w2) : Move R Rd w R1 Rd1 w2 := (Move.refl R Rd w |>.below hb).trans h
theorem JD.bel {R Rd : Nat → Prop} {w w' : World} {j d : Nat} {J : JouG} {G : DiskG} (h : JD R Rd w j d J G) (hb : Below w.heap.size w w') : JD R Rd w' j d J G :=
  ⟨h.jou.bel hb, h.disk.bel hb, h.out, fun k hk => Nat.lt_of_lt_of_le (h.win k hk) hb.size, fun k hk => Nat.lt_of_lt_of_le (h.wind k hk) hb.size⟩

/-- the bytes behind a place made noughts -/
def zeroB (l : List UInt8) (n : Nat) : List UInt8 := l.take n ++ List.replicate (l.length - n) 0
theorem zeroB_length (l : List UInt8) (n : Nat) (h : n ≤ l.length) : (zeroB l n).length = l.length := by simp [zeroB]; omega
/-- the blocks that have turned are written, from the last one on -/
def zeroW (first : Nat) (old new : List UInt8) : Nat → DiskG → DiskG
  | 0, G => G
  | k + 1, G => zeroW first old new k (if blk new k = blk old k then G else G.write (first + k) (blk new k))
def zeroF (old new : List UInt8) : Nat → Bool
  | 0 => false
  | k + 1 => (blk new k != blk old k) || zeroF old new k

theorem DiskG.write_size (G : DiskG) (n : Nat) (l : List UInt8) : (G.write n l).size = G.size := rfl
theorem zeroW_size (first : Nat) (old new : List UInt8) : ∀ (k : Nat) (G : DiskG), (zeroW first old new k G).size = G.size
  | 0, _ => rfl
  | k + 1, G => by
    rw [zeroW, zeroW_size]
    split <;> rfl
theorem zeroW_calls (first : Nat) (old new : List UInt8) : ∀ (k : Nat) (G : DiskG), (zeroW first old new k G).calls.length ≤ G.calls.length + k
  | 0, _ => Nat.le_refl _
  | k + 1, G => by
    have h : (if blk new k = blk old k then G else G.write (first + k) (blk new k)).calls.length ≤ G.calls.length + 1 := by
      split
      · omega
      · simp [DiskG.write]
    rw [zeroW]
    exact Nat.le_trans (zeroW_calls first old new k _) (by omega)

/-- what zero leaves of the journal -/
def JouG.zeroed (J : JouG) (n : Nat) : JouG := { J with bytes := zeroB J.bytes n }
theorem JouG.ok.zeroed {J : JouG} (h : J.ok) {n : Nat} (hn : n ≤ J.bytes.length) : (J.zeroed n).ok := by
  have e : (J.zeroed n).bytes.length = J.bytes.length := zeroB_length _ _ hn
  exact ⟨by rw [e]; exact h.whole, by rw [e]; exact h.pos, by rw [e]; exact h.big, by rw [e]; exact h.used, h.few, h.small⟩

/-- where the writing of the blocks stands: i of them are still to come -/
structure ZInv (R Rd : Nat → Prop) (w : World) (j d bb c ob oc : Nat) (rv : Value) (J : JouG) (G : DiskG) (n i : Nat) (fl : Bool) (Rd1 : Nat → Prop) (G1 : DiskG) (wr : World) : Prop where
  jou : JouAt R wr j d bb c rv (J.zeroed n)
  disk : IsDisk Rd1 wr d G1
  wind : Within Rd1 wr
  out : Out R Rd1
  rest : zeroW J.first J.bytes (zeroB J.bytes n) i G1 = zeroW J.first J.bytes (zeroB J.bytes n) (J.bytes.length / 32) G
  flag : (fl || zeroF J.bytes (zeroB J.bytes n) i) = zeroF J.bytes (zeroB J.bytes n) (J.bytes.length / 32)
  old : Bts (fun k => k = ob) wr (.slice (some ⟨ob, 0, none⟩) J.bytes.length oc) J.bytes
  upd : Upd (fun k => R k ∨ Rd k) w wr
  rd : ∀ k, Rd1 k → Rd k ∨ w.heap.size ≤ k
  size : G1.size = G.size
  calls : G1.calls.length + i ≤ G.calls.length + J.bytes.length / 32
  ob1 : ¬ Rd1 ob
  le : i ≤ J.bytes.length / 32
  oblt : ob < wr.heap.size

theorem blk_eq (l : List UInt8) (m : Nat) : blk l m = (l.drop (m * 32)).take 32 := by
  unfold blk
  rw [List.drop_take, show m * 32 + 32 - m * 32 = 32 by omega]

theorem ZInv.skip {R Rd : Nat → Prop} {w : World} {j d bb c ob oc : Nat} {rv : Value} {J : JouG} {G : DiskG} {n m : Nat} {fl : Bool} {Rd1 : Nat → Prop} {G1 : DiskG} {wr : World} (h : ZInv R Rd w j d bb c ob oc rv J G n (m + 1) fl Rd1 G1 wr)
    (he : blk (zeroB J.bytes n) m = blk J.bytes m) : ZInv R Rd w j d bb c ob oc rv J G n m fl Rd1 G1 wr := by
  refine ⟨h.jou, h.disk, h.wind, h.out, ?_, ?_, h.old, h.upd, h.rd, h.size, by have := h.calls; omega, h.ob1, by have := h.le; omega, h.oblt⟩
  · have := h.rest
    rwa [zeroW, if_pos he] at this
  · have := h.flag
    rwa [zeroF, bne_eq_false_iff_eq.2 he, Bool.false_or] at this

theorem ZInv.write {R Rd : Nat → Prop} {w : World} {j d bb c ob oc : Nat} {rv : Value} {J : JouG} {G : DiskG} {n m : Nat} {fl : Bool} {Rd1 Rd2 : Nat → Prop} {G1 : DiskG} {wr w2 : World} (h : ZInv R Rd w j d bb c ob oc rv J G n (m + 1) fl Rd1 G1 wr)
    (hne : ¬ blk (zeroB J.bytes n) m = blk J.bytes m) (hwin : Within R w) (hd : IsDisk Rd2 w2 d (G1.write (J.first + m) (blk (zeroB J.bytes n) m))) (hreg : Reg Rd1 wr Rd2 w2) (hw2 : Within Rd2 w2) :
    ZInv R Rd w j d bb c ob oc rv J G n m true Rd2 (G1.write (J.first + m) (blk (zeroB J.bytes n) m)) w2 := by
  have hwr : Within R wr := fun k hk => Nat.lt_of_lt_of_le (hwin k hk) h.upd.size
  refine ⟨h.jou.agree (hreg.agree h.out), hd, hw2, hreg.out h.out hwr, ?_, ?_, h.old.agree (hreg.agree (Q := fun k => k = ob) (fun k hk hr => h.ob1 (hk ▸ hr))), ?_, ?_, h.size, ?_, ?_, by have := h.le; omega, Nat.lt_of_lt_of_le h.oblt hreg.size⟩
  · have := h.rest
    rwa [zeroW, if_neg hne] at this
  · have := h.flag
    rw [zeroF, bne_iff_ne.2 hne, Bool.true_or, Bool.or_true] at this
    rw [Bool.true_or, this]
  · exact h.upd.trans hreg.upd (fun k hk => (h.rd k hk).imp .inr id)
  · exact fun k hk => (hreg.new k hk).elim (h.rd k) (fun e => .inr (Nat.le_trans h.upd.size e))
  · have := h.calls
    simp only [DiskG.write, List.length_append, List.length_singleton]; omega
  · intro hr
    rcases hreg.new ob hr with e | e
    · exact h.ob1 e
    · have := h.oblt; omega

set_option maxRecDepth 100000 in
set_option maxHeartbeats 4000000 in
theorem zero_calls {R Rd : Nat → Prop} {w : World} {j d : Nat} {J : JouG} {G : DiskG} {n : Nat} (h : JD R Rd w j d J G) (hn : n ≤ J.bytes.length) (hfit : J.first + J.bytes.length / 32 ≤ G.size) (hc : G.calls.length < 900000000000) :
    Calls Try.prog 96 #[.pointer (some ⟨j, 0, none⟩), .int .i64 n] w fun e w' => e = .returned (.bool (zeroF J.bytes (zeroB J.bytes n) (J.bytes.length / 32))) ∧
      ∃ Rd', JD R Rd' w' j d (J.zeroed n) (zeroW J.first J.bytes (zeroB J.bytes n) (J.bytes.length / 32) G) ∧ Move R Rd w R Rd' w' := by
  obtain ⟨⟨bb, c, rv, hj⟩, hd, hout, hwin, hwind⟩ := h
  have hok := hj.ok
  have hbig := hok.big
  have hwh := hok.whole
  have hpos := hok.pos
  have c2 : w.cell? ⟨j, 2, none⟩ = some (.slice (some ⟨bb, 0, none⟩) J.bytes.length c) := cell_row hj.obj 2
  obtain ⟨N, hN⟩ : ∃ N, N = J.bytes.length := ⟨_, rfl⟩
  obtain ⟨w1, hmk, hown1, hb1⟩ := madeU8 w (J.bytes.length - n) (by omega)
  have hmk' : (Instr.makeSlice 22 (.int .i64 ((J.bytes.length : Int) - n)) (.int .i64 ((J.bytes.length : Int) - n))).run Try.prog w = .ok (.slice (some ⟨w.heap.size, 0, none⟩) (J.bytes.length - n) (J.bytes.length - n)) w1 := by
    rw [show ((J.bytes.length : Int) - n) = ((J.bytes.length - n : Nat) : Int) by omega]; exact hmk
  have c2' : w1.cell? ⟨j, 2, none⟩ = some (.slice (some ⟨bb, 0, none⟩) J.bytes.length c) := (hb1.cell (p := ⟨j, 2, none⟩) (lt_of_heap hj.obj)).trans c2
  have Hj := Lib.hid hj
  have Hd := Lib.hid hd
  have Hout := Lib.hid hout
  have Hwin := Lib.hid hwin
  have Hwind := Lib.hid hwind
  have Hok := Lib.hid hok
  have HN := Lib.hid hN
  have Hown1 := Lib.hid hown1
  clear hj hd hout hwin hwind hok hN hown1 hmk
  go_enter Try.func96, Try.ntmps96
  go_wp2_with fail
  have hj1 := Hj.out.agree (Agree.below (Q := R) hb1)
  refine (Clone_calls hj1.bts (by omega)).mono ?_
  rintro e w2 ⟨ov, rfl, hown2, hb2⟩
  obtain ⟨ob, oc, rfl⟩ := ownsRow_form hown2 (by omega)
  have hj2 := hj1.agree (Agree.below (Q := R) hb2)
  have hcap := hj2.cap
  have hrow2 := hj2.row
  have c3' : w2.cell? ⟨j, 2, none⟩ = some (.slice (some ⟨bb, 0, none⟩) J.bytes.length c) := cell_row hj2.obj 2
  have hz2 : Bts (fun k => k = w.heap.size) w2 (.slice (some ⟨w.heap.size, 0, none⟩) (J.bytes.length - n) (J.bytes.length - n)) (List.replicate (J.bytes.length - n) 0) :=
    (Bts.of_row Hown1.out _ (fun g hg => by cases hg; rfl)).agree (Agree.below hb2)
  obtain ⟨az, cz, ez, _, _, hz3⟩ := hz2
  injection ez with ez ez2 ez3
  subst ez
  clear ez2 ez3
  have Hown2 := Lib.hid hown2
  have Hj2 := Lib.hid hj2
  have Hrow2 := Lib.hid hrow2
  have Hz3 := Lib.hid hz3
  clear hj1 hown2 hj2 hrow2 hz3
  have hk1 : (List.replicate (J.bytes.length - n) (0 : UInt8)).length = Nat.min (J.bytes.length - n) (J.bytes.length - n) := by simp
  have hk2 : 0 < (List.replicate (J.bytes.length - n) (0 : UInt8)).length → (if c = n then some ⟨bb, 0, none⟩ else (some ⟨bb, 0, none⟩ : Option Addr).map (·.add n)) = some ⟨bb, n, none⟩ ∧ ∃ ad, (some ⟨w.heap.size, 0, none⟩ : Option Addr) = some ad ∧
      ∀ j v, (Lib.byteCells (List.replicate (J.bytes.length - n) 0))[j]? = some v → w2.cell? (ad.add j) = some v := by
    intro hp
    rw [List.length_replicate] at hp
    refine ⟨by rw [if_neg (by omega)]; simp only [Option.map_some, Addr.add_mid, Nat.zero_add], _, rfl, ?_⟩
    obtain ⟨g, o, e, _, hr⟩ := Hz3.out (by intro e; have := congrArg List.length e; simp at this; omega)
    cases e
    intro j v hv
    rw [Addr.add_mid]
    exact hr j v hv
  have hk3 : n + (List.replicate (J.bytes.length - n) (0 : UInt8)).length ≤ J.bytes.length := by rw [List.length_replicate]; omega
  have Hk1 := Lib.hid hk1
  have Hk2 := Lib.hid hk2
  have Hk3 := Lib.hid hk3
  clear hk1 hk2 hk3
  go_wp2_with (first | (refine wpList_cut_from_v (op := ⟨some 28, Op.slice 22 (.tmp 26) (some (.tmp 27)) none none, _, _, _, _⟩) rfl _ _ rfl (some ⟨bb, 0, none⟩) J.bytes.length c n rfl rfl hn ?_) | ((refine wpList_copy_at (op := ⟨some 30, _, _, _, _, _⟩) rfl (.tmp 28) (.tmp 29) rfl (if c = n then some ⟨bb, 0, none⟩ else (some ⟨bb, 0, none⟩ : Option Addr).map (·.add n)) (some ⟨w.heap.size, 0, none⟩) (J.bytes.length - n) (c - n) (J.bytes.length - n) (J.bytes.length - n) rfl rfl bb J.bytes.length c n J.bytes (List.replicate (J.bytes.length - n) 0) Hrow2.out Hk1.out Hk2.out Hk3.out ?_)))
  intro w3 hrow3 hgr3
  have hobj := Hj.out.obj
  have hjb : j < w.heap.size := lt_of_heap hobj
  have hbbw : bb < w.heap.size := (Hj.out.row.lt bb rfl).2
  have hb12 := hb1.trans (hb2.mono hb1.size)
  have hne : j ≠ bb := by
    rintro rfl
    rcases Hj.out.row.2 with ⟨e, _⟩ | ⟨_, _, _, e, _, hh, _⟩
    · cases e
    · cases e; rw [hobj] at hh; cases hh
  have hA3 : ∀ (Q : Nat → Prop), ¬ Q bb → Agree Q w2 w3 := fun Q hq => ⟨hgr3.size, fun k hk o ho => (hgr3.block k (lt_of_heap ho) (fun e => by cases e; exact hq hk)).trans ho⟩
  have hj3 : JouAt R w3 j d bb c rv (J.zeroed n) := by
    have hz : (J.zeroed n).bytes.length = J.bytes.length := zeroB_length _ _ hn
    refine ⟨?_, ?_, Hj2.out.recs.agree (hA3 _ (fun h => h.2 rfl)), Hj.out.rj, Hj.out.rb, Hok.out.zeroed hn⟩
    · rw [hz]
      exact (hA3 (fun k => k = j) (fun h => hne h.symm)).2 j rfl _ Hj2.out.obj
    · rw [hz]; simpa [JouG.zeroed, zeroB] using hrow3
  have hobw : w1.heap.size ≤ ob := by
    obtain ⟨e1, e2⟩ := Hown2.out
    rcases e2 with ⟨e, _⟩ | ⟨g, _, _, e, hg, _⟩
    · cases e
    · cases e; exact hg
  have hw1s := hb1.size
  have hold3 : Bts (fun k => k = ob) w3 (.slice (some ⟨ob, 0, none⟩) J.bytes.length oc) J.bytes := (Bts.of_row Hown2.out _ (fun g hg => by cases hg; rfl)).agree (hA3 _ (fun h => by omega))
  have hd3 : IsDisk Rd w3 d G := (Hd.out.bel hb12).agree (hA3 _ (fun h => Hout.out bb Hj.out.rb h))
  have hupd3 : Upd (fun k => R k ∨ Rd k) w w3 := ((Upd.refl _ w).below hb12).grown hgr3 (fun k hk => by cases hk; exact .inl (.inl Hj.out.rb))
  have hA3s := hgr3.size
  have hinv : ZInv R Rd w j d bb c ob oc rv J G n (J.bytes.length / 32) false Rd G w3 :=
    ⟨hj3, hd3, fun k hk => Nat.lt_of_lt_of_le (Hwind.out k hk) hupd3.size, Hout.out, rfl, rfl, hold3, hupd3, fun _ h => .inl h, rfl, Nat.le_refl _, fun h => by have := Hwind.out ob h; omega, Nat.le_refl _, Nat.lt_of_lt_of_le (Hown2.out.lt ob rfl).2 hA3s⟩
  have d2' : w3.cell? ⟨j, 2, none⟩ = some (.slice (some ⟨bb, 0, none⟩) J.bytes.length c) := by
    have := cell_row hj3.obj 2
    rw [show (J.zeroed n).bytes.length = J.bytes.length from zeroB_length _ _ hn] at this
    exact this
  have Hinv := Lib.hid hinv
  clear hrow3 hgr3 hobj hb12 hA3 hj3 hold3 hd3 hupd3 hinv hb1 hb2 c2 c2' c3' hmk'
  have hq : ((J.bytes.length : Int)).tdiv 32 = ((J.bytes.length / 32 : Nat) : Int) := by
    rw [Int.tdiv_eq_ediv_of_nonneg (by omega)]; omega
  go_wp2_with fail
  go_loopg [5, 8] (J.bytes.length / 32) (fun k v q wr => ∃ (i : Nat) (fl : Bool) (Rd1 : Nat → Prop) (G1 : DiskG), q = .int .i64 ((i : Int) - 1) ∧ v = .bool fl ∧ ZInv R Rd w j d bb c ob oc rv J G n i fl Rd1 G1 wr ∧ k = i)
  case atStart => exact ⟨J.bytes.length / 32, false, Rd, G, by rw [Int.natCast_ediv]; rfl, rfl, Hinv.out, rfl⟩
  case round =>
    obtain ⟨i, fl, Rd1, G1, rfl, rfl, hinv, hk⟩ := hrel
    have HI := Lib.hid hinv
    have Hk := Lib.hid hk
    clear hinv hk
    cases i with
    | zero =>
      go_wp2_with fail
      go_ret
      have hfl := HI.out.flag
      have hrs := HI.out.rest
      simp only [zeroF, Bool.or_false] at hfl
      simp only [zeroW] at hrs
      refine ⟨by rw [← hfl]; rfl, Rd1, ⟨⟨bb, c, rv, HI.out.jou⟩, by rw [← hrs]; exact HI.out.disk, HI.out.out, fun k hk => Nat.lt_of_lt_of_le (Hwin.out k hk) HI.out.upd.size, HI.out.wind⟩, HI.out.upd, fun _ h => .inl h, HI.out.rd⟩
    | succ m =>
      rw [show (((m + 1 : Nat) : Int) - 1) = (m : Int) by omega]
      have hmle := HI.out.le
      have d1 : decide (0 ≤ (m : Int)) = true := by simp only [decide_eq_true_eq]; omega
      have hm32 : m * 32 + 32 ≤ (J.zeroed n).bytes.length := by rw [show (J.zeroed n).bytes.length = J.bytes.length from zeroB_length _ _ hn]; omega
      go_wp2_with fail
      refine (block_calls HI.out.jou hm32).mono ?_
      rintro e w4 ⟨rfl, rfl⟩
      have hbn := HI.out.jou.blk hm32
      have hbl : (blk (J.zeroed n).bytes m).length = 32 := blk_length hm32
      have Hbn := Lib.hid hbn
      have Hbl := Lib.hid hbl
      have hcm : (m * 32 : Nat) ≤ J.bytes.length := by omega
      have hcm2 : 32 ≤ (J.bytes.drop (m * 32)).length := by rw [List.length_drop]; omega
      have Hcm2 := Lib.hid hcm2
      clear hbn hbl hcm2
      go_wp2_with (first | (refine wpList_cut_to (op := ⟨some 50, Op.slice 22 (.tmp 49) none (some (.const (.int .i64 32))) none, _, _, _, _⟩) rfl _ _ rfl _ _ 32 rfl rfl hv1 Hcm2.out ?_; intro v2 hv2) | (refine wpList_cut_from (op := ⟨some 49, Op.slice 22 (.tmp 46) (some (.tmp 48)) none none, _, _, _, _⟩) rfl _ _ rfl _ _ (m * 32) rfl (by rw [Int.natCast_mul]; rfl) HI.out.old hcm ?_; intro v1 hv1))
      have Hv2 := Lib.hid hv2
      clear hv1 hv2
      obtain ⟨B, hB⟩ : ∃ B, B = (blk (J.zeroed n).bytes m == (J.bytes.drop (m * 32)).take 32) := ⟨_, rfl⟩
      refine (Equal_calls Hbn.out Hv2.out).mono ?_
      rintro e w4 ⟨rfl, rfl⟩
      rw [← hB]
      have HB : Hid (B = true ↔ blk (zeroB J.bytes n) m = blk J.bytes m) := by
        rw [hB, beq_iff_eq, ← blk_eq]; exact Iff.rfl
      clear hB
      cases B with
      | true =>
        go_wp2_with fail
        go_roundg m
        case measure => have := Hk.out; omega
        case rel => exact ⟨m, fl, Rd1, G1, rfl, rfl, HI.out.skip (HB.out.1 (by trivial)), rfl⟩
      | false =>
        have hne : ¬ blk (zeroB J.bytes n) m = blk J.bytes m := fun e => by have := HB.out.2 e; cases this
        have Hne := Lib.hid hne
        have hsm := Hok.out.small
        have hsz1 := HI.out.size
        have hcl1 := HI.out.calls
        have e0 : w4.cell? ⟨j, 0, none⟩ = some (.pointer (some ⟨d, 0, none⟩)) := cell_row HI.out.jou.obj 0
        have e1 : w4.cell? ⟨j, 1, none⟩ = some (.int .i64 J.first) := cell_row HI.out.jou.obj 1
        have hws : IntKind.i64.wrap ((J.first : Int) + m) = ((J.first + m : Nat) : Int) := by rw [IntKind.wrap_i64] <;> omega
        have hin : J.first + m < G1.size := by omega
        have Hin := Lib.hid hin
        have hcq : G1.calls.length < 1000000000000 := by omega
        have Hcq := Lib.hid hcq
        clear hne hsz1 hcl1 hin hcq
        have hrb := HI.out.jou.rb
        go_wp2_with fail
        refine lOpen [(3, (fun W => W.heap = (w4).heap)), (7, (fun W => W.heap = (w4).heap))] [(11, [3, 7])] [3, 7] (by kernel_rfl) ?_
        refine lP (i := 0) (v := ?_) rfl (by kernel_rfl) (fun _ _ _ h => h) rfl ?_ ?_
        rotate_left
        · intro W; go_simp; try with_reducible rfl
        try simp only [put_lit, put_none, List.set_cons_succ, List.set_cons_zero]
        refine lP (i := 1) (v := ?_) rfl (by kernel_rfl) (fun _ _ _ h => h) rfl ?_ ?_
        rotate_left
        · intro W; go_simp; try with_reducible rfl
        try simp only [put_lit, put_none, List.set_cons_succ, List.set_cons_zero]
        refine lP (i := 2) (v := ?_) rfl (by kernel_rfl) (fun _ _ _ h => h) rfl ?_ ?_
        rotate_left
        · intro W; go_simp; try with_reducible rfl
        try simp only [put_lit, put_none, List.set_cons_succ, List.set_cons_zero]
        refine lP (i := 4) (v := ?_) rfl (by kernel_rfl) (fun _ _ _ h => h) rfl ?_ ?_
        rotate_left
        · intro W; go_simp; try with_reducible rfl
        try simp only [put_lit, put_none, List.set_cons_succ, List.set_cons_zero]
        refine lP (i := 5) (v := ?_) rfl (by kernel_rfl) (fun _ _ _ h => h) rfl ?_ ?_
        rotate_left
        · intro W; go_simp; try with_reducible rfl
        try simp only [put_lit, put_none, List.set_cons_succ, List.set_cons_zero]
        refine lP (i := 6) (v := ?_) rfl (by kernel_rfl) (fun _ _ _ h => h) rfl ?_ ?_
        rotate_left
        · intro W; go_simp; try with_reducible rfl
        try simp only [put_lit, put_none, List.set_cons_succ, List.set_cons_zero]
        refine lP (i := 8) (v := ?_) rfl (by kernel_rfl) (fun _ _ _ h => h) rfl ?_ ?_
        rotate_left
        · intro W; go_simp; try with_reducible rfl
        try simp only [put_lit, put_none, List.set_cons_succ, List.set_cons_zero]
        refine lP (i := 10) (v := ?_) rfl (by kernel_rfl) (fun _ _ _ h => h) rfl ?_ ?_
        rotate_left
        · intro W; go_simp; try with_reducible rfl
        try simp only [put_lit, put_none, List.set_cons_succ, List.set_cons_zero]
        refine lR (i := 3) (v := ?_) rfl (by kernel_rfl) (fun _ _ _ h => h) rfl ?_ ?_
        rotate_left
        · intro W hS; have hc := cell_of_same (show W.heap = (w4).heap from hS); clear hS; go_simp; try with_reducible rfl
        try simp only [put_lit, put_none, List.set_cons_succ, List.set_cons_zero]
        refine lR (i := 7) (v := ?_) rfl (by kernel_rfl) (fun _ _ _ h => h) rfl ?_ ?_
        rotate_left
        · intro W hS; have hc := cell_of_same (show W.heap = (w4).heap from hS); clear hS; go_simp; try with_reducible rfl
        try simp only [put_lit, put_none, List.set_cons_succ, List.set_cons_zero]
        refine lP (i := 9) (v := ?_) rfl (by kernel_rfl) (fun _ _ _ h => h) rfl ?_ ?_
        rotate_left
        · intro W; go_simp; try with_reducible rfl
        try simp only [put_lit, put_none, List.set_cons_succ, List.set_cons_zero]
        refine lE (i := 11) (live' := []) rfl (by kernel_rfl) (by kernel_rfl) ⟨rfl, rfl, trivial⟩ (fun K hK => ?_)
        go_simp
        refine (Write_calls (Q := fun k => k = bb) (w := w4.drew) (HI.out.disk.drewN 1) HI.out.wind Hin.out Hbn.out Hbl.out (fun k hk hr => HI.out.out bb hrb (hk ▸ hr)) Hcq.out).mono ?_
        rintro e V ⟨rfl, Rd2, hd2, hreg2, hwi2⟩
        refine hK _ _ ?_
        clear hK K
        try simp only [put_lit, put_none, List.set_cons_succ, List.set_cons_zero]
        refine lDone (by kernel_rfl) (by exact trivial) ?_ _
        have hreg2' : Reg Rd1 w4 Rd2 V := ⟨hreg2.os, hreg2.tape, hreg2.output, hreg2.size, hreg2.keep, hreg2.new⟩
        have hinv2 := HI.out.write Hne.out Hwin.out hd2 hreg2' hwi2
        have Hinv2 := Lib.hid hinv2
        clear hd2 hreg2 hreg2' hwi2 hinv2 e0 e1
        go_wp2_with fail
        go_roundg m
        case measure => have := Hk.out; omega
        case rel => exact ⟨m, true, Rd2, _, rfl, rfl, Hinv2.out, rfl⟩
end Go.Proofs.Ytenihlicjahjhaa

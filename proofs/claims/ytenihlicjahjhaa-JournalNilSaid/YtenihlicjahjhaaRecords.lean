/-
  Records: a journal's records are told; and it is cleared.
-/
import Derived.Test.YtenihlicjahjhaaAppend
set_option linter.unusedVariables false
set_option linter.unusedSimpArgs false
namespace Go.Proofs.Ytenihlicjahjhaa
open Go Go.RowKit Go.Proofs

set_option maxRecDepth 100000 in
set_option maxHeartbeats 2000000 in
theorem Records_calls {R : Nat → Prop} {w : World} {j d : Nat} {J : JouG} (h : IsJou R w j d J) (hlen : ∀ x ∈ J.recs, x.length ≤ 4096) :
    Calls Try.prog 26 #[.pointer (some ⟨j, 0, none⟩)] w fun e w' => ∃ v, e = .returned v ∧ Recs (fun k => w.heap.size ≤ k) w' v J.recs ∧ Below w.heap.size w w' := by
  obtain ⟨bb, c, rv, h⟩ := h
  have c4 : w.cell? ⟨j, 4, none⟩ = some rv := cell_row h.obj 4
  have hfew := h.ok.few
  have hus := h.ok.used
  have hbig := h.ok.big
  obtain ⟨vs, hvs, hR, hbt⟩ := h.recs
  obtain ⟨n, hn⟩ : ∃ n, n = J.recs.length := ⟨_, rfl⟩
  have hvl : vs.length = n := by have := hvs.1; omega
  rw [← hn] at hvs hfew
  obtain ⟨ra, rc, hrv⟩ := own_slice hvs
  have hat : ∀ i, i < n → ∃ g, ra = some ⟨g, 0, none⟩ ∧ g < w.heap.size ∧ ∃ u, vs[i]? = some u ∧ w.cell? ⟨g, i, none⟩ = some u := by
    intro i hi
    obtain ⟨g, c', e⟩ := ownsRow_form hvs (by omega)
    rw [hrv] at e
    injection e with e _ _
    subst e
    have hvi : vs[i]? = some (vs[i]'(by omega)) := List.getElem?_eq_getElem (by omega)
    have := hvs.cells (g := g) (by rw [hrv]; rfl) i _ hvi
    rw [Addr.add_mid, Nat.zero_add] at this
    exact ⟨g, rfl, (hvs.lt g (by rw [hrv]; rfl)).2, _, hvi, this⟩
  subst hrv
  obtain ⟨i0, hi, hz0, hz1, hz2⟩ := info_parts infoSl
  have Hat := Lib.hid hat
  have Hbt := Lib.hid hbt
  have Hn := Lib.hid hn
  have Hlen := Lib.hid hlen
  clear h hvs hR hbt hat hn hvl hlen
  go_enter Try.func26, Try.ntmps26
  go_wp2_with fail
  go_loopg [3, 13] n (fun k v q wr => ∃ i : Nat, i ≤ n ∧ q = .int .i64 i ∧ Recs (fun k => w.heap.size ≤ k) wr v (J.recs.take i) ∧ Below w.heap.size w wr ∧ k = n - i)
  case atStart => exact ⟨0, Nat.zero_le _, rfl, by rw [List.take_zero]; exact Recs.nil _ _, Below.refl _ _, rfl⟩
  case round =>
    obtain ⟨i, hin, rfl, hrec, hbel, hk⟩ := hrel
    have Hrec := Lib.hid hrec
    have Hk := Lib.hid hk
    have hbs := hbel.size
    clear hrec hk
    by_cases hlt : i < n
    · have d1 : decide ((i : Int) < n) = true := by simp only [decide_eq_true_eq]; omega
      obtain ⟨g, rfl, hg, u, hu1, hu2⟩ := Hat.out i hlt
      have hxi : J.recs[i]? = some (J.recs[i]'(by rw [← Hn.out]; exact hlt)) := List.getElem?_eq_getElem _
      obtain ⟨x, hx⟩ : ∃ x, x = J.recs[i]'(by rw [← Hn.out]; exact hlt) := ⟨_, rfl⟩
      rw [← hx] at hxi
      have hxl : x.length ≤ 4096 := by rw [hx]; exact Hlen.out _ (List.getElem_mem _)
      have hbx := (Hbt.out i u x hu1 hxi).agree (Agree.below hbel)
      have hcell : wr.cell? ⟨g, i, none⟩ = some u := (hbel.cell (p := ⟨g, i, none⟩) hg).trans hu2
      obtain ⟨ua, un, uc, rfl⟩ : ∃ a n c, u = .slice a n c := by obtain ⟨a, c, e, _⟩ := hbx; exact ⟨_, _, _, e⟩
      have Hbx := Lib.hid hbx
      have Hxi := Lib.hid hxi
      have Hxl := Lib.hid (show x.length ≤ 140737488355328 by omega)
      clear hbx hxi hx hu1 hu2
      go_wp2_with fail
      refine (Clone_calls Hbx.out Hxl.out).mono ?_
      rintro e w1 ⟨u1, rfl, hown1, hb1⟩
      obtain ⟨gu, cu, rfl⟩ : ∃ a c, u1 = .slice a x.length c := own_slice hown1
      have hbw := hbel.trans (hb1.mono hbs)
      have hsz := hbw.size
      obtain ⟨vs2, ho, hR2, hbts2⟩ := Hrec.out.bel hb1
      obtain ⟨vs3, ho3, _, _⟩ := Hrec.out
      have hx1 := Bts.of_row hown1 (fun k => w.heap.size ≤ k ∧ (u3).ownBlock ≠ some k) (fun g hg => ⟨by have := (hown1.lt g hg).1; omega, fun e => by have := (ho3.lt g e).2; have := (hown1.lt g hg).1; omega⟩)
      have Ho := Lib.hid ho
      have HR2 := Lib.hid hR2
      have Hb2 := Lib.hid hbts2
      have Hx1 := Lib.hid hx1
      clear ho hR2 hbts2 hx1 ho3 hown1
      go_wp2_with (at_builtin; refine wpList_append_own_at _ rfl _ _ 32 rfl 0 22 i0 (.slice none 0 0) 1 24 Try.underlying32 hi hz0 hz1 hz2 rfl (by decide) _ _ _ rfl (Ho.out.alloc _) ⟨w1.heap.size, 0, none⟩ 1 1 [.slice gu x.length cu] rfl rfl ?k1 ?k2 ?k3 ?k4 ?k5 ?_)
      case k1 => exact cells_new _ _ _
      case k2 => intro u hu; simp at hu; subst hu; rfl
      case k3 => rw [List.length_take]; unfold maxLen; omega
      case k4 => rw [List.length_take]; omega
      case k5 => exact Nat.zero_le _
      intro v' w3 hown3 hgr3 _ hloc3
      have hrec3 := recs_snoc (R' := fun k => w.heap.size ≤ k) Ho.out Hb2.out HR2.out Hx1.out hgr3 (by rw [List.length_take]; exact hown3) (by rw [World.size_alloc]; exact hloc3) (fun _ h => h) (by simp; omega)
      have hb3 := (hbw.alloc hsz _).grown hgr3 (by simp; omega) (fun r hr => HR2.out r hr)
      have Hrec3 := Lib.hid hrec3
      clear hrec3 hown3 hgr3 hloc3
      go_wp2_with fail
      go_roundg (n - (i + 1))
      case measure => have := Hk.out; omega
      case rel =>
        refine ⟨i + 1, by omega, by rw [Int.natCast_add]; rfl, ?_, hb3, rfl⟩
        have e : J.recs.take (i + 1) = J.recs.take i ++ [x] := by
          rw [List.take_add_one, Hxi.out]; rfl
        rw [e]; exact Hrec3.out
    · have hie : i = n := by omega
      subst hie
      go_wp2_with fail
      go_ret
      refine ⟨_, rfl, ?_, hbel⟩
      have := Hrec.out
      rwa [Hn.out, List.take_length] at this

/-- what Clear leaves -/
def JouG.clear (J : JouG) : JouG := ⟨J.first, zeroB J.bytes 0, 0, []⟩
def clearG (J : JouG) (G : DiskG) : DiskG := (zeroW J.first J.bytes (zeroB J.bytes 0) (J.bytes.length / 32) G).sync

set_option maxRecDepth 100000 in
set_option maxHeartbeats 2000000 in
theorem Clear_calls {R Rd : Nat → Prop} {w : World} {j d : Nat} {J : JouG} {G : DiskG} (h : JD R Rd w j d J G) (hfit : J.first + J.bytes.length / 32 ≤ G.size) (hc : G.calls.length < 800000000000) :
    Calls Try.prog 28 #[.pointer (some ⟨j, 0, none⟩)] w fun e w' => e = .returned (.int .i64 0) ∧ ∃ Rd', JD R Rd' w' j d J.clear (clearG J G) ∧ Move R Rd w R Rd' w' := by
  have H := Lib.hid h
  clear h
  go_enter Try.func28, Try.ntmps28
  go_wp2_with fail
  refine (zero_calls (n := 0) H.out (Nat.zero_le _) hfit (by omega)).mono ?_
  rintro e w1 ⟨rfl, Rd1, hjd, hmv⟩
  obtain ⟨bb, c, rv, hj⟩ := hjd.jou
  have hbig := hj.ok.big
  have hz : (J.zeroed 0).bytes.length = J.bytes.length := zeroB_length _ _ (Nat.zero_le _)
  rw [hz] at hbig
  obtain ⟨ra, rn, rc, rfl⟩ : ∃ a n c, rv = .slice a n c := by obtain ⟨vs, hvs, _⟩ := hj.recs; obtain ⟨a, c, e⟩ := own_slice hvs; exact ⟨_, _, _, e⟩
  have c0 : w1.cell? ⟨j, 0, none⟩ = some (.pointer (some ⟨d, 0, none⟩)) := cell_row hj.obj 0
  have c3 : w1.cell? ⟨j, 3, none⟩ = some (.int .i64 J.used) := cell_row hj.obj 3
  have c4 : w1.cell? ⟨j, 4, none⟩ = some (.slice ra rn rc) := cell_row hj.obj 4
  have f3 : w1.frozen? ⟨j, 3, none⟩ = false := Lib.frozen_of_heap hj.obj 3
  have f4 : w1.frozen? ⟨j, 4, none⟩ = false := Lib.frozen_of_heap hj.obj 4
  have hcalls := zeroW_calls J.first J.bytes (zeroB J.bytes 0) (J.bytes.length / 32) G
  have Hjd := Lib.hid hjd
  have Hmv := Lib.hid hmv
  have Hj := Lib.hid hj
  have Hz := Lib.hid hz
  have hcq : (zeroW J.first J.bytes (zeroB J.bytes 0) (J.bytes.length / 32) G).calls.length < 1000000000000 := by omega
  have Hcq := Lib.hid hcq
  clear hjd hmv hj hz hcalls hcq
  go_wp2_with fail
  obtain ⟨W2, hW2⟩ : ∃ W2, W2 = (w1.setCell ⟨j, 3, none⟩ (.int .i64 0)).setCell ⟨j, 4, none⟩ (.slice none 0 0) := ⟨_, rfl⟩
  rw [← hW2]
  have hup2 : Upd R w1 W2 := by
    rw [hW2]
    exact ((Upd.refl R w1).setCell (a := ⟨j, 3, none⟩) (.inl Hj.out.rj) _).setCell (a := ⟨j, 4, none⟩) (.inl Hj.out.rj) _
  have hne : j ≠ bb := by
    rintro rfl
    obtain ⟨cc, ff, hk2⟩ := ownsRow_row Hj.out.row j rfl
    rw [Hj.out.obj] at hk2; cases hk2
  have hj2 : JouAt R W2 j d bb c (.slice none 0 0) J.clear := by
    have hok := Hj.out.ok
    refine ⟨?_, ?_, Recs.nil _ _, Hj.out.rj, Hj.out.rb, ⟨hok.whole, hok.pos, hok.big, Nat.zero_le _, Nat.zero_le _, hok.small⟩⟩
    · rw [hW2]; exact heap_setCell_at (j := 4) (heap_setCell_at (j := 3) Hj.out.obj _) _
    · rw [hW2]
      exact ownsRow_other (ownsRow_other Hj.out.row (fun k hk e => by cases hk; exact hne e) _) (fun k hk e => by cases hk; exact hne e) _
  have hd2 : IsDisk Rd1 W2 d (zeroW J.first J.bytes (zeroB J.bytes 0) (J.bytes.length / 32) G) := Hjd.out.disk.agree (hup2.agree fun k hk hr => Hjd.out.out k hr hk)
  have hw2 : Within Rd1 W2 := fun k hk => Nat.lt_of_lt_of_le (Hjd.out.wind k hk) hup2.size
  have Hup2 := Lib.hid hup2
  have Hj2 := Lib.hid hj2
  clear hup2 hj2 hW2
  refine (Sync_calls hd2 hw2 Hcq.out).mono ?_
  rintro e w5 ⟨rfl, Rd5, hd5, hreg5, hwi5⟩
  have Hd5 := Lib.hid hd5
  have Hreg5 := Lib.hid hreg5
  have Hwi5 := Lib.hid hwi5
  clear hd5 hreg5 hwi5 hd2 hw2
  go_wp2_with fail
  go_ret
  have hr5 := Hreg5.out
  have hwin2 : Within R W2 := fun k hk => Nat.lt_of_lt_of_le (Hjd.out.win k hk) Hup2.out.size
  refine ⟨rfl, Rd5, ⟨⟨bb, c, _, Hj2.out.agree (hr5.agree Hjd.out.out)⟩, Hd5.out, hr5.out Hjd.out.out hwin2, hr5.within hwin2, Hwi5.out⟩, ?_⟩
  have m1 : Move R Rd1 w1 R Rd1 W2 := ⟨Hup2.out.sub (fun _ h => .inl h), fun _ h => .inl h, fun _ h => .inl h⟩
  have m2 : Move R Rd1 W2 R Rd5 w5 := ⟨hr5.upd.sub (fun _ h => .inr h), fun _ h => .inl h, hr5.new⟩
  exact (Hmv.out.trans m1).trans m2
end Go.Proofs.Ytenihlicjahjhaa

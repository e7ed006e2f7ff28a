/-
  Scan: all records at the beginning of a row of bytes: the walk.
-/
import Derived.Test.YtenihlicjahjhaaTake
import Derived.Test.YtenihlicjahjhaaRecs
set_option linter.unusedVariables false
set_option linter.unusedSimpArgs false
namespace Go.Proofs.Ytenihlicjahjhaa
open Go Go.RowKit Go.Proofs

/-- a frame of Scan at its label -/
def JScan (v : Value) (l : List UInt8) (w : World) (a : Act) (w' : World) : Prop :=
  ∃ (L : List (List UInt8)) (u : Value) (i : Nat) (u1 : Value) (u6 u7 u8 u9 u10 u11 u12 u13 u14 u15 u16 u17 u18 u19 u20 u21 u22 u23 u24 u25 u26 u27 : Value), Below w.heap.size w w' ∧ Recs (fun k => w.heap.size ≤ k) w' u L ∧ scan l = L ++ scan (l.drop i) ∧ i = used L ∧ i ≤ l.length ∧ L.length ≤ i ∧
    a = { tmps := #[v, u1, .slice none 0 0, .int .i64 0, u, .int .i64 i, u6, u7, u8, u9, u10, u11, u12, u13, u14, u15, u16, u17, u18, u19, u20, u21, u22, u23, u24, u25, u26, u27], defers := [] }

theorem JScan.mk {v : Value} {l : List UInt8} {w w' : World} {L : List (List UInt8)} {u : Value} {i : Nat} {k : Int} (hb : Below w.heap.size w w') (hr : Recs (fun k => w.heap.size ≤ k) w' u L) (hs : scan l = L ++ scan (l.drop i)) (hu : i = used L) (hi : i ≤ l.length) (hL : L.length ≤ i)
    (hk : k = (i : Int)) (u1 u6 u7 u8 u9 u10 u11 u12 u13 u14 u15 u16 u17 u18 u19 u20 u21 u22 u23 u24 u25 u26 u27 : Value) : JScan v l w { tmps := #[v, u1, .slice none 0 0, .int .i64 0, u, .int .i64 k, u6, u7, u8, u9, u10, u11, u12, u13, u14, u15, u16, u17, u18, u19, u20, u21, u22, u23, u24, u25, u26, u27], defers := [] } w' := by
  subst hk
  exact ⟨L, u, i, u1, u6, u7, u8, u9, u10, u11, u12, u13, u14, u15, u16, u17, u18, u19, u20, u21, u22, u23, u24, u25, u26, u27, hb, hr, hs, hu, hi, hL, rfl⟩

set_option maxRecDepth 100000 in
set_option maxHeartbeats 2000000 in
theorem Scan_calls {Q : Nat → Prop} {w : World} {v : Value} {l : List UInt8} (hv : Bts Q w v l) (hl : l.length ≤ 1000000000) :
    Calls Try.prog 95 #[v] w fun e w' => ∃ u, e = .returned (.tuple #[u, .int .i64 (used (scan l) : Nat)]) ∧ Recs (fun k => w.heap.size ≤ k) w' u (scan l) ∧ Below w.heap.size w w' := by
  have H := Lib.hid hv
  clear hv
  obtain ⟨i0, hi, hz0, hz1, hz2⟩ := info_parts infoSl
  go_enter Try.func95, Try.ntmps95
  go_wp2_with fail
  refine wp_scope_loop 0 (JScan v l w) (fun a' _ => l.length - (intOf (a'.tmps.getD 5 undef)).toNat) rfl ?_ ?_
  · rintro a' w1 ⟨L, u, i, u1, u6, u7, u8, u9, u10, u11, u12, u13, u14, u15, u16, u17, u18, u19, u20, u21, u22, u23, u24, u25, u26, u27, hb1, hrec, hsc, hus, hil, hLi, rfl⟩
    have Hrec := Lib.hid hrec
    have Hsc := Lib.hid hsc
    have Hus := Lib.hid hus
    have Hv1 := Lib.hid (H.out.agree (Agree.below hb1))
    clear hrec hsc hus
    go_wp2_with (refine wpList_cut_from (op := ⟨some 12, Op.slice 22 (.tmp 10) (some (.tmp 11)) none none, _, _, _, _⟩) rfl _ _ rfl v l i rfl rfl Hv1.out hil ?_; intro v' hv')
    have Hv' := Lib.hid hv'
    clear hv'
    refine (Take_calls Hv'.out).mono ?_
    rintro e w2 ⟨hb2, ⟨hE, x, rfl, hown⟩ | ⟨hE, rfl⟩⟩
    · obtain ⟨N, hN⟩ : ∃ N, N = recN (l.drop i) := ⟨_, rfl⟩
      rw [← hN] at hown ⊢
      have hzz := recE_zero hE
      rw [← hN, List.length_drop] at hzz
      have hN1 := hzz.2.1
      have hN2 := hzz.2.2.1
      have hxl := takeX_length hE
      rw [← hN] at hxl
      obtain ⟨vs, ho, hR, hbts⟩ := Hrec.out.bel hb2
      obtain ⟨vs1, ho1, _, _⟩ := Hrec.out
      have hblt : ∀ g, u.ownBlock = some g → g < w1.heap.size := fun g hg => (ho1.lt g hg).2
      have hx : Bts (fun k => w.heap.size ≤ k ∧ u.ownBlock ≠ some k) w2 x (takeX (l.drop i)) :=
        Bts.of_row hown _ (fun g hg => ⟨by have := (hown.lt g hg).1; have := hb1.size; omega, fun e => by have := hblt g e; have := (hown.lt g hg).1; omega⟩)
      obtain ⟨ax, nx, cx, rfl⟩ : ∃ a n c, x = .slice a n c := by obtain ⟨a, c, e, _⟩ := hx; exact ⟨_, _, _, e⟩
      have hbw := hb1.trans (hb2.mono hb1.size)
      have hsz := hbw.size
      have HE := Lib.hid hE
      have HN := Lib.hid hN
      have Hx := Lib.hid hx
      have Hxl := Lib.hid hxl
      have Ho := Lib.hid ho
      have Hbts := Lib.hid hbts
      have HR := Lib.hid hR
      clear hE hN hx hxl ho hbts hR hown hzz ho1 hblt
      go_wp2_with (at_builtin; refine wpList_append_own_at _ rfl _ _ 32 rfl 0 22 i0 (.slice none 0 0) 1 24 Try.underlying32 hi hz0 hz1 hz2 rfl (by decide) _ _ _ rfl (Ho.out.alloc _) ⟨w2.heap.size, 0, none⟩ 1 1 [.slice ax nx cx] rfl rfl ?c1 ?c2 ?c3 ?c4 ?c5 ?_)
      case c1 => exact cells_new _ _ _
      case c2 =>
        intro u hu
        simp at hu
        subst hu
        rfl
      case c3 => unfold maxLen; omega
      case c4 => omega
      case c5 => exact Nat.zero_le _
      intro u' w3 hown3 hgr3 _ hloc3
      have hrec3 := recs_snoc (R' := fun k => w.heap.size ≤ k) Ho.out Hbts.out HR.out Hx.out hgr3 hown3 (by rw [World.size_alloc]; exact hloc3) (fun _ h => h) (by simp; omega)
      have hb3 := (hbw.alloc hsz _).grown hgr3 (by simp; omega) (fun r hr => HR.out r hr)
      have Hrec3 := Lib.hid hrec3
      clear hrec3 hown3 hgr3 hloc3
      go_wp2_with fail
      refine wp_goto ⟨rfl, JScan.mk (i := i + (7 + N)) hb3 Hrec3.out ?_ ?_ (by omega) (by simp; omega) (by omega) _ _ _ _ _ _ _ _ _ _ _ _ _ _ _ _ _ _ _ _ _ _ _, ?_⟩
      · rw [Hsc.out, scan_step HE.out, List.drop_drop, ← HN.out]; simp
      · rw [used_append, ← Hus.out]; simp [used, Hxl.out]
      · show l.length - (intOf (.int .i64 _)).toNat < l.length - (intOf (.int .i64 (i : Int))).toNat
        simp only [intOf]; omega
    · obtain ⟨E, hEE⟩ : ∃ E, E = recE (l.drop i) := ⟨_, rfl⟩
      rw [← hEE]
      have z1 : (E == 0) = false := by rw [beq_eq_false_iff_ne, hEE]; exact hE
      have hstop := scan_stop hE
      have Hst := Lib.hid hstop
      have hbw := hb1.trans (hb2.mono hb1.size)
      have Hr2 := Lib.hid (Hrec.out.bel hb2)
      clear hE hEE hstop
      go_wp2_with fail
      simp only [Exit.jump]
      go_ret2
      have e : scan l = L := by rw [Hsc.out, Hst.out, List.append_nil]
      exact ⟨u, by rw [e, ← Hus.out]; rfl, by rw [e]; exact Hr2.out, hbw⟩
  · intro hp
    go_wp2_with fail
    rename_i K hK
    exact wp_label (hK _ _ (hp _ _ (JScan.mk (L := []) (i := 0) (Below.refl _ _) (Recs.nil _ _) (by simp) rfl (Nat.zero_le _) (Nat.le_refl _) rfl _ _ _ _ _ _ _ _ _ _ _ _ _ _ _ _ _ _ _ _ _ _ _)))
end Go.Proofs.Ytenihlicjahjhaa

/-
  Alive5: the live question of layer 5, and the statement JournalNil: the walks.
-/
import Derived.Test.YtenihlicjahjhaaRecords
import Derived.Lib.SlBytesConst
set_option linter.unusedVariables false
set_option linter.unusedSimpArgs false
namespace Go.Proofs.Ytenihlicjahjhaa
open Go Go.RowKit Go.Proofs

/-- a disk of noughts -/
def freshG (n : Nat) : DiskG := ⟨n, fun _ => zero32, fun _ => zero32, []⟩

theorem region_fresh (n first : Nat) : ∀ i, regionB (freshG n) first i = List.replicate (i * 32) 0
  | 0 => rfl
  | i + 1 => by
    rw [regionB, region_fresh n first i]
    show List.replicate (i * 32) 0 ++ List.replicate 32 0 = _
    rw [List.replicate_append_replicate, show i * 32 + 32 = (i + 1) * 32 by omega]

theorem scan_zeros (n : Nat) : scan (List.replicate n 0) = [] := by
  apply scan_stop
  unfold recE
  by_cases h : (List.replicate n (0 : UInt8)).length = 0
  · rw [if_pos h]; decide
  · rw [if_neg h, if_pos]
    · decide
    · have : (List.replicate n (0 : UInt8)).getD 0 0 = 0 := by
        rw [List.getD_eq_getElem?_getD, List.getElem?_replicate]
        split <;> rfl
      rw [this]; decide

theorem zeroF_self (B : List UInt8) : ∀ k, zeroF B B k = false
  | 0 => rfl
  | k + 1 => by rw [zeroF, zeroF_self B k]; simp
theorem zeroW_self (first : Nat) (B : List UInt8) : ∀ (k : Nat) (G : DiskG), zeroW first B B k G = G
  | 0, _ => rfl
  | k + 1, G => by rw [zeroW, if_pos rfl, zeroW_self first B k G]
theorem zeroB_zeros (n : Nat) : zeroB (List.replicate n 0) 0 = List.replicate n 0 := by simp [zeroB]

theorem openJ_fresh (n first size : Nat) : openJ (freshG n) first size = ⟨first, List.replicate (size * 32) 0, 0, []⟩ := by
  unfold openJ
  rw [region_fresh, scan_zeros]
  simp only [used, zeroB_zeros]
theorem openG_fresh (n first size : Nat) : openG (freshG n) first size = freshG n := by
  unfold openG
  dsimp only
  rw [region_fresh, scan_zeros]
  simp only [used, zeroB_zeros, zeroF_self, zeroW_self]
  rfl

set_option maxRecDepth 100000 in
set_option maxHeartbeats 4000000 in
theorem alive5_calls (w : World) :
    Calls Try.prog 23 #[] w fun e w' => e = .returned (.bool true) ∧ Below w.heap.size w w' := by
  have hcv := fun (w : World) (C : Array Value) (n c : Nat) => Lib.run_convert_bytes_const (P := Try.prog) w 22 5 C n c Try.underlying22 Try.underlying5
  go_enter Try.func23, Try.ntmps23
  go_wp2_with fail
  refine (New_calls 4 w (by omega) (by omega)).mono ?_
  rintro e w1 ⟨d, rfl, hd, hb1⟩
  have Hd := Lib.hid hd
  clear hd
  go_wp2_with fail
  have hop := Open_calls (first := 1) (size := 2) Hd.out (fun k hk => hk.2) (by omega) (by decide) (by decide)
  rw [show (⟨4, fun _ => zero32, fun _ => zero32, []⟩ : DiskG) = freshG 4 from rfl, openJ_fresh, openG_fresh] at hop
  refine hop.mono ?_
  rintro e w2 ⟨j, rfl, R, Rd, hjd, hmv⟩
  have Hjd := Lib.hid hjd
  have Hmv := Lib.hid hmv
  clear hop hjd hmv
  go_wp2_with fail
  obtain ⟨W2, hW2⟩ : ∃ W2, W2 = w2.alloc (.cells #[.int .u8 104, .int .u8 105] 5 (2, 3)) := ⟨_, rfl⟩
  have hb2 : Below w2.heap.size w2 W2 := by rw [hW2]; exact (Below.refl _ w2).alloc (Nat.le_refl _) _
  have hbts : Bts (fun k => k = w2.heap.size) W2 (.slice (some ⟨w2.heap.size, 0, none⟩) 2 2) [104, 105] := by
    rw [hW2]
    refine Bts.mk rfl (Nat.le_refl _) (by unfold maxLen; omega) rfl (fun k u hk => ?_)
    rw [Nat.zero_add, cell_row (heap_new w2 _)]
    simpa [Lib.byteCells] using hk
  have hlt2 : w2.heap.size < W2.heap.size := by rw [hW2]; simp
  rw [← hW2]
  have Hjd2 := Lib.hid (Hjd.out.bel hb2)
  have Hbts := Lib.hid hbts
  have q1 : Out (fun k => k = w2.heap.size) R := fun k hk hr => by have := Hjd.out.win k hr; omega
  have q2 : Out (fun k => k = w2.heap.size) Rd := fun k hk hr => by have := Hjd.out.wind k hr; omega
  have q3 : Within (fun k => k = w2.heap.size) W2 := fun k hk => by omega
  have Hq := Lib.hid (And.intro q1 (And.intro q2 q3))
  clear hW2 hbts q1 q2 q3 hcv
  refine (Append_calls Hjd2.out Hbts.out Hq.out.1 Hq.out.2.1 Hq.out.2.2 (by decide) (by decide) (by decide) (by decide) (by decide)).mono ?_
  rintro e w3 ⟨rfl, R3, Rd3, hjd3, hmv3⟩
  have Hjd3 := Lib.hid hjd3
  have Hmv3 := Lib.hid hmv3
  clear hjd3 hmv3
  go_wp2_with fail
  refine (Room_calls Hjd3.out.jou).mono ?_
  rintro e w4 ⟨rfl, hb4⟩
  have e55 : (((JouG.app ⟨1, List.replicate (2 * 32) 0, 0, []⟩ [104, 105]).bytes.length - (JouG.app ⟨1, List.replicate (2 * 32) 0, 0, []⟩ [104, 105]).used : Nat) : Int) = 55 := by
    have h1 : (JouG.app ⟨1, List.replicate (2 * 32) 0, 0, []⟩ [104, 105]).bytes.length = 64 := layB_length _ _ _ (by rw [frame_length]; decide)
    rw [h1]; rfl
  rw [e55]
  clear e55
  go_wp2_with fail
  refine (Records_calls (Hjd3.out.jou.bel hb4) (by intro x hx; have e : x = [104, 105] := (by simpa [JouG.app] using hx); rw [e]; decide)).mono ?_
  rintro e w5 ⟨v, rfl, hrec, hb5⟩
  obtain ⟨vs, hvs, _⟩ := hrec
  obtain ⟨va, vc, rfl⟩ := own_slice hvs
  have e1 : (JouG.app ⟨1, List.replicate (2 * 32) 0, 0, []⟩ [104, 105]).recs.length = 1 := rfl
  rw [e1]
  clear hvs e1
  go_wp2_with fail
  go_ret
  refine ⟨rfl, ?_⟩
  have s1 := hb1.size
  have s2 := Hmv.out.upd.size
  have hu2 : Below w.heap.size w1 w2 := Hmv.out.upd.toBelow (fun k hk => hk.elim (fun e => e.elim) (fun e => e.1)) (by omega)
  have hu3 : Below w.heap.size W2 w3 := Hmv3.out.upd.toBelow (fun k hk => hk.elim (fun e => (Hmv.out.r k e).elim (fun e => e.elim) (fun e => by omega)) (fun e => (Hmv.out.rd k e).elim (fun e => e.1) (fun e => by omega))) (by omega)
  have s3 := hu3.size
  exact ((((hb1.trans hu2).trans (hb2.mono (by omega))).trans hu3).trans (hb4.mono (by omega))).trans (hb5.mono (by have := hb4.size; omega))
end Go.Proofs.Ytenihlicjahjhaa

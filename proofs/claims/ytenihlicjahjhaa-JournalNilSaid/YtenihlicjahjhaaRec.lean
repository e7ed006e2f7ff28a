/-
  Rec: check sums and records: the walks.
-/
import Derived.Test.YtenihlicjahjhaaDiskB
import Derived.Test.YtenihlicjahjhaaRecLaw
import Derived.ScopeJumps
import Derived.WalkMore
import Derived.LoopN
set_option linter.unusedVariables false
set_option linter.unusedSimpArgs false
namespace Go.Proofs.Ytenihlicjahjhaa
open Go Go.RowKit Go.Proofs

/-- a frame of More at its label -/
def JMore (s : Nat) (v : Value) (l : List UInt8) (w : World) (a : Act) (w' : World) : Prop :=
  w' = w ∧ ∃ (i : Nat) (u8 u9 u10 u11 u12 u13 u14 u15 u16 u17 u18 u19 u20 u21 u22 u23 u24 u25 u26 u27 u28 u29 u30 u31 u32 u33 u34 u35 u36 u37 u38 u39 u40 u41 : Value), i ≤ l.length ∧ a = { tmps := #[.int .u32 s, v, undef, undef, .int .u32 0, .int .u32 (fFold (fOpen s) (l.take i)).1, .int .u32 (fFold (fOpen s) (l.take i)).2, .int .i64 i, u8, u9, u10, u11, u12, u13, u14, u15, u16, u17, u18, u19, u20, u21, u22, u23, u24, u25, u26, u27, u28, u29, u30, u31, u32, u33, u34, u35, u36, u37, u38, u39, u40, u41], defers := [] }

theorem Exit.jump_mono {l : Nat} {J J' : Act → World → Prop} {Q : Exit → Act → World → Prop} (h : ∀ a w, J a w → J' a w) : ∀ (e : Exit) (a : Act) (w : World), Exit.jump l J Q e a w → Exit.jump l J' Q e a w := by
  intro e a w he
  cases e <;> simp only [Exit.jump] at he ⊢
  all_goals first | exact he | exact ⟨he.1, h _ _ he.2⟩

/-- a loop made by a label and a jump back to it -/
theorem wp_scope_loop {P : Program} {Q : Exit → Act → World → Prop} {a : Act} {w : World} {c rest : Code} (l : Nat) (J : Act → World → Prop) (μ : Act → World → Nat) (hf : findLabel c l = some (Code.skip.seq rest))
    (pass : ∀ a w, J a w → rest.wp P (Exit.jump l (fun a' w' => J a' w' ∧ μ a' w' < μ a w) Q) a w)
    (first : (∀ a w, J a w → rest.wp P (Exit.jump l J Q) a w) → c.wp P (Exit.jump l J Q) a w) : (Code.scope c).wp P Q a w :=
  wp_scope_jumps l J μ hf (first fun a w h => wp_mono (pass a w h) (Exit.jump_mono fun _ _ h => h.1)) (fun a w h => wp_seq (wp_skip (pass a w h)))

theorem and_ffff (s : Nat) (hs : s < 4294967296) : bits .and .u32 (s : Int) 65535 = ((s % 65536 : Nat) : Int) := by
  have := u32_and_nat s 65535 hs (by omega)
  rw [nat_mask16] at this
  exact this
theorem or_low (a b : Nat) (ha : a < 65536) (hb : b < 65536) : bits .or .u32 ((b : Int) * 65536) (a : Int) = ((b * 65536 + a : Nat) : Int) := by
  have := u32_or_nat (b * 65536) a (by omega) (by omega)
  rw [nat_join 16 (b * 65536) a (by omega) (by omega)] at this
  rw [← this]
  simp

theorem fold_next {s i : Nat} {l : List UInt8} (hlt : i < l.length) {A B x : Nat} (hA : A = (fFold (fOpen s) (l.take i)).1) (hB : B = (fFold (fOpen s) (l.take i)).2) (hx : x = (l[i]'hlt).toNat) :
    fFold (fOpen s) (l.take (i + 1)) = ((A + x) % 65521, (B + (A + x) % 65521) % 65521) := by
  rw [List.take_succ_eq_append_getElem hlt, fFold_snoc, fStep, hA, hB, hx]

theorem JMore.mk {s i : Nat} {v : Value} {l : List UInt8} {w : World} (hi : i ≤ l.length) {p q k : Int} (hp : p = (((fFold (fOpen s) (l.take i)).1 : Nat) : Int)) (hq : q = (((fFold (fOpen s) (l.take i)).2 : Nat) : Int)) (hk : k = (i : Int)) (u8 u9 u10 u11 u12 u13 u14 u15 u16 u17 u18 u19 u20 u21 u22 u23 u24 u25 u26 u27 u28 u29 u30 u31 u32 u33 u34 u35 u36 u37 u38 u39 u40 u41 : Value) :
    JMore s v l w { tmps := #[.int .u32 s, v, undef, undef, .int .u32 0, .int .u32 p, .int .u32 q, .int .i64 k, u8, u9, u10, u11, u12, u13, u14, u15, u16, u17, u18, u19, u20, u21, u22, u23, u24, u25, u26, u27, u28, u29, u30, u31, u32, u33, u34, u35, u36, u37, u38, u39, u40, u41], defers := [] } w := by
  subst hp hq hk
  exact ⟨rfl, i, u8, u9, u10, u11, u12, u13, u14, u15, u16, u17, u18, u19, u20, u21, u22, u23, u24, u25, u26, u27, u28, u29, u30, u31, u32, u33, u34, u35, u36, u37, u38, u39, u40, u41, hi, rfl⟩

theorem JMore.next {s i : Nat} {v : Value} {l : List UInt8} {w : World} (hlt : i < l.length) {A B x : Nat} (hA : A = (fFold (fOpen s) (l.take i)).1) (hB : B = (fFold (fOpen s) (l.take i)).2) (hx : x = (l[i]'hlt).toNat)
    {p q k : Int} (hp : p = (((A + x) % 65521 : Nat) : Int)) (hq : q = (((B + (A + x) % 65521) % 65521 : Nat) : Int)) (hk : k = ((i + 1 : Nat) : Int)) (u8 u9 u10 u11 u12 u13 u14 u15 u16 u17 u18 u19 u20 u21 u22 u23 u24 u25 u26 u27 u28 u29 u30 u31 u32 u33 u34 u35 u36 u37 u38 u39 u40 u41 : Value) :
    JMore s v l w { tmps := #[.int .u32 s, v, undef, undef, .int .u32 0, .int .u32 p, .int .u32 q, .int .i64 k, u8, u9, u10, u11, u12, u13, u14, u15, u16, u17, u18, u19, u20, u21, u22, u23, u24, u25, u26, u27, u28, u29, u30, u31, u32, u33, u34, u35, u36, u37, u38, u39, u40, u41], defers := [] } w :=
  JMore.mk hlt (by rw [fold_next hlt hA hB hx, hp]) (by rw [fold_next hlt hA hB hx, hq]) hk u8 u9 u10 u11 u12 u13 u14 u15 u16 u17 u18 u19 u20 u21 u22 u23 u24 u25 u26 u27 u28 u29 u30 u31 u32 u33 u34 u35 u36 u37 u38 u39 u40 u41

set_option maxRecDepth 100000 in
set_option maxHeartbeats 1000000 in
theorem More_calls {Q : Nat → Prop} {w : World} {v : Value} {l : List UInt8} (s : Nat) (hs : s < 4294967296) (hv : Bts Q w v l) :
    Calls Try.prog 165 #[.int .u32 s, v] w fun e w' => e = .returned (.int .u32 (more s l)) ∧ w' = w := by
  have hlen := hv.len
  unfold maxLen at hlen
  obtain ⟨a, c, rfl, hc1, hc2, hrow⟩ := hv
  have Hrow := Lib.hid hrow
  clear hrow
  go_enter Try.func165, Try.ntmps165
  go_wp2_with fail
  refine wp_scope_loop 0 (JMore s (.slice a l.length c) l w) (fun a' _ => l.length - (intOf (a'.tmps.getD 7 undef)).toNat) rfl ?_ ?_
  · rintro a' w' ⟨rfl, i, u8, u9, u10, u11, u12, u13, u14, u15, u16, u17, u18, u19, u20, u21, u22, u23, u24, u25, u26, u27, u28, u29, u30, u31, u32, u33, u34, u35, u36, u37, u38, u39, u40, u41, hi, rfl⟩
    obtain ⟨A, hA⟩ : ∃ A, A = (fFold (fOpen s) (l.take i)).1 := ⟨_, rfl⟩
    obtain ⟨B, hB⟩ : ∃ B, B = (fFold (fOpen s) (l.take i)).2 := ⟨_, rfl⟩
    have hlt := fFold_lt (l.take i) _ (fOpen_lt s)
    rw [← hA, ← hB] at hlt
    obtain ⟨hA1, hB1⟩ := hlt
    rw [← hA, ← hB]
    have HA := Lib.hid hA
    have HB := Lib.hid hB
    clear hA hB
    by_cases hlt : i < l.length
    · obtain ⟨g, o, rfl, hg, hr⟩ := Hrow.out (by intro e; subst e; simp at hlt)
      have hcell : w'.cell? ⟨g, o + i, none⟩ = some (.int .u8 (l[i]'hlt).toNat) := hr i _ (byteCells_get (List.getElem?_eq_getElem hlt))
      have hb := (l[i]'hlt).toNat_lt
      obtain ⟨x, hx⟩ : ∃ x, x = (l[i]'hlt).toNat := ⟨_, rfl⟩
      rw [← hx] at hcell hb
      have Hx := Lib.hid hx
      clear hx hr
      have d1 : decide (i < l.length) = true := by simpa using hlt
      by_cases hq1 : 65521 ≤ A + x
      · have d2 : decide (65521 ≤ (A : Int) + x) = true := by simp only [decide_eq_true_eq]; omega
        by_cases hq2 : 65521 ≤ B + (A + x - 65521)
        · have d3 : decide (65521 ≤ (B : Int) + ((A : Int) + x - 65521)) = true := by simp only [decide_eq_true_eq]; omega
          go_wp2_with fail
          refine wp_goto ⟨rfl, JMore.next hlt HA.out HB.out Hx.out (by omega) (by omega) (by omega) _ _ _ _ _ _ _ _ _ _ _ _ _ _ _ _ _ _ _ _ _ _ _ _ _ _ _ _ _ _ _ _ _ _, ?_⟩
          show l.length - (intOf (.int .i64 ((i : Int) + 1))).toNat < l.length - (intOf (.int .i64 (i : Int))).toNat
          simp only [intOf]; omega
        · have d3 : decide (65521 ≤ (B : Int) + ((A : Int) + x - 65521)) = false := by simp only [decide_eq_false_iff_not]; omega
          go_wp2_with fail
          refine wp_goto ⟨rfl, JMore.next hlt HA.out HB.out Hx.out (by omega) (by omega) (by omega) _ _ _ _ _ _ _ _ _ _ _ _ _ _ _ _ _ _ _ _ _ _ _ _ _ _ _ _ _ _ _ _ _ _, ?_⟩
          show l.length - (intOf (.int .i64 ((i : Int) + 1))).toNat < l.length - (intOf (.int .i64 (i : Int))).toNat
          simp only [intOf]; omega
      · have d2 : decide (65521 ≤ (A : Int) + x) = false := by simp only [decide_eq_false_iff_not]; omega
        by_cases hq2 : 65521 ≤ B + (A + x)
        · have d3 : decide (65521 ≤ (B : Int) + ((A : Int) + x)) = true := by simp only [decide_eq_true_eq]; omega
          go_wp2_with fail
          refine wp_goto ⟨rfl, JMore.next hlt HA.out HB.out Hx.out (by omega) (by omega) (by omega) _ _ _ _ _ _ _ _ _ _ _ _ _ _ _ _ _ _ _ _ _ _ _ _ _ _ _ _ _ _ _ _ _ _, ?_⟩
          show l.length - (intOf (.int .i64 ((i : Int) + 1))).toNat < l.length - (intOf (.int .i64 (i : Int))).toNat
          simp only [intOf]; omega
        · have d3 : decide (65521 ≤ (B : Int) + ((A : Int) + x)) = false := by simp only [decide_eq_false_iff_not]; omega
          go_wp2_with fail
          refine wp_goto ⟨rfl, JMore.next hlt HA.out HB.out Hx.out (by omega) (by omega) (by omega) _ _ _ _ _ _ _ _ _ _ _ _ _ _ _ _ _ _ _ _ _ _ _ _ _ _ _ _ _ _ _ _ _ _, ?_⟩
          show l.length - (intOf (.int .i64 ((i : Int) + 1))).toNat < l.length - (intOf (.int .i64 (i : Int))).toNat
          simp only [intOf]; omega
    · have hor := or_low A B (by omega) (by omega)
      have d1 : decide (i < l.length) = false := by simpa using hlt
      have hil : i = l.length := by omega
      have Hil := Lib.hid hil
      clear hil
      go_wp2_with fail
      simp only [Exit.jump]
      go_ret
      refine ⟨?_, rfl⟩
      have e : ((more s l : Nat) : Int) = (B : Int) * 65536 + A := by
        have h1 := HA.out
        have h2 := HB.out
        rw [Hil.out, List.take_length] at h1 h2
        rw [more, fShut, ← h1, ← h2]; simp
      rw [e]; rfl
  · intro hp
    have e1 := and_ffff s hs
    go_wp2_with fail
    rename_i K hK
    exact wp_label (hK _ _ (hp _ _ (JMore.mk (i := 0) (Nat.zero_le _) (by simp [fFold, fOpen]) (by simp [fFold, fOpen]) rfl _ _ _ _ _ _ _ _ _ _ _ _ _ _ _ _ _ _ _ _ _ _ _ _ _ _ _ _ _ _ _ _ _ _)))

theorem Sum_calls {Q : Nat → Prop} {w : World} {v : Value} {l : List UInt8} (hv : Bts Q w v l) :
    Calls Try.prog 166 #[v] w fun e w' => e = .returned (.int .u32 (sumOf l)) ∧ w' = w := by
  have H := Lib.hid hv
  clear hv
  go_enter Try.func166, Try.ntmps166
  go_wp2_with fail
  refine (More_calls 1 (by omega) H.out).mono ?_
  rintro e w' ⟨rfl, rfl⟩
  go_wp2_with fail
  go_ret
  exact ⟨rfl, rfl⟩

theorem sum_calls {Q : Nat → Prop} {w : World} {v u : Value} {l m : List UInt8} (hv : Bts Q w v l) (hu : Bts Q w u m) :
    Calls Try.prog 133 #[v, u] w fun e w' => e = .returned (.int .u32 (sumOf (l ++ m))) ∧ w' = w := by
  have H := Lib.hid hv
  have H2 := Lib.hid hu
  have hs := more_more 1 l m
  have Hs := Lib.hid hs
  have hlt := more_lt 1 l
  clear hv hu hs
  go_enter Try.func133, Try.ntmps133
  go_wp2_with fail
  refine (Sum_calls H.out).mono ?_
  rintro e w' ⟨rfl, rfl⟩
  go_wp2_with fail
  refine (More_calls (more 1 l) hlt H2.out).mono ?_
  rintro e w' ⟨rfl, rfl⟩
  go_wp2_with fail
  go_ret
  exact ⟨by rw [Hs.out]; rfl, rfl⟩
end Go.Proofs.Ytenihlicjahjhaa

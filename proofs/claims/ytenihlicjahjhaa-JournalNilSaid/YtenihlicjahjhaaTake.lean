/-
  Take: a record is taken off a row of bytes: the walk.
-/
import Derived.Test.YtenihlicjahjhaaWrap
import Derived.Test.YtenihlicjahjhaaRegL
import Derived.Test.YtenihlicjahjhaaBytes
set_option linter.unusedVariables false
set_option linter.unusedSimpArgs false
namespace Go.Proofs.Ytenihlicjahjhaa
open Go Go.RowKit Go.Proofs

/-- As Q; by a goto to label l: J l. -/
def Exit.jumps (J : Nat → Act → World → Prop) (Q : Exit → Act → World → Prop) : Exit → Act → World → Prop
  | .goto l, a, w => J l a w
  | e, a, w => Q e a w

@[go_sem] theorem Exit.jumps_normal {J : Nat → Act → World → Prop} {Q : Exit → Act → World → Prop} {a : Act} {w : World} : Exit.jumps J Q .normal a w = Q .normal a w := rfl
@[go_sem] theorem Exit.jumps_exit {J : Nat → Act → World → Prop} {Q : Exit → Act → World → Prop} {a : Act} {w : World} (id : Nat) : Exit.jumps J Q (.exit id) a w = Q (.exit id) a w := rfl
@[go_sem] theorem Exit.jumps_ret {J : Nat → Act → World → Prop} {Q : Exit → Act → World → Prop} {a : Act} {w : World} : Exit.jumps J Q .ret a w = Q .ret a w := rfl

/-- a scope in which the run jumps once, ahead -/
theorem wp_scope_ahead {P : Program} {Q : Exit → Act → World → Prop} {a : Act} {w : World} {c : Code} (J : Nat → Act → World → Prop)
    (pass : ∀ l a w, J l a w → ∃ rest, findLabel c l = some rest ∧ rest.wp P (Exit.noGoto Q) a w)
    (first : c.wp P (Exit.jumps J Q) a w) : (Code.scope c).wp P Q a w := by
  intro b k cs
  obtain ⟨e, a₁, w₁, hq, harr⟩ := first b (.inScope c :: k) cs
  cases e with
  | normal => exact ⟨.normal, a₁, w₁, hq, .head step_scope (Steps.trans harr (.one step_inScope))⟩
  | exit id => exact ⟨.exit id, a₁, w₁, hq, fun k' hk => .head step_scope (harr k' (by simp [exitTo, hk]))⟩
  | goto l' =>
    obtain ⟨rest, hf, h2⟩ := pass l' a₁ w₁ hq
    have hg : gotoIn l' (.inScope c :: k) = some (.code rest :: .inScope c :: k) := by simp [gotoIn, hf]
    obtain ⟨e₂, a₂, w₂, hq₂, harr₂⟩ := h2 b (.inScope c :: k) cs
    have hgo : Arrives P (lone (b.at a₁ (.code rest :: .inScope c :: k)) cs w₁) b k cs e₂ a₂ w₂ := by
      cases e₂ with
      | normal => exact Steps.trans harr₂ (.one step_inScope)
      | exit id => exact fun k' hk => harr₂ k' (by simp [exitTo, hk])
      | goto l' => exact hq₂.elim
      | ret => exact harr₂
      | panic ch => exact harr₂
      | outgrown => exact harr₂
    refine ⟨e₂, a₂, w₂, ?_, .of_steps (.head step_scope (harr _ hg)) hgo⟩
    cases e₂ <;> first | exact hq₂ | exact hq₂.elim
  | ret => exact ⟨_, a₁, w₁, hq, .of_steps (.one step_scope) harr⟩
  | panic ch => exact ⟨_, a₁, w₁, hq, .of_steps (.one step_scope) harr⟩
  | outgrown => exact ⟨_, a₁, w₁, hq, .of_steps (.one step_scope) harr⟩

/-- a frame of Take at a jump: the label says why -/
def JTake (l : List UInt8) (w : World) (k : Nat) (a : Act) (w' : World) : Prop :=
  Below w.heap.size w w' ∧ recE l = (if k = 0 then 42 else 41) ∧ (k = 0 ∨ k = 1) ∧ ∃ (u0 u1 u2 u3 u4 u5 u6 u7 u8 u9 u10 u11 u12 u13 u14 u15 u16 u17 u18 u19 u20 u21 u22 u23 u24 u25 u26 u27 u28 u29 u30 u31 u32 u33 u34 u35 u36 u37 u38 u39 u40 u41 u42 u43 u44 u45 u46 u47 u48 u49 u50 u51 u52 u53 u54 u55 u56 u57 u58 u59 u60 u61 u62 u63 u64 u65 u66 : Value), a = { tmps := #[u0, u1, u2, u3, u4, u5, u6, u7, u8, u9, u10, u11, u12, u13, u14, u15, u16, u17, u18, u19, u20, u21, u22, u23, u24, u25, u26, u27, u28, u29, u30, u31, u32, u33, u34, u35, u36, u37, u38, u39, u40, u41, u42, u43, u44, u45, u46, u47, u48, u49, u50, u51, u52, u53, u54, u55, u56, u57, u58, u59, u60, u61, u62, u63, u64, u65, u66], defers := [] }

theorem JTake.mk {l : List UInt8} {w w' : World} (k : Nat) (hb : Below w.heap.size w w') (he : recE l = (if k = 0 then 42 else 41)) (hk : k = 0 ∨ k = 1) (u0 u1 u2 u3 u4 u5 u6 u7 u8 u9 u10 u11 u12 u13 u14 u15 u16 u17 u18 u19 u20 u21 u22 u23 u24 u25 u26 u27 u28 u29 u30 u31 u32 u33 u34 u35 u36 u37 u38 u39 u40 u41 u42 u43 u44 u45 u46 u47 u48 u49 u50 u51 u52 u53 u54 u55 u56 u57 u58 u59 u60 u61 u62 u63 u64 u65 u66 : Value) : JTake l w k { tmps := #[u0, u1, u2, u3, u4, u5, u6, u7, u8, u9, u10, u11, u12, u13, u14, u15, u16, u17, u18, u19, u20, u21, u22, u23, u24, u25, u26, u27, u28, u29, u30, u31, u32, u33, u34, u35, u36, u37, u38, u39, u40, u41, u42, u43, u44, u45, u46, u47, u48, u49, u50, u51, u52, u53, u54, u55, u56, u57, u58, u59, u60, u61, u62, u63, u64, u65, u66], defers := [] } w' :=
  ⟨hb, he, hk, u0, u1, u2, u3, u4, u5, u6, u7, u8, u9, u10, u11, u12, u13, u14, u15, u16, u17, u18, u19, u20, u21, u22, u23, u24, u25, u26, u27, u28, u29, u30, u31, u32, u33, u34, u35, u36, u37, u38, u39, u40, u41, u42, u43, u44, u45, u46, u47, u48, u49, u50, u51, u52, u53, u54, u55, u56, u57, u58, u59, u60, u61, u62, u63, u64, u65, u66, rfl⟩

theorem own_base {w : World} {b b' e size : Nat} {v : Value} {n : Nat} {xs : List Value} (h : w.ownsRow b e size v n xs) (hb : b' ≤ b) : w.ownsRow b' e size v n xs := by
  obtain ⟨h1, h2⟩ := h
  refine ⟨h1, h2.imp id ?_⟩
  rintro ⟨g, cap, cur, hv, hg, r⟩
  exact ⟨g, cap, cur, hv, Nat.le_trans hb hg, r⟩

/-- what Take answers -/
def TakeP (l : List UInt8) (w : World) (e : Ending) (w' : World) : Prop :=
  Below w.heap.size w w' ∧ ((recE l = 0 ∧ ∃ u, e = .returned (.tuple #[u, .int .i64 (7 + recN l : Nat), .int .i64 0]) ∧ w'.ownsRow w.heap.size 5 1 u (recN l) (Lib.byteCells (takeX l))) ∨
    (recE l ≠ 0 ∧ e = .returned (.tuple #[.slice none 0 0, .int .i64 0, .int .i64 (recE l)])))

theorem recE_0 {l : List UInt8} (h : l.length = 0) : recE l = 42 := by rw [recE, if_pos h]
theorem recE_1 {l : List UInt8} (h : ¬ l.length = 0) (h1 : l.getD 0 0 ≠ 0xA7) : recE l = 41 := by rw [recE, if_neg h, if_pos h1]
theorem recE_2 {l : List UInt8} (h : ¬ l.length = 0) (h1 : ¬ l.getD 0 0 ≠ 0xA7) (h2 : l.length < 3) : recE l = 42 := by rw [recE, if_neg h, if_neg h1, if_pos h2]
theorem recE_3 {l : List UInt8} (h : ¬ l.length = 0) (h1 : ¬ l.getD 0 0 ≠ 0xA7) (h2 : ¬ l.length < 3) (h3 : 4096 < recN l) : recE l = 41 := by rw [recE, if_neg h, if_neg h1, if_neg h2, if_pos h3]
theorem recE_4 {l : List UInt8} (h : ¬ l.length = 0) (h1 : ¬ l.getD 0 0 ≠ 0xA7) (h2 : ¬ l.length < 3) (h3 : ¬ 4096 < recN l) (h4 : l.length < 7 + recN l) : recE l = 42 := by rw [recE, if_neg h, if_neg h1, if_neg h2, if_neg h3, if_pos h4]
theorem recE_5 {l : List UInt8} (h : ¬ l.length = 0) (h1 : ¬ l.getD 0 0 ≠ 0xA7) (h2 : ¬ l.length < 3) (h3 : ¬ 4096 < recN l) (h4 : ¬ l.length < 7 + recN l) (h5 : ¬ sumAt l = sumOf (l.take 3 ++ (l.drop 7).take (recN l))) : recE l = 41 := by
  rw [recE, if_neg h, if_neg h1, if_neg h2, if_neg h3, if_neg h4, if_neg h5]
theorem recE_6 {l : List UInt8} (h : ¬ l.length = 0) (h1 : ¬ l.getD 0 0 ≠ 0xA7) (h2 : ¬ l.length < 3) (h3 : ¬ 4096 < recN l) (h4 : ¬ l.length < 7 + recN l) (h5 : sumAt l = sumOf (l.take 3 ++ (l.drop 7).take (recN l))) : recE l = 0 := by
  rw [recE, if_neg h, if_neg h1, if_neg h2, if_neg h3, if_neg h4, if_pos h5]

theorem cell_getD {w : World} {g o : Nat} {l : List UInt8} (hr : w.rangeAt g o (Lib.byteCells l)) (k : Nat) (hk : k < l.length) : w.cell? ⟨g, o + k, none⟩ = some (.int .u8 ((l.getD k 0).toNat : Nat)) := by
  refine hr k _ (byteCells_get ?_)
  rw [List.getD_eq_getElem?_getD, List.getElem?_eq_getElem hk]; rfl

theorem or_hi (a b i K : Nat) (hK : K = 2 ^ i) (ha : a < K) (hb : b * K < 4294967296) (ha2 : a < 4294967296) : bits .or .u32 (a : Int) ((b : Int) * (K : Int)) = ((a + b * K : Nat) : Int) := by
  have := u32_or_nat a (b * K) ha2 hb
  rw [Nat.or_comm, nat_join i (b * K) a (by rw [hK]; exact Nat.mul_mod_left _ _) (by rw [← hK]; exact ha), Nat.add_comm] at this
  rw [← this]
  simp

def partSum (y3 y4 y5 y6 : Nat) : Nat → Nat
  | 0 => 0
  | 1 => y3
  | 2 => y3 + y4 * 256
  | 3 => y3 + y4 * 256 + y5 * 65536
  | _ => y3 + y4 * 256 + y5 * 65536 + y6 * 16777216

set_option maxRecDepth 100000 in
set_option maxHeartbeats 2000000 in
theorem Take_calls {Q : Nat → Prop} {w : World} {v : Value} {l : List UInt8} (hv : Bts Q w v l) :
    Calls Try.prog 131 #[v] w (TakeP l w) := by
  have H := Lib.hid hv
  have hlen := hv.len
  unfold maxLen at hlen
  obtain ⟨a, c, rfl, hc1, hc2, hrow⟩ := hv
  have Hrow := Lib.hid hrow
  clear hrow
  go_enter Try.func131, Try.ntmps131
  go_wp2_with fail
  refine wp_scope_ahead (JTake l w) ?_ ?_
  · rintro k a' w' ⟨hb, he, hk, u0, u1, u2, u3, u4, u5, u6, u7, u8, u9, u10, u11, u12, u13, u14, u15, u16, u17, u18, u19, u20, u21, u22, u23, u24, u25, u26, u27, u28, u29, u30, u31, u32, u33, u34, u35, u36, u37, u38, u39, u40, u41, u42, u43, u44, u45, u46, u47, u48, u49, u50, u51, u52, u53, u54, u55, u56, u57, u58, u59, u60, u61, u62, u63, u64, u65, u66, rfl⟩
    have He := Lib.hid he
    clear he
    rcases hk with rfl | rfl
    · refine ⟨_, rfl, ?_⟩
      go_wp2_with fail
      go_ret3
      have h : recE l = 42 := by simpa using He.out
      exact ⟨hb, .inr ⟨by rw [h]; decide, by rw [h]; rfl⟩⟩
    · refine ⟨_, rfl, ?_⟩
      go_wp2_with fail
      go_ret3
      have h : recE l = 41 := by simpa using He.out
      exact ⟨hb, .inr ⟨by rw [h]; decide, by rw [h]; rfl⟩⟩
  · by_cases hz : l.length = 0
    · have he := recE_0 hz
      have He := Lib.hid he
      clear he Hrow
      rw [hz]
      go_wp2_with fail
      exact wp_goto (JTake.mk 0 (Below.refl _ _) He.out (.inl rfl) _ _ _ _ _ _ _ _ _ _ _ _ _ _ _ _ _ _ _ _ _ _ _ _ _ _ _ _ _ _ _ _ _ _ _ _ _ _ _ _ _ _ _ _ _ _ _ _ _ _ _ _ _ _ _ _ _ _ _ _ _ _ _ _ _ _ _)
    · obtain ⟨g, o, rfl, hg, hr⟩ := Hrow.out (by intro e; subst e; simp at hz)
      have Hz := Lib.hid hz
      have z0 : ((l.length : Int) == 0) = false := by rw [beq_eq_false_iff_ne]; omega
      have k0 : (0 : Int) < l.length := by omega
      have c0 := cell_getD hr 0 (by omega)
      rw [Nat.add_zero] at c0
      have q0 := (l.getD 0 0).toNat_lt
      obtain ⟨x0, hx0⟩ : ∃ x0, x0 = (l.getD 0 0).toNat := ⟨_, rfl⟩
      rw [← hx0] at c0 q0
      by_cases h1 : l.getD 0 0 ≠ 0xA7
      · have he := recE_1 hz h1
        have He := Lib.hid he
        have z1 : ((x0 : Int) != 167) = true := by
          rw [bne_iff_ne]
          intro e
          exact h1 (UInt8.toNat_inj.1 (by rw [← hx0]; show x0 = 167; omega))
        clear he hx0 hr hz h1
        go_wp2_with fail
        exact wp_goto (JTake.mk 1 (Below.refl _ _) He.out (.inr rfl) _ _ _ _ _ _ _ _ _ _ _ _ _ _ _ _ _ _ _ _ _ _ _ _ _ _ _ _ _ _ _ _ _ _ _ _ _ _ _ _ _ _ _ _ _ _ _ _ _ _ _ _ _ _ _ _ _ _ _ _ _ _ _ _ _ _ _)
      · have H1 := Lib.hid h1
        have z1 : ((x0 : Int) != 167) = false := by
          have : l.getD 0 0 = 0xA7 := Classical.byContradiction h1
          have e : x0 = 167 := by rw [hx0, this]; rfl
          rw [e]; rfl
        by_cases h2 : l.length < 3
        · have he := recE_2 hz h1 h2
          have He := Lib.hid he
          have z2 : decide ((l.length : Int) < 3) = true := by simp only [decide_eq_true_eq]; omega
          clear he hx0 hr hz h1
          go_wp2_with fail
          exact wp_goto (JTake.mk 0 (Below.refl _ _) He.out (.inl rfl) _ _ _ _ _ _ _ _ _ _ _ _ _ _ _ _ _ _ _ _ _ _ _ _ _ _ _ _ _ _ _ _ _ _ _ _ _ _ _ _ _ _ _ _ _ _ _ _ _ _ _ _ _ _ _ _ _ _ _ _ _ _ _ _ _ _ _)
        · have z2 : decide ((l.length : Int) < 3) = false := by simp only [decide_eq_false_iff_not]; omega
          have c1 := cell_getD hr 1 (by omega)
          have c2 := cell_getD hr 2 (by omega)
          have q1 := (l.getD 1 0).toNat_lt
          have q2 := (l.getD 2 0).toNat_lt
          have hN : (recN l : Int) = ((l.getD 1 0).toNat : Int) + ((l.getD 2 0).toNat : Int) * 256 + 1 := by unfold recN; omega
          obtain ⟨N, hNN⟩ : ∃ N, N = recN l := ⟨_, rfl⟩
          rw [← hNN] at hN
          obtain ⟨x1, hx1⟩ : ∃ x1, x1 = (l.getD 1 0).toNat := ⟨_, rfl⟩
          obtain ⟨x2, hx2⟩ : ∃ x2, x2 = (l.getD 2 0).toNat := ⟨_, rfl⟩
          rw [← hx1] at c1 q1 hN
          rw [← hx2] at c2 q2 hN
          have H2 := Lib.hid h2
          have HN := Lib.hid hN
          have HNN := Lib.hid hNN
          have Hr := Lib.hid hr
          have k1 : (1 : Int) < l.length := by omega
          have k2 : (2 : Int) < l.length := by omega
          have k3 : (3 : Int) ≤ l.length := by omega
          have hw1 : IntKind.i64.wrap (x1 : Int) = x1 := by rw [IntKind.wrap_i64] <;> omega
          have hw2 : IntKind.i64.wrap (x2 : Int) = x2 := by rw [IntKind.wrap_i64] <;> omega
          have hw3 : IntKind.i64.wrap ((x2 : Int) * 256) = (x2 : Int) * 256 := by rw [IntKind.wrap_i64] <;> omega
          have hw4 : IntKind.i64.wrap ((x1 : Int) + (x2 : Int) * 256) = (x1 : Int) + (x2 : Int) * 256 := by rw [IntKind.wrap_i64] <;> omega
          have hw5 : IntKind.i64.wrap ((x1 : Int) + (x2 : Int) * 256 + 1) = N := by rw [IntKind.wrap_i64] <;> omega
          have hNb : N ≤ 65536 := by omega
          have hN1 : 1 ≤ N := by omega
          clear hx0 hx1 hx2 hr hz h1 h2 hN hNN
          go_wp2_with fail
          refine lOpen [(2, (fun W => W.heap = (w).heap)), (6, (fun W => W.heap = (w).heap))] [] [2, 6] (by kernel_rfl) ?_
          refine lP (i := 0) (v := ?_) rfl (by kernel_rfl) (fun _ _ _ h => h) rfl ?_ ?_
          rotate_left
          · intro W; go_simp; try with_reducible rfl
          try simp only [put_lit, put_none, List.set_cons_succ, List.set_cons_zero]
          refine lP (i := 1) (v := ?_) rfl (by kernel_rfl) (fun _ _ _ h => h) rfl ?_ ?_
          rotate_left
          · intro W; go_simp; try with_reducible rfl
          try simp only [put_lit, put_none, List.set_cons_succ, List.set_cons_zero]
          refine lP (i := 4) (v := ?_) rfl (by kernel_rfl) (fun _ _ _ h => h) rfl ?_ ?_
          rotate_left
          · intro W; go_simp; try with_reducible rfl
          try simp only [put_lit, put_none, List.set_cons_succ, List.set_cons_zero]
          refine lP (i := 5) (v := ?_) rfl (by kernel_rfl) (fun _ _ _ h => h) rfl ?_ ?_
          rotate_left
          · intro W; go_simp; try with_reducible rfl
          try simp only [put_lit, put_none, List.set_cons_succ, List.set_cons_zero]
          refine lR (i := 2) (v := ?_) rfl (by kernel_rfl) (fun _ _ _ h => h) rfl ?_ ?_
          rotate_left
          · intro W hS; have hc := cell_of_same (show W.heap = (w).heap from hS); clear hS; go_simp; try with_reducible rfl
          try simp only [put_lit, put_none, List.set_cons_succ, List.set_cons_zero]
          refine lP (i := 3) (v := ?_) rfl (by kernel_rfl) (fun _ _ _ h => h) rfl ?_ ?_
          rotate_left
          · intro W; go_simp; try with_reducible rfl
          try simp only [put_lit, put_none, List.set_cons_succ, List.set_cons_zero]
          refine lR (i := 6) (v := ?_) rfl (by kernel_rfl) (fun _ _ _ h => h) rfl ?_ ?_
          rotate_left
          · intro W hS; have hc := cell_of_same (show W.heap = (w).heap from hS); clear hS; go_simp; try with_reducible rfl
          try simp only [put_lit, put_none, List.set_cons_succ, List.set_cons_zero]
          refine lP (i := 7) (v := ?_) rfl (by kernel_rfl) (fun _ _ _ h => h) rfl ?_ ?_
          rotate_left
          · intro W; go_simp; try with_reducible rfl
          try simp only [put_lit, put_none, List.set_cons_succ, List.set_cons_zero]
          refine lP (i := 8) (v := ?_) rfl (by kernel_rfl) (fun _ _ _ h => h) rfl ?_ ?_
          rotate_left
          · intro W; go_simp; try with_reducible rfl
          try simp only [put_lit, put_none, List.set_cons_succ, List.set_cons_zero]
          refine lP (i := 9) (v := ?_) rfl (by kernel_rfl) (fun _ _ _ h => h) rfl ?_ ?_
          rotate_left
          · intro W; go_simp; try with_reducible rfl
          try simp only [put_lit, put_none, List.set_cons_succ, List.set_cons_zero]
          refine lP (i := 10) (v := ?_) rfl (by kernel_rfl) (fun _ _ _ h => h) rfl ?_ ?_
          rotate_left
          · intro W; go_simp; try with_reducible rfl
          try simp only [put_lit, put_none, List.set_cons_succ, List.set_cons_zero]
          refine lP (i := 11) (v := ?_) rfl (by kernel_rfl) (fun _ _ _ h => h) rfl ?_ ?_
          rotate_left
          · intro W; go_simp; try with_reducible rfl
          try simp only [put_lit, put_none, List.set_cons_succ, List.set_cons_zero]
          refine lDone (by kernel_rfl) (by exact ⟨rfl, rfl, trivial⟩) ?_ _
          clear hw1 hw2 hw3 hw4 hw5
          obtain ⟨W, hW⟩ : ∃ W, W = w.drew := ⟨_, rfl⟩
          have hbW : Below w.heap.size w W := by rw [hW]; exact (Below.refl _ w).drew
          rw [← hW]
          clear hW
          by_cases h3 : 4096 < N
          · have he := recE_3 Hz.out H1.out H2.out (by rw [← HNN.out]; exact h3)
            have He := Lib.hid he
            have z3 : decide (4096 < (N : Int)) = true := by simp only [decide_eq_true_eq]; omega
            clear he
            go_wp2_with fail
            exact wp_goto (JTake.mk 1 hbW He.out (.inr rfl) _ _ _ _ _ _ _ _ _ _ _ _ _ _ _ _ _ _ _ _ _ _ _ _ _ _ _ _ _ _ _ _ _ _ _ _ _ _ _ _ _ _ _ _ _ _ _ _ _ _ _ _ _ _ _ _ _ _ _ _ _ _ _ _ _ _ _)
          · have z3 : decide (4096 < (N : Int)) = false := by simp only [decide_eq_false_iff_not]; omega
            by_cases h4 : l.length < 7 + N
            · have he := recE_4 Hz.out H1.out H2.out (by rw [← HNN.out]; exact h3) (by rw [← HNN.out]; exact h4)
              have He := Lib.hid he
              have z4 : decide ((l.length : Int) - 7 < N) = true := by simp only [decide_eq_true_eq]; omega
              clear he
              go_wp2_with fail
              exact wp_goto (JTake.mk 0 hbW He.out (.inl rfl) _ _ _ _ _ _ _ _ _ _ _ _ _ _ _ _ _ _ _ _ _ _ _ _ _ _ _ _ _ _ _ _ _ _ _ _ _ _ _ _ _ _ _ _ _ _ _ _ _ _ _ _ _ _ _ _ _ _ _ _ _ _ _ _ _ _ _)
            · have z4 : decide ((l.length : Int) - 7 < N) = false := by simp only [decide_eq_false_iff_not]; omega
              have h3' : N ≤ 4096 := by omega
              have h4' : 7 + N ≤ l.length := by omega
              have HX := Lib.hid (And.intro h3 h4)
              clear h3 h4
              go_wp2_with fail
              have hrW : W.rangeAt g o (Lib.byteCells l) := fun j u hj => (hbW.cell (p := ⟨g, o + j, none⟩) (World.block_lt_of_cell? w _ (Hr.out j u hj))).trans (Hr.out j u hj)
              have e3 := cell_getD hrW 3 (by omega)
              have e4 := cell_getD hrW 4 (by omega)
              have e5 := cell_getD hrW 5 (by omega)
              have e6 := cell_getD hrW 6 (by omega)
              have q3 := (l.getD 3 0).toNat_lt
              have q4 := (l.getD 4 0).toNat_lt
              have q5 := (l.getD 5 0).toNat_lt
              have q6 := (l.getD 6 0).toNat_lt
              have hSS : sumAt l = partSum (l.getD 3 0).toNat (l.getD 4 0).toNat (l.getD 5 0).toNat (l.getD 6 0).toNat 4 := by simp only [sumAt, partSum]; omega
              obtain ⟨y3, hy3⟩ : ∃ y3, y3 = (l.getD 3 0).toNat := ⟨_, rfl⟩
              obtain ⟨y4, hy4⟩ : ∃ y4, y4 = (l.getD 4 0).toNat := ⟨_, rfl⟩
              obtain ⟨y5, hy5⟩ : ∃ y5, y5 = (l.getD 5 0).toNat := ⟨_, rfl⟩
              obtain ⟨y6, hy6⟩ : ∃ y6, y6 = (l.getD 6 0).toNat := ⟨_, rfl⟩
              rw [← hy3] at e3 q3 hSS
              rw [← hy4] at e4 q4 hSS
              rw [← hy5] at e5 q5 hSS
              rw [← hy6] at e6 q6 hSS
              have HSS := Lib.hid hSS
              have HrW := Lib.hid hrW
              clear hy3 hy4 hy5 hy6 hSS hrW
              have k7 : (6 : Int) < l.length := by omega
              have o0 : bits .or .u32 ((partSum y3 y4 y5 y6 0 : Nat) : Int) (y3 : Int) = ((partSum y3 y4 y5 y6 1 : Nat) : Int) := by
                have := u32_or_nat 0 y3 (by omega) (by omega)
                rw [Nat.zero_or] at this; exact this
              have o1 : bits .or .u32 ((partSum y3 y4 y5 y6 1 : Nat) : Int) ((y4 : Int) * 256) = ((partSum y3 y4 y5 y6 2 : Nat) : Int) := or_hi y3 y4 8 256 (by decide) (by omega) (by omega) (by omega)
              have o2 : bits .or .u32 ((partSum y3 y4 y5 y6 2 : Nat) : Int) ((y5 : Int) * 65536) = ((partSum y3 y4 y5 y6 3 : Nat) : Int) := or_hi (y3 + y4 * 256) y5 16 65536 (by decide) (by omega) (by omega) (by omega)
              have o3 : bits .or .u32 ((partSum y3 y4 y5 y6 3 : Nat) : Int) ((y6 : Int) * 16777216) = ((partSum y3 y4 y5 y6 4 : Nat) : Int) := or_hi (y3 + y4 * 256 + y5 * 65536) y6 24 16777216 (by decide) (by omega) (by omega) (by omega)
              go_loopg [6, 36] 4 (fun k v q wr => ∃ i : Nat, i ≤ 4 ∧ q = .int .i64 i ∧ v = .int .u32 (partSum y3 y4 y5 y6 i : Nat) ∧ wr = W ∧ k = 4 - i)
              case atStart => exact ⟨0, Nat.zero_le _, rfl, rfl, rfl, rfl⟩
              case round =>
                obtain ⟨i, hi4, rfl, rfl, rfl, hk⟩ := hrel
                have Hk := Lib.hid hk
                clear hk
                by_cases h44 : i = 4
                · subst h44
                  have hw7 : IntKind.i64.wrap (7 + (N : Int)) = 7 + N := by rw [IntKind.wrap_i64] <;> omega
                  have m1 : 3 ≤ c := by omega
                  have m2 : (7 : Int) + N ≤ c := by omega
                  have m3 : 7 + N ≤ c := by omega
                  have m4 : ¬ (c = 7) := by omega
                  have m5 : (3 : Int) ≤ c := by omega
                  have m6 : (0 : Int) ≤ 7 + N := by omega
                  have m7 : (7 : Int) ≤ 7 + N := by omega
                  have m8 : max (7 + (N : Int)) 0 = 7 + N := by omega
                  have m9 : (7 + (N : Int)).toNat = 7 + N := by omega
                  have hv3 : Bts (fun _ => True) wr.drew (.slice (some ⟨g, o, none⟩) 3 c) (l.take 3) := Bts.mk (by rw [List.length_take]; omega) m1 hc2 trivial (by have := range_part HrW.out 0 3; rw [Nat.add_zero, List.drop_zero] at this; exact this)
                  have hvN : Bts (fun _ => True) wr.drew (.slice (some ⟨g, o + 7, none⟩) N (c - 7)) ((l.drop 7).take N) := Bts.mk (by rw [List.length_take, List.length_drop]; omega) (by omega) (by omega) trivial (range_part HrW.out 7 N)
                  obtain ⟨M, hM⟩ : ∃ M, M = sumOf (l.take 3 ++ (l.drop 7).take N) := ⟨_, rfl⟩
                  obtain ⟨B, hcmp⟩ : ∃ B, ((((partSum y3 y4 y5 y6 4 : Nat) : Int)) != (M : Int)) = B := ⟨_, rfl⟩
                  have HB : Hid (B = true ↔ partSum y3 y4 y5 y6 4 ≠ M) := by
                    rw [← hcmp, bne_iff_ne]
                    exact ⟨fun h e => h (by rw [e]), fun h e => h (by omega)⟩
                  have Hsum := (sum_calls hv3 hvN)
                  rw [← hM] at Hsum
                  have HM := Lib.hid hM
                  have HSum := Lib.hid Hsum
                  have Hv3 := Lib.hid hv3
                  clear hM Hsum
                  have HvN := Lib.hid hvN
                  clear hv3 hvN
                  go_wp2_with fail
                  refine lOpen [] [(7, [])] [] (by kernel_rfl) ?_
                  refine lP (i := 0) (v := ?_) rfl (by kernel_rfl) (fun _ _ _ h => h) rfl ?_ ?_
                  rotate_left
                  · intro W; go_simp; try with_reducible rfl
                  try simp only [put_lit, put_none, List.set_cons_succ, List.set_cons_zero]
                  refine lP (i := 1) (v := ?_) rfl (by kernel_rfl) (fun _ _ _ h => h) rfl ?_ ?_
                  rotate_left
                  · intro W; go_simp; try with_reducible rfl
                  try simp only [put_lit, put_none, List.set_cons_succ, List.set_cons_zero]
                  refine lP (i := 2) (v := ?_) rfl (by kernel_rfl) (fun _ _ _ h => h) rfl ?_ ?_
                  rotate_left
                  · intro W; go_simp; try with_reducible rfl
                  try simp only [put_lit, put_none, List.set_cons_succ, List.set_cons_zero]
                  refine lP (i := 3) (v := ?_) rfl (by kernel_rfl) (fun _ _ _ h => h) rfl ?_ ?_
                  rotate_left
                  · intro W; go_simp; try with_reducible rfl
                  try simp only [put_lit, put_none, List.set_cons_succ, List.set_cons_zero]
                  refine lP (i := 4) (v := ?_) rfl (by kernel_rfl) (fun _ _ _ h => h) rfl ?_ ?_
                  rotate_left
                  · intro W; go_simp; try with_reducible rfl
                  try simp only [put_lit, put_none, List.set_cons_succ, List.set_cons_zero]
                  refine lP (i := 5) (v := ?_) rfl (by kernel_rfl) (fun _ _ _ h => h) rfl ?_ ?_
                  rotate_left
                  · intro W; go_simp; try with_reducible rfl
                  try simp only [put_lit, put_none, List.set_cons_succ, List.set_cons_zero]
                  refine lP (i := 6) (v := ?_) rfl (by kernel_rfl) (fun _ _ _ h => h) rfl ?_ ?_
                  rotate_left
                  · intro W; go_simp; try with_reducible rfl
                  try simp only [put_lit, put_none, List.set_cons_succ, List.set_cons_zero]
                  refine lE (i := 7) (live' := []) rfl (by kernel_rfl) (by kernel_rfl) trivial (fun K hK => ?_)
                  go_simp
                  refine HSum.out.mono ?_
                  rintro e V ⟨rfl, rfl⟩
                  refine hK _ _ ?_
                  clear hK K
                  try simp only [put_lit, put_none, List.set_cons_succ, List.set_cons_zero]
                  refine lP (i := 8) (v := ?_) rfl (by kernel_rfl) (fun _ _ _ h => h) rfl ?_ ?_
                  rotate_left
                  · intro W; go_simp; try with_reducible rfl
                  try simp only [put_lit, put_none, List.set_cons_succ, List.set_cons_zero]
                  refine lDone (by kernel_rfl) (by exact trivial) ?_ _
                  clear hcmp
                  obtain ⟨W2, hW2⟩ : ∃ W2, W2 = wr.drew := ⟨_, rfl⟩
                  have hbW2 : Below w.heap.size w W2 := by rw [hW2]; exact hbW.drew
                  have Hv2 : Hid (Bts (fun _ => True) W2 (.slice (some ⟨g, o + 7, none⟩) N (c - 7)) ((l.drop 7).take N)) := by rw [hW2]; exact HvN.out
                  rw [← hW2]
                  clear hW2
                  cases B with
                  | true =>
                    have he := recE_5 Hz.out H1.out H2.out (by rw [← HNN.out]; exact HX.out.1) (by rw [← HNN.out]; exact HX.out.2) (by rw [HSS.out, ← HNN.out, ← HM.out]; exact HB.out.1 rfl)
                    have He := Lib.hid he
                    clear he
                    go_wp2_with fail
                    exact wp_goto (JTake.mk 1 hbW2 He.out (.inr rfl) _ _ _ _ _ _ _ _ _ _ _ _ _ _ _ _ _ _ _ _ _ _ _ _ _ _ _ _ _ _ _ _ _ _ _ _ _ _ _ _ _ _ _ _ _ _ _ _ _ _ _ _ _ _ _ _ _ _ _ _ _ _ _ _ _ _ _)
                  | false =>
                    have he := recE_6 Hz.out H1.out H2.out (by rw [← HNN.out]; exact HX.out.1) (by rw [← HNN.out]; exact HX.out.2) (by
                      rw [HSS.out, ← HNN.out, ← HM.out]
                      exact Classical.byContradiction fun h => by have := HB.out.2 h; cases this)
                    have He := Lib.hid he
                    clear he
                    go_wp2_with fail
                    refine (Clone_calls Hv2.out (by rw [List.length_take]; omega)).mono ?_
                    rintro e w3 ⟨u, rfl, ho3, hb3⟩
                    have Ho3 := Lib.hid ho3
                    clear ho3
                    go_wp2_with fail
                    simp only [Exit.jumps]
                    go_ret3
                    have hl7 : ((l.drop 7).take N).length = N := by rw [List.length_take, List.length_drop]; omega
                    have ho := Ho3.out
                    rw [hl7] at ho
                    refine ⟨hbW2.trans (hb3.mono hbW2.size), .inl ⟨He.out, u, by rw [← HNN.out]; rfl, ?_⟩⟩
                    rw [← HNN.out, takeX, ← HNN.out]
                    exact own_base ho hbW2.size
                · have hcase : i = 0 ∨ i = 1 ∨ i = 2 ∨ i = 3 := by omega
                  clear h44
                  rcases hcase with rfl | rfl | rfl | rfl
                  · go_wp2_with fail
                    go_roundg (4 - 1)
                    case measure => have := Hk.out; omega
                    case rel => exact ⟨1, by omega, rfl, rfl, rfl, rfl⟩
                  · go_wp2_with fail
                    go_roundg (4 - 2)
                    case measure => have := Hk.out; omega
                    case rel => exact ⟨2, by omega, rfl, rfl, rfl, rfl⟩
                  · go_wp2_with fail
                    go_roundg (4 - 3)
                    case measure => have := Hk.out; omega
                    case rel => exact ⟨3, by omega, rfl, rfl, rfl, rfl⟩
                  · go_wp2_with fail
                    go_roundg (4 - 4)
                    case measure => have := Hk.out; omega
                    case rel => exact ⟨4, by omega, rfl, rfl, rfl, rfl⟩
end Go.Proofs.Ytenihlicjahjhaa

/-
  RegIn: a region that draws and calls nothing, inside a fence: walked as outside.
-/
import Derived.Test.YtenihlicjahjhaaReg
import Derived.OrdersIn
import Derived.AtR
set_option linter.unusedVariables false
set_option linter.unusedSimpArgs false
namespace Go.Proofs.Ytenihlicjahjhaa
open Go Go.RowKit Go.Proofs

/-- operations that call nothing and make nothing -/
def plainB : Op → Bool
  | .move _ | .assign _ | .load .. | .store .. | .binOp .. | .slice .. | .fieldAddr .. | .indexAddr .. | .index .. | .extract .. | .convert .. | .field .. => true
  | _ => false

theorem run_val (s : Sem Value) (P : Program) (w : World) : (∃ x w', (do pure (Next.value (← s)) : Sem Next).run P w = .ok (.value x) w') ∨ (∃ h w', (do pure (Next.value (← s)) : Sem Next).run P w = .halt h w') := by
  cases h : s.run P w <;> simp [go_sem, h, Result.andThen]

theorem run_unit (s : Sem Unit) (P : Program) (w : World) : (∃ w', (do s; pure Next.skip : Sem Next).run P w = .ok .skip w') ∨ (∃ h w', (do s; pure Next.skip : Sem Next).run P w = .halt h w') := by
  cases h : s.run P w <;> simp [go_sem, h, Result.andThen]

theorem plain_res {ρ : Operand → Value} {o : Oper} {P : Program} {w : World} (h : plainB o.op = true) :
    (∃ x w', (execOp ρ o).run P w = .ok (.value x) w') ∨ (∃ w', (execOp ρ o).run P w = .ok .skip w') ∨ (∃ h w', (execOp ρ o).run P w = .halt h w') := by
  unfold execOp
  cases ho : o.op <;> rw [ho] at h <;> try (simp [plainB] at h; done)
  case move => exact .inl ⟨_, _, rfl⟩
  case assign => exact .inl ⟨_, _, rfl⟩
  case store t x y =>
    rcases run_unit (Instr.storeAt t (ρ x) (ρ y)) P w with h | h
    · exact .inr (.inl h)
    · exact .inr (.inr h)
  all_goals (refine Or.elim (run_val _ P w) (fun h => .inl h) (fun h => .inr (.inr h)))

theorem plain_about {o : Oper} {P : Program} {w : World} {ρ : Operand → Value} (h : plainB o.op = true) : o.about P w ρ = none := by
  unfold Oper.about
  cases ho : o.op <;> rw [ho] at h <;> first | rfl | (simp [plainB] at h)

theorem plain_defer {o : Oper} (h : plainB o.op = true) : ∀ c, o.op ≠ .defer c := by
  intro c e; rw [e] at h; simp [plainB] at h

variable {F : Fence} {n : Nat} {P : Program} {ops : Array Oper} {Q : Exit → Act → World → Prop} {md : Region.Mode}

theorem wpOpIn_of_plain (hp : (ops.all fun o => plainB o.op) = true) (hQ : ¬ LetsOut Q) {i : Nat} {K K' : Act → World → Prop} (hK : ∀ a w, K a w → K' a w) {a : Act} {w : World} (h : wpOp P ops Q i K a w) : wpOpIn F n P ops Q i K' a w := by
  unfold wpOp at h
  unfold wpOpIn
  cases ho : ops[i]? with
  | none => rw [ho] at h; exact hK _ _ h
  | some o =>
    rw [ho] at h
    have hpo : plainB o.op = true := by
      rw [Array.all_eq_true] at hp
      obtain ⟨hi, e⟩ := Array.getElem?_eq_some_iff.1 ho
      have := hp i hi
      rwa [e] at this
    dsimp only at h ⊢
    split at h
    · rename_i hw
      rw [if_pos hw]
      rcases h with h | h
      · refine ⟨fun f hf => (by rw [plain_about hpo] at hf; cases hf), ?_⟩
        rw [Oper.semAt_eq _ _ _ (plain_defer hpo)]
        unfold Oper.wp at h
        rcases plain_res (ρ := a.eval) (o := o) (P := P) (w := w) hpo with ⟨x, w', e⟩ | ⟨w', e⟩ | ⟨e', w', e⟩
        · rw [e] at h ⊢; exact hK _ _ h
        · rw [e] at h ⊢; exact hK _ _ h
        · rw [e] at h ⊢
          cases e' <;> first | exact h | exact h.elim
      · exact absurd h.2 hQ
    · rename_i hw
      rw [if_neg hw]
      exact ⟨fun f hf => (by rw [plain_about hpo] at hf; cases hf), hK _ _ h⟩

theorem wpAnyIn_of_plain (hp : (ops.all fun o => plainB o.op) = true) (hQ : ¬ LetsOut Q) : ∀ (fuel : Nat) (listed : Array Bool) (a : Act) (w : World), wpAny P md ops Q fuel listed a w → wpAnyIn F n P md ops Q fuel listed a w
  | 0, _, _, _, h => h
  | fuel + 1, _, _, _, h => ⟨h.1, fun i hi => wpOpIn_of_plain hp hQ (fun a w => wpAnyIn_of_plain hp hQ fuel _ a w) (h.2 i hi)⟩

theorem region_open_in {id : Nat} {a : Act} {w : World} (S : World → Prop) (G : Nat → Bool) (hm : P.follows .mixedOrders = true) (hp : (ops.all fun o => plainB o.op) = true) (hQ : ¬ LetsOut Q)
    (h : wpAnyG P .any ops Q S G ops.size (Array.replicate ops.size false) a w.drew) : (Code.region id ops true).wpIn F n P Q a w :=
  wpIn_region_any hm (wpAnyIn_of_plain hp hQ _ _ _ _ (wpAny_of_G _ _ _ _ h))
theorem region_open_in' {id : Nat} {a : Act} {w : World} (G : Nat → Bool) (hm : P.follows .mixedOrders = true) (hp : (ops.all fun o => plainB o.op) = true) (hQ : ¬ LetsOut Q)
    (h : wpAnyG P .any ops Q (fun W => W.heap = w.heap) G ops.size (Array.replicate ops.size false) a w.drew) : (Code.region id ops true).wpIn F n P Q a w := region_open_in _ G hm hp hQ h
end Go.Proofs.Ytenihlicjahjhaa

/-
  THE STATEMENT Rows.RopePlaysSaid IS PROVED: the Go function answers true at every input, and its arguments read as they did; no condition.
-/
import Derived.Test.YtenihlicjahjhaaRows
import Derived.Test.YtenihlicjahjhaaOpenAct
import Derived.Test.YtenihlicjahjhaaDone
import Derived.Test.YtenihlicjahjhaaFacts
import Derived.WalkKit
import Derived.ProofKit
import Derived.OpenShut
import Derived.ShutString
namespace Go.Proofs.Ytenihlicjahjhaa.ropePlays
open Go.ChangeShapes Go.WideShapes Go.ChangeAt Go.RowKit
open Go.ChangeMaps (open_string shut_string)
set_option linter.unusedVariables false
set_option linter.unusedSimpArgs false

theorem own : ownKnob Try.prog.godebug = none := by kernel_rfl



set_option maxRecDepth 100000 in
theorem lifted (os : Os) (started : os.Started) (H : Type) (enc : TypeId × Value → H) :
    ReturnsInHanded {} Try.checked os 10 .any (Rows.ropePlaysSpec.pre6 enc Try.prog Try.f10 Rows.ropePlaysRow.domain false) (Rows.ropePlaysSpec.post enc Try.prog Try.f10 false true false false) := by
  refine returnsInHanded_of_change (C := Try.checked) own started (by kernel_rfl) Try.func10
    (ChangeSpec.witness6 (enc := enc) (C := Try.checked) false ⟨#[], #[.slice none 0 0, .int .i64 0], []⟩ 8 (by kernel_rfl) (by kernel_rfl) (by kernel_rfl) (by kernel_rfl)) ?_
  intro W base args ds gs before hval0 hW hcnd _
  have hval : ∀ (j : Nat) t v, Try.f10.params[j]? = some t → args[j]? = some v → Value.okWide Try.prog W .any base t v := hval0
  have hW' := hW
  have hWlt := hW.lt
  obtain ⟨p, q, hA0, hV, rfl, hfz, hnd⟩ := hW
  have hA : DataW.TrodAll enc Try.prog W 0 (fun _ => true) true Try.f10.params.toList args.toList ds p := hA0
  rw [Try.params10] at hA hval
  obtain ⟨v0, vs0, d0, ds0, p0, q0, hargs, rfl, rfl, h0, r0⟩ := trodAll_cons hA
  obtain ⟨v1, vs1, d1, ds1, p1, q1, rfl, rfl, rfl, h1, r1⟩ := trodAll_cons r0
  obtain ⟨rfl, rfl, rfl⟩ := trodAll_nil r1
  obtain rfl : args = #[v0, v1] := by cases args; simp_all
  obtain ⟨rfl, rfl⟩ := trodVars_none hV
  clear hA0 hval0
  have hcalls : Calls Try.prog 10 #[v0, v1] W fun e w' => e = .returned (.bool true) ∧ Below W.heap.size W w' := by
    obtain ⟨Sc, hsc⟩ := open_script Try.underlying83 Try.underlying87 (by kernel_rfl) (by kernel_rfl) Try.underlying3 Try.underlying3 Try.underlying3 Try.underlying3 Try.underlying3 Try.underlying9 (hval 0 _ v0 rfl rfl) h0
    obtain ⟨n, rfl, _, _, wn⟩ := open_int Try.underlying3 (hval 1 _ v1 rfl rfl) h1
    exact RopePlays_walk _ _ _ _ hsc (wf_i64 wn)
  refine hcalls.mono fun e W' ⟨he, hg⟩ => ?_
  subst he
  exact ⟨_, rfl, post_of_args facts_laid (by kernel_rfl) hW' rfl rfl (by kernel_rfl) Try.underlying4 hg⟩

theorem reach0 : (Rows.ropePlaysRow.inPlace == Try.pinned.checked.prog.inPlace 10) = true := by kernel_rfl
theorem reach1 : (Rows.ropePlaysRow.unfollowed == Try.pinned.checked.prog.unfollowed 10) = true := by kernel_rfl
theorem reach2 : (Rows.ropePlaysRow.recurses == Try.pinned.checked.prog.recurses 10) = true := by kernel_rfl
theorem reach3 : (Rows.ropePlaysRow.named == Try.pinned.checked.prog.varsNamed 10) = true := by kernel_rfl

theorem named_at : Try.pinned.checked.prog.funcNamed Rows.ropePlaysRow.func = some 10 := by kernel_rfl

theorem closed : joinedFacts Try.pinned.checked.prog 10 Try.f10 Rows.ropePlaysSpec Rows.ropePlaysRow = true :=
  joined_mk (by kernel_rfl) facts_laid facts_maps (by kernel_rfl) (by kernel_rfl) (by kernel_rfl) facts_stops (by kernel_rfl) facts_knobs reach0 reach1 reach2 reach3
    (by kernel_rfl) (by kernel_rfl) (by kernel_rfl) (by kernel_rfl) (by kernel_rfl) (by kernel_rfl) (by kernel_rfl) (by kernel_rfl) (by kernel_rfl) facts_keys (by kernel_rfl) facts_heard (by kernel_rfl) (by kernel_rfl)
    facts_enter (by kernel_rfl) (by kernel_rfl) (by kernel_rfl) (by kernel_rfl)

theorem over : Rows.ropePlaysRow.holds Try.pinned (OpenSpec.ofChange Rows.ropePlaysSpec) :=
  OpenClaim.holds_of_wide 10 Try.f10 rfl rfl rfl rfl rfl rfl rfl ⟨rfl, rfl, rfl, rfl, rfl⟩ rfl rfl rfl rfl rfl named_at Try.func10 closed
    (of_decide_eq_true (by kernel_rfl)) (by unfold Func.isWrapper; first | (rw [if_pos (by decide +kernel)]; kernel_rfl) | (rw [if_neg (by decide +kernel)]; exact ⟨rfl, rfl⟩))
    (fun os started H enc _ => lifted os started H enc)

theorem proved : Rows.RopePlaysSaid :=
  over
#print axioms proved
end Go.Proofs.Ytenihlicjahjhaa.ropePlays

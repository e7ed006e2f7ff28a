/-
  THE STATEMENT Rows.RopeCutsSaid IS PROVED: the Go function answers true at every input, and its arguments read as they did; no condition.
-/
import Derived.Test.YtenihlicjahjhaaRows
import Derived.Test.YtenihlicjahjhaaCuts
import Derived.Test.YtenihlicjahjhaaDone
import Derived.Test.YtenihlicjahjhaaFacts
import Derived.WalkKit
import Derived.ProofKit
import Derived.OpenShut
import Derived.ShutString
namespace Go.Proofs.Ytenihlicjahjhaa.ropeCuts
open Go.ChangeShapes Go.WideShapes Go.ChangeAt Go.RowKit
open Go.ChangeMaps (open_string shut_string)
set_option linter.unusedVariables false
set_option linter.unusedSimpArgs false

theorem own : ownKnob Try.prog.godebug = none := by kernel_rfl



set_option maxRecDepth 100000 in
theorem lifted (os : Os) (started : os.Started) (H : Type) (enc : TypeId × Value → H) :
    ReturnsInHanded {} Try.checked os 5 .any (Rows.ropeCutsSpec.pre6 enc Try.prog Try.f5 Rows.ropeCutsRow.domain false) (Rows.ropeCutsSpec.post enc Try.prog Try.f5 false true false false) := by
  refine returnsInHanded_of_change (C := Try.checked) own started (by kernel_rfl) Try.func5
    (ChangeSpec.witness6 (enc := enc) (C := Try.checked) false ⟨#[], #[.string ByteArray.empty, .string ByteArray.empty, .agg #[.int .i64 0, .int .i64 0, .int .i64 0]], []⟩ 8 (by kernel_rfl) (by kernel_rfl) (by kernel_rfl) (by kernel_rfl)) ?_
  intro W base args ds gs before hval0 hW hcnd _
  have hval : ∀ (j : Nat) t v, Try.f5.params[j]? = some t → args[j]? = some v → Value.okWide Try.prog W .any base t v := hval0
  have hW' := hW
  have hWlt := hW.lt
  obtain ⟨p, q, hA0, hV, rfl, hfz, hnd⟩ := hW
  have hA : DataW.TrodAll enc Try.prog W 0 (fun _ => true) true Try.f5.params.toList args.toList ds p := hA0
  rw [Try.params5] at hA hval
  obtain ⟨v0, vs0, d0, ds0, p0, q0, hargs, rfl, rfl, h0, r0⟩ := trodAll_cons hA
  obtain ⟨v1, vs1, d1, ds1, p1, q1, rfl, rfl, rfl, h1, r1⟩ := trodAll_cons r0
  obtain ⟨v2, vs2, d2, ds2, p2, q2, rfl, rfl, rfl, h2, r2⟩ := trodAll_cons r1
  obtain ⟨rfl, rfl, rfl⟩ := trodAll_nil r2
  obtain rfl : args = #[v0, v1, v2] := by cases args; simp_all
  obtain ⟨rfl, rfl⟩ := trodVars_none hV
  clear hA0 hval0
  have hcalls : Calls Try.prog 5 #[v0, v1, v2] W fun e w' => e = .returned (.bool true) ∧ Below W.heap.size W w' := by
    obtain ⟨a0, rfl, _, _, w0⟩ := open_string Try.underlying9 (hval 0 _ v0 rfl rfl) h0
    obtain ⟨a1, rfl, _, _, w1⟩ := open_string Try.underlying9 (hval 1 _ v1 rfl rfl) h1
    obtain ⟨x, y, z, rfl, wx, wy, wz⟩ := open_ints3 Try.underlying42 Try.underlying3 (by kernel_rfl) (by kernel_rfl) (hval 2 _ v2 rfl rfl) h2
    rw [bytes_list a0, bytes_list a1]
    exact RopeCuts_walk _ _ _ _ _ _ (wf_i64 wx) (wf_i64 wy) (wf_i64 wz)
  refine hcalls.mono fun e W' ⟨he, hg⟩ => ?_
  subst he
  exact ⟨_, rfl, post_of_args facts_laid (by kernel_rfl) hW' rfl rfl (by kernel_rfl) Try.underlying4 hg⟩

theorem reach0 : (Rows.ropeCutsRow.inPlace == Try.pinned.checked.prog.inPlace 5) = true := by kernel_rfl
theorem reach1 : (Rows.ropeCutsRow.unfollowed == Try.pinned.checked.prog.unfollowed 5) = true := by kernel_rfl
theorem reach2 : (Rows.ropeCutsRow.recurses == Try.pinned.checked.prog.recurses 5) = true := by kernel_rfl
theorem reach3 : (Rows.ropeCutsRow.named == Try.pinned.checked.prog.varsNamed 5) = true := by kernel_rfl

theorem named_at : Try.pinned.checked.prog.funcNamed Rows.ropeCutsRow.func = some 5 := by kernel_rfl

theorem closed : joinedFacts Try.pinned.checked.prog 5 Try.f5 Rows.ropeCutsSpec Rows.ropeCutsRow = true :=
  joined_mk (by kernel_rfl) facts_laid facts_maps (by kernel_rfl) (by kernel_rfl) (by kernel_rfl) facts_stops (by kernel_rfl) facts_knobs reach0 reach1 reach2 reach3
    (by kernel_rfl) (by kernel_rfl) (by kernel_rfl) (by kernel_rfl) (by kernel_rfl) (by kernel_rfl) (by kernel_rfl) (by kernel_rfl) (by kernel_rfl) facts_keys (by kernel_rfl) facts_heard (by kernel_rfl) (by kernel_rfl)
    facts_enter (by kernel_rfl) (by kernel_rfl) (by kernel_rfl) (by kernel_rfl)

theorem over : Rows.ropeCutsRow.holds Try.pinned (OpenSpec.ofChange Rows.ropeCutsSpec) :=
  OpenClaim.holds_of_wide 5 Try.f5 rfl rfl rfl rfl rfl rfl rfl ⟨rfl, rfl, rfl, rfl, rfl⟩ rfl rfl rfl rfl rfl named_at Try.func5 closed
    (of_decide_eq_true (by kernel_rfl)) (by unfold Func.isWrapper; first | (rw [if_pos (by decide +kernel)]; kernel_rfl) | (rw [if_neg (by decide +kernel)]; exact ⟨rfl, rfl⟩))
    (fun os started H enc _ => lifted os started H enc)

theorem proved : Rows.RopeCutsSaid :=
  over
#print axioms proved
end Go.Proofs.Ytenihlicjahjhaa.ropeCuts

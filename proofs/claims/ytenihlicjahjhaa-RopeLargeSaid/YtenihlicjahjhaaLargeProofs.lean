/-
  THE STATEMENT Rows.RopeLargeSaid: headgatelaw06 and its like answer true at every input and leave the input as it was; no condition. The walk stands in the text Law6.
-/
import Derived.Test.YtenihlicjahjhaaRows
import Derived.Test.YtenihlicjahjhaaLaw6
import Derived.Test.YtenihlicjahjhaaDone
import Derived.Test.YtenihlicjahjhaaFacts
import Derived.WalkKit
import Derived.ProofKit
import Derived.OpenShut
import Derived.ShutString
namespace Go.Proofs.Ytenihlicjahjhaa.ropeLarge
open Go.ChangeShapes Go.WideShapes Go.ChangeAt Go.RowKit
open Go.ChangeMaps (open_string shut_string)
set_option linter.unusedVariables false      -- a walk need not use every 'w<i>' (that an integer argument fits its kind)

theorem own : ownKnob Try.prog.godebug = none := by kernel_rfl

theorem walk (a0 : ByteArray) (a1 : Int) (w0 : a0.size ≤ maxLen) (w1 : (Lit.int .i64 a1).wf = true) (w : World) :
    Calls Try.prog 4 #[.string a0, .int .i64 a1] w fun e w' => e = .returned (.bool true) ∧ Below w.heap.size w w' := by
  have h := wf_i64 w1
  rw [bytes_list a0]
  exact RopeLarge_walk _ _ _ h.1 h.2

set_option maxRecDepth 100000 in
theorem lifted (os : Os) (started : os.Started) (H : Type) (enc : TypeId × Value → H) :
    ReturnsInHanded {} Try.checked os 4 .any (Rows.ropeLargeSpec.pre6 enc Try.prog Try.f4 Rows.ropeLargeRow.domain false) (Rows.ropeLargeSpec.post enc Try.prog Try.f4 false true false false) := by
  refine returnsInHanded_of_change (C := Try.checked) own started (by kernel_rfl) Try.func4
    (ChangeSpec.witness6 (enc := enc) (C := Try.checked) false ⟨#[], #[.string ByteArray.empty, .int .i64 0], []⟩ 8 (by kernel_rfl) (by kernel_rfl) (by kernel_rfl) (by kernel_rfl)) ?_
  intro W base args ds gs before hval0 hW hcnd _
  have hval : ∀ (j : Nat) t v, Try.f4.params[j]? = some t → args[j]? = some v → Value.okWide Try.prog W .any base t v := hval0
  have hW' := hW
  obtain ⟨p, q, hA0, hV, rfl, hfz, hnd⟩ := hW
  have hA : DataW.TrodAll enc Try.prog W 0 (fun _ => true) true Try.f4.params.toList args.toList ds p := hA0
  rw [Try.params4] at hA hval
  obtain ⟨v0, vs0, d0, ds0, p0, q0, hargs, rfl, rfl, h0, r0⟩ := trodAll_cons hA
  obtain ⟨v1, vs1, d1, ds1, p1, q1, rfl, rfl, rfl, h1, r1⟩ := trodAll_cons r0
  obtain ⟨rfl, rfl, rfl⟩ := trodAll_nil r1
  obtain rfl : args = #[v0, v1] := by cases args; simp_all
  obtain ⟨rfl, rfl⟩ := trodVars_none hV
  obtain ⟨a0, rfl, rfl, rfl, w0⟩ := open_string Try.underlying9 (hval 0 9 v0 rfl rfl) h0
  obtain ⟨a1, rfl, rfl, rfl, w1⟩ := open_int Try.underlying3 (hval 1 3 v1 rfl rfl) h1
  clear hA0 hval0
  simp only [List.append_nil] at hW'
  refine (walk a0 a1 w0 w1 W).mono fun e W' ⟨he, hg⟩ => ?_
  subst he
  exact ⟨_, rfl, post_of_bel (pa := []) (pv := []) hW' (fun _ _ _ => (trodAll_cons_mk (shut_bool Try.underlying4 _) trodAll_mk0)) (fun sp _ => (trodAll_cons_mk (shut_string Try.underlying9 w0) (trodAll_cons_mk (shut_int Try.underlying3 w1) trodAll_mk0))) (fun _ _ => rfl) rfl
    hg (ok_one (by kernel_rfl) rfl (okWide_bool_mk Try.underlying4 _))⟩

theorem reach0 : (Rows.ropeLargeRow.inPlace == Try.pinned.checked.prog.inPlace 4) = true := by kernel_rfl
theorem reach1 : (Rows.ropeLargeRow.unfollowed == Try.pinned.checked.prog.unfollowed 4) = true := by kernel_rfl
theorem reach2 : (Rows.ropeLargeRow.recurses == Try.pinned.checked.prog.recurses 4) = true := by kernel_rfl
theorem reach3 : (Rows.ropeLargeRow.named == Try.pinned.checked.prog.varsNamed 4) = true := by kernel_rfl

theorem named_at : Try.pinned.checked.prog.funcNamed Rows.ropeLargeRow.func = some 4 := by kernel_rfl

theorem closed : joinedFacts Try.pinned.checked.prog 4 Try.f4 Rows.ropeLargeSpec Rows.ropeLargeRow = true :=
  joined_mk (by kernel_rfl) facts_laid facts_maps (by kernel_rfl) (by kernel_rfl) (by kernel_rfl) facts_stops (by kernel_rfl) facts_knobs reach0 reach1 reach2 reach3
    (by kernel_rfl) (by kernel_rfl) (by kernel_rfl) (by kernel_rfl) (by kernel_rfl) (by kernel_rfl) (by kernel_rfl) (by kernel_rfl) (by kernel_rfl) facts_keys (by kernel_rfl) facts_heard (by kernel_rfl) (by kernel_rfl)
    facts_enter (by kernel_rfl) (by kernel_rfl) (by kernel_rfl) (by kernel_rfl)

theorem over : Rows.ropeLargeRow.holds Try.pinned (OpenSpec.ofChange Rows.ropeLargeSpec) :=
  OpenClaim.holds_of_wide 4 Try.f4 rfl rfl rfl rfl rfl rfl rfl ⟨rfl, rfl, rfl, rfl, rfl⟩ rfl rfl rfl rfl rfl named_at Try.func4 closed
    (of_decide_eq_true (by kernel_rfl)) (by unfold Func.isWrapper; first | (rw [if_pos (by decide +kernel)]; kernel_rfl) | (rw [if_neg (by decide +kernel)]; exact ⟨rfl, rfl⟩))
    (fun os started H enc _ => lifted os started H enc)


theorem proved : Rows.RopeLargeSaid :=
  over
#print axioms proved
end Go.Proofs.Ytenihlicjahjhaa.ropeLarge

/-
  THE STATEMENT Rows.JournalNilSaid IS PROVED: the Go function answers true at every input, and its arguments read as they did; no condition.
-/
import Derived.Test.YtenihlicjahjhaaRows
import Derived.Test.YtenihlicjahjhaaJNil
import Derived.Test.YtenihlicjahjhaaDone
import Derived.Test.YtenihlicjahjhaaFacts
import Derived.WalkKit
import Derived.ProofKit
import Derived.OpenShut
import Derived.ShutString
import Derived.Lib.SmallJoins
namespace Go.Proofs.Ytenihlicjahjhaa.journalNil
open Go.ChangeShapes Go.WideShapes Go.ChangeAt Go.RowKit
open Go.ChangeMaps (open_string shut_string)
set_option linter.unusedVariables false
set_option linter.unusedSimpArgs false

theorem own : ownKnob Try.prog.godebug = none := by kernel_rfl



set_option maxRecDepth 100000 in
theorem lifted (os : Os) (started : os.Started) (H : Type) (enc : TypeId × Value → H) :
    ReturnsInHanded {} Try.checked os 3 .any (Rows.journalNilSpec.pre6 enc Try.prog Try.f3 Rows.journalNilRow.domain false) (Rows.journalNilSpec.post enc Try.prog Try.f3 false true false false) := by
  refine returnsInHanded_of_change (C := Try.checked) own started (by kernel_rfl) Try.func3
    (ChangeSpec.witness6 (enc := enc) (C := Try.checked) false ⟨#[], #[.slice none 0 0, .agg #[.int .i64 0, .int .i64 0]], []⟩ 8 (by kernel_rfl) (by kernel_rfl) (by kernel_rfl) (by kernel_rfl)) ?_
  intro W base args ds gs before hval0 hW hcnd _
  have hval : ∀ (j : Nat) t v, Try.f3.params[j]? = some t → args[j]? = some v → Value.okWide Try.prog W .any base t v := hval0
  have hW' := hW
  have hWlt := hW.lt
  obtain ⟨p, q, hA0, hV, rfl, hfz, hnd⟩ := hW
  have hA : DataW.TrodAll enc Try.prog W 0 (fun _ => true) true Try.f3.params.toList args.toList ds p := hA0
  rw [Try.params3] at hA hval
  obtain ⟨v0, vs0, d0, ds0, p0, q0, hargs, rfl, rfl, h0, r0⟩ := trodAll_cons hA
  obtain ⟨v1, vs1, d1, ds1, p1, q1, rfl, rfl, rfl, h1, r1⟩ := trodAll_cons r0
  obtain ⟨rfl, rfl, rfl⟩ := trodAll_nil r1
  obtain rfl : args = #[v0, v1] := by cases args; simp_all
  obtain ⟨rfl, rfl⟩ := trodVars_none hV
  clear hA0 hval0
  have hcalls : Calls Try.prog 3 #[v0, v1] W fun e w' => e = .returned (.bool true) ∧ Below W.heap.size W w' := by
    obtain ⟨a, b, ya, yb, m, rfl, _, _, ha, hb⟩ := Joins.open_agg2 Try.underlying24 (by kernel_rfl) (by kernel_rfl) (hval 1 _ v1 rfl rfl) h1
    obtain ⟨x, ea, _, wa⟩ := DataW.trod_int Try.underlying3 ha
    obtain ⟨y, eb, _, wb⟩ := DataW.trod_int Try.underlying3 hb
    cases ea; cases eb
    exact JournalNil_walk _ _ _ _
  refine hcalls.mono fun e W' ⟨he, hg⟩ => ?_
  subst he
  exact ⟨_, rfl, post_of_args facts_laid (by kernel_rfl) hW' rfl rfl (by kernel_rfl) Try.underlying4 hg⟩

theorem reach0 : (Rows.journalNilRow.inPlace == Try.pinned.checked.prog.inPlace 3) = true := by kernel_rfl
theorem reach1 : (Rows.journalNilRow.unfollowed == Try.pinned.checked.prog.unfollowed 3) = true := by kernel_rfl
theorem reach2 : (Rows.journalNilRow.recurses == Try.pinned.checked.prog.recurses 3) = true := by kernel_rfl
theorem reach3 : (Rows.journalNilRow.named == Try.pinned.checked.prog.varsNamed 3) = true := by kernel_rfl

theorem named_at : Try.pinned.checked.prog.funcNamed Rows.journalNilRow.func = some 3 := by kernel_rfl

theorem closed : joinedFacts Try.pinned.checked.prog 3 Try.f3 Rows.journalNilSpec Rows.journalNilRow = true :=
  joined_mk (by kernel_rfl) facts_laid facts_maps (by kernel_rfl) (by kernel_rfl) (by kernel_rfl) facts_stops (by kernel_rfl) facts_knobs reach0 reach1 reach2 reach3
    (by kernel_rfl) (by kernel_rfl) (by kernel_rfl) (by kernel_rfl) (by kernel_rfl) (by kernel_rfl) (by kernel_rfl) (by kernel_rfl) (by kernel_rfl) facts_keys (by kernel_rfl) facts_heard (by kernel_rfl) (by kernel_rfl)
    facts_enter (by kernel_rfl) (by kernel_rfl) (by kernel_rfl) (by kernel_rfl)

theorem over : Rows.journalNilRow.holds Try.pinned (OpenSpec.ofChange Rows.journalNilSpec) :=
  OpenClaim.holds_of_wide 3 Try.f3 rfl rfl rfl rfl rfl rfl rfl ⟨rfl, rfl, rfl, rfl, rfl⟩ rfl rfl rfl rfl rfl named_at Try.func3 closed
    (of_decide_eq_true (by kernel_rfl)) (by unfold Func.isWrapper; first | (rw [if_pos (by decide +kernel)]; kernel_rfl) | (rw [if_neg (by decide +kernel)]; exact ⟨rfl, rfl⟩))
    (fun os started H enc _ => lifted os started H enc)

theorem proved : Rows.JournalNilSaid :=
  over
#print axioms proved
end Go.Proofs.Ytenihlicjahjhaa.journalNil

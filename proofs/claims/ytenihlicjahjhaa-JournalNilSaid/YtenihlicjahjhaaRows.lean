/-
  No cell of these rows narrows 'for every input' (looked for: loops, veiled, ifaces, maps, wideKeys, modest, calm, conditions, laid).
  DERIVED. THE GIVEN ROWS OF THIS SEAT. 19 by the template 'for every input the law returns true; each argument reads behind the call as it read before'; 0 by the template 'total and deterministic' (their statements: YtenihlicjahjhaaTotals.lean).
  GIVEN WITH THE SEED: the statements are not yours to turn. If you find one false, say at which input.
  Laid BY PROGRAM, IN A SANDBOX (cutbox-rows.mjs): the forced cells as the released guide's own fill.sh prints them over the translation a96d641488b85077… (all of the seat's roots in one cut). By AI agents, Wed Nov 11 2026. No macro, syntax, notation, axiom, sorry.
-/
import Derived.Test.YtenihlicjahjhaaChecked
import GoSem.Claim
import GoSem.ClaimJoined
import GoSem.ClaimMapViews
import Derived.JoinedTies
import Derived.KernelRfl
namespace Go.Proofs.Ytenihlicjahjhaa
/- THE CELL 'sum', in the pinned program and in every row, IS THE sha256 OF THE DUMP (.gsa) THAT YtenihlicjahjhaaProg.lean LOADS. Nothing in Lean hashes anything: it is a label: what it is worth is what the hold of that sum in a sandbox is worth. -/
noncomputable def Try.pinned : Pinned := { name := "ytenihlicjahjhaa", sum := "a96d641488b850778412920a05ea69c4dc0f86c6a65982303acb420b0536c506", checked := Try.checked }
namespace Rows
def none {H : Type} : Left H := { results := [], args := [] }

/-- 'headgatelaw05.JournalNil': WHATEVER THE INPUT: true; the input reads as it did. -/
def journalNilSpec : ChangeSpec := { name := "journalNil", fn := fun _ => fun
  | [d1, d2] => { results := [.lit (.bool true)], args := [d1, d2] }
  | _ => none }
def journalNilRow : OpenClaim := { program := "ytenihlicjahjhaa", sum := "a96d641488b850778412920a05ea69c4dc0f86c6a65982303acb420b0536c506", func := "headgate/headgatelaw05.JournalNil", spec := "journalNil", apart := false }
def JournalNilSaid : Prop := journalNilRow.holds Try.pinned (OpenSpec.ofChange journalNilSpec)

/-- ITS FALSE NEIGHBOUR: 'it returns false'. Refute it at one input. -/
def journalNilWrong : ChangeSpec := { name := "journalNil", fn := fun _ => fun
  | [d1, d2] => { results := [.lit (.bool false)], args := [d1, d2] }
  | _ => none }
def JournalNilWrongFalsely : Prop := journalNilRow.holds Try.pinned (OpenSpec.ofChange journalNilWrong)

/-- 'headgatelaw06.RopeLarge': WHATEVER THE INPUT: true; the input reads as it did. -/
def ropeLargeSpec : ChangeSpec := { name := "ropeLarge", fn := fun _ => fun
  | [d1, d2] => { results := [.lit (.bool true)], args := [d1, d2] }
  | _ => none }
def ropeLargeRow : OpenClaim := { program := "ytenihlicjahjhaa", sum := "a96d641488b850778412920a05ea69c4dc0f86c6a65982303acb420b0536c506", func := "headgate/headgatelaw06.RopeLarge", spec := "ropeLarge", inPlace := ["internal/bytealg.CountString", "internal/bytealg.IndexByteString", "internal/bytealg.IndexString", "internal/abi.NoEscape"], unfollowed := true, recurses := true, named := ["internal/bytealg.MaxLen"], apart := false }
def RopeLargeSaid : Prop := ropeLargeRow.holds Try.pinned (OpenSpec.ofChange ropeLargeSpec)

/-- ITS FALSE NEIGHBOUR: 'it returns false'. Refute it at one input. -/
def ropeLargeWrong : ChangeSpec := { name := "ropeLarge", fn := fun _ => fun
  | [d1, d2] => { results := [.lit (.bool false)], args := [d1, d2] }
  | _ => none }
def RopeLargeWrongFalsely : Prop := ropeLargeRow.holds Try.pinned (OpenSpec.ofChange ropeLargeWrong)

/-- 'headgatelaw06.RopeCuts': WHATEVER THE INPUT: true; the input reads as it did. -/
def ropeCutsSpec : ChangeSpec := { name := "ropeCuts", fn := fun _ => fun
  | [d1, d2, d3] => { results := [.lit (.bool true)], args := [d1, d2, d3] }
  | _ => none }
def ropeCutsRow : OpenClaim := { program := "ytenihlicjahjhaa", sum := "a96d641488b850778412920a05ea69c4dc0f86c6a65982303acb420b0536c506", func := "headgate/headgatelaw06.RopeCuts", spec := "ropeCuts", inPlace := ["internal/bytealg.CountString", "internal/bytealg.IndexByteString", "internal/bytealg.IndexString", "internal/abi.NoEscape"], unfollowed := true, recurses := true, named := ["internal/bytealg.MaxLen"], apart := false }
def RopeCutsSaid : Prop := ropeCutsRow.holds Try.pinned (OpenSpec.ofChange ropeCutsSpec)

/-- ITS FALSE NEIGHBOUR: 'it returns false'. Refute it at one input. -/
def ropeCutsWrong : ChangeSpec := { name := "ropeCuts", fn := fun _ => fun
  | [d1, d2, d3] => { results := [.lit (.bool false)], args := [d1, d2, d3] }
  | _ => none }
def RopeCutsWrongFalsely : Prop := ropeCutsRow.holds Try.pinned (OpenSpec.ofChange ropeCutsWrong)

/-- 'headgatelaw05.JournalKeeps': WHATEVER THE INPUT: true; the input reads as it did. -/
def journalKeepsSpec : ChangeSpec := { name := "journalKeeps", fn := fun _ => fun
  | [d1, d2] => { results := [.lit (.bool true)], args := [d1, d2] }
  | _ => none }
def journalKeepsRow : OpenClaim := { program := "ytenihlicjahjhaa", sum := "a96d641488b850778412920a05ea69c4dc0f86c6a65982303acb420b0536c506", func := "headgate/headgatelaw05.JournalKeeps", spec := "journalKeeps", apart := false }
def JournalKeepsSaid : Prop := journalKeepsRow.holds Try.pinned (OpenSpec.ofChange journalKeepsSpec)

/-- ITS FALSE NEIGHBOUR: 'it returns false'. Refute it at one input. -/
def journalKeepsWrong : ChangeSpec := { name := "journalKeeps", fn := fun _ => fun
  | [d1, d2] => { results := [.lit (.bool false)], args := [d1, d2] }
  | _ => none }
def JournalKeepsWrongFalsely : Prop := journalKeepsRow.holds Try.pinned (OpenSpec.ofChange journalKeepsWrong)

/-- 'headgatelaw05.JournalPlays': WHATEVER THE INPUT: true; the input reads as it did. -/
def journalPlaysSpec : ChangeSpec := { name := "journalPlays", fn := fun _ => fun
  | [d1, d2] => { results := [.lit (.bool true)], args := [d1, d2] }
  | _ => none }
def journalPlaysRow : OpenClaim := { program := "ytenihlicjahjhaa", sum := "a96d641488b850778412920a05ea69c4dc0f86c6a65982303acb420b0536c506", func := "headgate/headgatelaw05.JournalPlays", spec := "journalPlays", apart := false }
def JournalPlaysSaid : Prop := journalPlaysRow.holds Try.pinned (OpenSpec.ofChange journalPlaysSpec)

/-- ITS FALSE NEIGHBOUR: 'it returns false'. Refute it at one input. -/
def journalPlaysWrong : ChangeSpec := { name := "journalPlays", fn := fun _ => fun
  | [d1, d2] => { results := [.lit (.bool false)], args := [d1, d2] }
  | _ => none }
def JournalPlaysWrongFalsely : Prop := journalPlaysRow.holds Try.pinned (OpenSpec.ofChange journalPlaysWrong)

/-- 'headgatelaw06.RopeLines': WHATEVER THE INPUT: true; the input reads as it did. -/
def ropeLinesSpec : ChangeSpec := { name := "ropeLines", fn := fun _ => fun
  | [d1, d2] => { results := [.lit (.bool true)], args := [d1, d2] }
  | _ => none }
def ropeLinesRow : OpenClaim := { program := "ytenihlicjahjhaa", sum := "a96d641488b850778412920a05ea69c4dc0f86c6a65982303acb420b0536c506", func := "headgate/headgatelaw06.RopeLines", spec := "ropeLines", inPlace := ["internal/bytealg.CountString", "internal/bytealg.IndexByteString", "internal/bytealg.IndexString", "internal/abi.NoEscape"], unfollowed := true, recurses := true, named := ["internal/bytealg.MaxLen"], apart := false }
def RopeLinesSaid : Prop := ropeLinesRow.holds Try.pinned (OpenSpec.ofChange ropeLinesSpec)

/-- ITS FALSE NEIGHBOUR: 'it returns false'. Refute it at one input. -/
def ropeLinesWrong : ChangeSpec := { name := "ropeLines", fn := fun _ => fun
  | [d1, d2] => { results := [.lit (.bool false)], args := [d1, d2] }
  | _ => none }
def RopeLinesWrongFalsely : Prop := ropeLinesRow.holds Try.pinned (OpenSpec.ofChange ropeLinesWrong)

/-- 'headgatelaw06.RopeAlike': WHATEVER THE INPUT: true; the input reads as it did. -/
def ropeAlikeSpec : ChangeSpec := { name := "ropeAlike", fn := fun _ => fun
  | [d1, d2] => { results := [.lit (.bool true)], args := [d1, d2] }
  | _ => none }
def ropeAlikeRow : OpenClaim := { program := "ytenihlicjahjhaa", sum := "a96d641488b850778412920a05ea69c4dc0f86c6a65982303acb420b0536c506", func := "headgate/headgatelaw06.RopeAlike", spec := "ropeAlike", inPlace := ["internal/bytealg.CountString", "internal/bytealg.IndexByteString", "internal/bytealg.IndexString", "internal/abi.NoEscape"], unfollowed := true, recurses := true, named := ["internal/bytealg.MaxLen"], apart := false }
def RopeAlikeSaid : Prop := ropeAlikeRow.holds Try.pinned (OpenSpec.ofChange ropeAlikeSpec)

/-- ITS FALSE NEIGHBOUR: 'it returns false'. Refute it at one input. -/
def ropeAlikeWrong : ChangeSpec := { name := "ropeAlike", fn := fun _ => fun
  | [d1, d2] => { results := [.lit (.bool false)], args := [d1, d2] }
  | _ => none }
def RopeAlikeWrongFalsely : Prop := ropeAlikeRow.holds Try.pinned (OpenSpec.ofChange ropeAlikeWrong)

/-- 'headgatelaw06.RopePlays': WHATEVER THE INPUT: true; the input reads as it did. -/
def ropePlaysSpec : ChangeSpec := { name := "ropePlays", fn := fun _ => fun
  | [d1, d2] => { results := [.lit (.bool true)], args := [d1, d2] }
  | _ => none }
def ropePlaysRow : OpenClaim := { program := "ytenihlicjahjhaa", sum := "a96d641488b850778412920a05ea69c4dc0f86c6a65982303acb420b0536c506", func := "headgate/headgatelaw06.RopePlays", spec := "ropePlays", inPlace := ["internal/bytealg.CountString", "internal/bytealg.IndexByteString", "internal/bytealg.IndexString", "internal/abi.NoEscape"], unfollowed := true, recurses := true, named := ["internal/bytealg.MaxLen"], apart := false }
def RopePlaysSaid : Prop := ropePlaysRow.holds Try.pinned (OpenSpec.ofChange ropePlaysSpec)

/-- ITS FALSE NEIGHBOUR: 'it returns false'. Refute it at one input. -/
def ropePlaysWrong : ChangeSpec := { name := "ropePlays", fn := fun _ => fun
  | [d1, d2] => { results := [.lit (.bool false)], args := [d1, d2] }
  | _ => none }
def RopePlaysWrongFalsely : Prop := ropePlaysRow.holds Try.pinned (OpenSpec.ofChange ropePlaysWrong)

/-- 'headgatelaw21.SlotsRise': WHATEVER THE INPUT: true; the input reads as it did. -/
def slotsRiseSpec : ChangeSpec := { name := "slotsRise", fn := fun _ => fun
  | [d] => { results := [.lit (.bool true)], args := [d] }
  | _ => none }
def slotsRiseRow : OpenClaim := { program := "ytenihlicjahjhaa", sum := "a96d641488b850778412920a05ea69c4dc0f86c6a65982303acb420b0536c506", func := "headgate/headgatelaw21.SlotsRise", spec := "slotsRise", unfollowed := true, recurses := true, apart := false }
def SlotsRiseSaid : Prop := slotsRiseRow.holds Try.pinned (OpenSpec.ofChange slotsRiseSpec)

/-- ITS FALSE NEIGHBOUR: 'it returns false'. Refute it at one input. -/
def slotsRiseWrong : ChangeSpec := { name := "slotsRise", fn := fun _ => fun
  | [d] => { results := [.lit (.bool false)], args := [d] }
  | _ => none }
def SlotsRiseWrongFalsely : Prop := slotsRiseRow.holds Try.pinned (OpenSpec.ofChange slotsRiseWrong)

/-- 'headgatelaw21.SlotsNil': WHATEVER THE INPUT: true; the input reads as it did. -/
def slotsNilSpec : ChangeSpec := { name := "slotsNil", fn := fun _ => fun
  | [d1, d2, d3] => { results := [.lit (.bool true)], args := [d1, d2, d3] }
  | _ => none }
def slotsNilRow : OpenClaim := { program := "ytenihlicjahjhaa", sum := "a96d641488b850778412920a05ea69c4dc0f86c6a65982303acb420b0536c506", func := "headgate/headgatelaw21.SlotsNil", spec := "slotsNil", unfollowed := true, recurses := true, apart := false }
def SlotsNilSaid : Prop := slotsNilRow.holds Try.pinned (OpenSpec.ofChange slotsNilSpec)

/-- ITS FALSE NEIGHBOUR: 'it returns false'. Refute it at one input. -/
def slotsNilWrong : ChangeSpec := { name := "slotsNil", fn := fun _ => fun
  | [d1, d2, d3] => { results := [.lit (.bool false)], args := [d1, d2, d3] }
  | _ => none }
def SlotsNilWrongFalsely : Prop := slotsNilRow.holds Try.pinned (OpenSpec.ofChange slotsNilWrong)

/-- 'headgatelaw21.SlotsTwo': WHATEVER THE INPUT: true; the input reads as it did. -/
def slotsTwoSpec : ChangeSpec := { name := "slotsTwo", fn := fun _ => fun
  | [d1, d2] => { results := [.lit (.bool true)], args := [d1, d2] }
  | _ => none }
def slotsTwoRow : OpenClaim := { program := "ytenihlicjahjhaa", sum := "a96d641488b850778412920a05ea69c4dc0f86c6a65982303acb420b0536c506", func := "headgate/headgatelaw21.SlotsTwo", spec := "slotsTwo", unfollowed := true, recurses := true, apart := false }
def SlotsTwoSaid : Prop := slotsTwoRow.holds Try.pinned (OpenSpec.ofChange slotsTwoSpec)

/-- ITS FALSE NEIGHBOUR: 'it returns false'. Refute it at one input. -/
def slotsTwoWrong : ChangeSpec := { name := "slotsTwo", fn := fun _ => fun
  | [d1, d2] => { results := [.lit (.bool false)], args := [d1, d2] }
  | _ => none }
def SlotsTwoWrongFalsely : Prop := slotsTwoRow.holds Try.pinned (OpenSpec.ofChange slotsTwoWrong)

/-- 'headgatelaw21.SlotsPlays': WHATEVER THE INPUT: true; the input reads as it did. -/
def slotsPlaysSpec : ChangeSpec := { name := "slotsPlays", fn := fun _ => fun
  | [d1, d2, d3] => { results := [.lit (.bool true)], args := [d1, d2, d3] }
  | _ => none }
def slotsPlaysRow : OpenClaim := { program := "ytenihlicjahjhaa", sum := "a96d641488b850778412920a05ea69c4dc0f86c6a65982303acb420b0536c506", func := "headgate/headgatelaw21.SlotsPlays", spec := "slotsPlays", unfollowed := true, recurses := true, apart := false }
def SlotsPlaysSaid : Prop := slotsPlaysRow.holds Try.pinned (OpenSpec.ofChange slotsPlaysSpec)

/-- ITS FALSE NEIGHBOUR: 'it returns false'. Refute it at one input. -/
def slotsPlaysWrong : ChangeSpec := { name := "slotsPlays", fn := fun _ => fun
  | [d1, d2, d3] => { results := [.lit (.bool false)], args := [d1, d2, d3] }
  | _ => none }
def SlotsPlaysWrongFalsely : Prop := slotsPlaysRow.holds Try.pinned (OpenSpec.ofChange slotsPlaysWrong)

/-- 'headgatelaw21.SlotsKeep': WHATEVER THE INPUT: true; the input reads as it did. -/
def slotsKeepSpec : ChangeSpec := { name := "slotsKeep", fn := fun _ => fun
  | [d1, d2, d3] => { results := [.lit (.bool true)], args := [d1, d2, d3] }
  | _ => none }
def slotsKeepRow : OpenClaim := { program := "ytenihlicjahjhaa", sum := "a96d641488b850778412920a05ea69c4dc0f86c6a65982303acb420b0536c506", func := "headgate/headgatelaw21.SlotsKeep", spec := "slotsKeep", unfollowed := true, recurses := true, apart := false }
def SlotsKeepSaid : Prop := slotsKeepRow.holds Try.pinned (OpenSpec.ofChange slotsKeepSpec)

/-- ITS FALSE NEIGHBOUR: 'it returns false'. Refute it at one input. -/
def slotsKeepWrong : ChangeSpec := { name := "slotsKeep", fn := fun _ => fun
  | [d1, d2, d3] => { results := [.lit (.bool false)], args := [d1, d2, d3] }
  | _ => none }
def SlotsKeepWrongFalsely : Prop := slotsKeepRow.holds Try.pinned (OpenSpec.ofChange slotsKeepWrong)

/-- 'headgatelaw07.TreeDeep': WHATEVER THE INPUT: true; the input reads as it did. -/
def treeDeepSpec : ChangeSpec := { name := "treeDeep", fn := fun _ => fun
  | [d] => { results := [.lit (.bool true)], args := [d] }
  | _ => none }
def treeDeepRow : OpenClaim := { program := "ytenihlicjahjhaa", sum := "a96d641488b850778412920a05ea69c4dc0f86c6a65982303acb420b0536c506", func := "headgate/headgatelaw07.TreeDeep", spec := "treeDeep", inPlace := ["slices.overlaps[headgate/tree.file]", "slices.overlaps[*headgate/tree.Tree]", "internal/bytealg.CountString", "internal/bytealg.IndexByteString", "internal/bytealg.IndexString", "internal/abi.NoEscape"], unfollowed := true, recurses := true, named := ["internal/bytealg.MaxLen"], apart := false }
def TreeDeepSaid : Prop := treeDeepRow.holds Try.pinned (OpenSpec.ofChange treeDeepSpec)

/-- ITS FALSE NEIGHBOUR: 'it returns false'. Refute it at one input. -/
def treeDeepWrong : ChangeSpec := { name := "treeDeep", fn := fun _ => fun
  | [d] => { results := [.lit (.bool false)], args := [d] }
  | _ => none }
def TreeDeepWrongFalsely : Prop := treeDeepRow.holds Try.pinned (OpenSpec.ofChange treeDeepWrong)

/-- 'headgatelaw07.TreePlays': WHATEVER THE INPUT: true; the input reads as it did. -/
def treePlaysSpec : ChangeSpec := { name := "treePlays", fn := fun _ => fun
  | [d1, d2] => { results := [.lit (.bool true)], args := [d1, d2] }
  | _ => none }
def treePlaysRow : OpenClaim := { program := "ytenihlicjahjhaa", sum := "a96d641488b850778412920a05ea69c4dc0f86c6a65982303acb420b0536c506", func := "headgate/headgatelaw07.TreePlays", spec := "treePlays", inPlace := ["internal/bytealg.CountString", "internal/bytealg.IndexByteString", "internal/bytealg.IndexString", "slices.overlaps[headgate/tree.file]", "slices.overlaps[*headgate/tree.Tree]", "internal/abi.NoEscape"], unfollowed := true, recurses := true, named := ["internal/bytealg.MaxLen"], apart := false }
def TreePlaysSaid : Prop := treePlaysRow.holds Try.pinned (OpenSpec.ofChange treePlaysSpec)

/-- ITS FALSE NEIGHBOUR: 'it returns false'. Refute it at one input. -/
def treePlaysWrong : ChangeSpec := { name := "treePlays", fn := fun _ => fun
  | [d1, d2] => { results := [.lit (.bool false)], args := [d1, d2] }
  | _ => none }
def TreePlaysWrongFalsely : Prop := treePlaysRow.holds Try.pinned (OpenSpec.ofChange treePlaysWrong)

/-- 'headgatelaw07.TreeBack': WHATEVER THE INPUT: true; the input reads as it did. -/
def treeBackSpec : ChangeSpec := { name := "treeBack", fn := fun _ => fun
  | [d1, d2] => { results := [.lit (.bool true)], args := [d1, d2] }
  | _ => none }
def treeBackRow : OpenClaim := { program := "ytenihlicjahjhaa", sum := "a96d641488b850778412920a05ea69c4dc0f86c6a65982303acb420b0536c506", func := "headgate/headgatelaw07.TreeBack", spec := "treeBack", inPlace := ["internal/bytealg.CountString", "internal/bytealg.IndexByteString", "internal/bytealg.IndexString", "slices.overlaps[headgate/tree.file]", "slices.overlaps[*headgate/tree.Tree]", "internal/abi.NoEscape"], unfollowed := true, recurses := true, named := ["internal/bytealg.MaxLen"], apart := false }
def TreeBackSaid : Prop := treeBackRow.holds Try.pinned (OpenSpec.ofChange treeBackSpec)

/-- ITS FALSE NEIGHBOUR: 'it returns false'. Refute it at one input. -/
def treeBackWrong : ChangeSpec := { name := "treeBack", fn := fun _ => fun
  | [d1, d2] => { results := [.lit (.bool false)], args := [d1, d2] }
  | _ => none }
def TreeBackWrongFalsely : Prop := treeBackRow.holds Try.pinned (OpenSpec.ofChange treeBackWrong)

/-- 'headgatelaw07.TreeMany': WHATEVER THE INPUT: true; the input reads as it did. -/
def treeManySpec : ChangeSpec := { name := "treeMany", fn := fun _ => fun
  | [d1, d2] => { results := [.lit (.bool true)], args := [d1, d2] }
  | _ => none }
def treeManyRow : OpenClaim := { program := "ytenihlicjahjhaa", sum := "a96d641488b850778412920a05ea69c4dc0f86c6a65982303acb420b0536c506", func := "headgate/headgatelaw07.TreeMany", spec := "treeMany", inPlace := ["slices.overlaps[headgate/tree.file]", "slices.overlaps[*headgate/tree.Tree]", "internal/bytealg.CountString", "internal/bytealg.IndexByteString", "internal/bytealg.IndexString", "internal/abi.NoEscape"], unfollowed := true, recurses := true, named := ["internal/bytealg.MaxLen"], apart := false }
def TreeManySaid : Prop := treeManyRow.holds Try.pinned (OpenSpec.ofChange treeManySpec)

/-- ITS FALSE NEIGHBOUR: 'it returns false'. Refute it at one input. -/
def treeManyWrong : ChangeSpec := { name := "treeMany", fn := fun _ => fun
  | [d1, d2] => { results := [.lit (.bool false)], args := [d1, d2] }
  | _ => none }
def TreeManyWrongFalsely : Prop := treeManyRow.holds Try.pinned (OpenSpec.ofChange treeManyWrong)

/-- 'headgatelaw07.TreeOrder': WHATEVER THE INPUT: true; the input reads as it did. -/
def treeOrderSpec : ChangeSpec := { name := "treeOrder", fn := fun _ => fun
  | [d1, d2, d3] => { results := [.lit (.bool true)], args := [d1, d2, d3] }
  | _ => none }
def treeOrderRow : OpenClaim := { program := "ytenihlicjahjhaa", sum := "a96d641488b850778412920a05ea69c4dc0f86c6a65982303acb420b0536c506", func := "headgate/headgatelaw07.TreeOrder", spec := "treeOrder", inPlace := ["internal/bytealg.CountString", "internal/bytealg.IndexByteString", "internal/bytealg.IndexString", "slices.overlaps[headgate/tree.file]", "slices.overlaps[*headgate/tree.Tree]", "internal/abi.NoEscape"], unfollowed := true, recurses := true, named := ["internal/bytealg.MaxLen"], apart := false }
def TreeOrderSaid : Prop := treeOrderRow.holds Try.pinned (OpenSpec.ofChange treeOrderSpec)

/-- ITS FALSE NEIGHBOUR: 'it returns false'. Refute it at one input. -/
def treeOrderWrong : ChangeSpec := { name := "treeOrder", fn := fun _ => fun
  | [d1, d2, d3] => { results := [.lit (.bool false)], args := [d1, d2, d3] }
  | _ => none }
def TreeOrderWrongFalsely : Prop := treeOrderRow.holds Try.pinned (OpenSpec.ofChange treeOrderWrong)

/-- 'headgatelaw22.StoreNil': WHATEVER THE INPUT: true; the input reads as it did. -/
def storeNilSpec : ChangeSpec := { name := "storeNil", fn := fun _ => fun
  | [d1, d2] => { results := [.lit (.bool true)], args := [d1, d2] }
  | _ => none }
def storeNilRow : OpenClaim := { program := "ytenihlicjahjhaa", sum := "a96d641488b850778412920a05ea69c4dc0f86c6a65982303acb420b0536c506", func := "headgate/headgatelaw22.StoreNil", spec := "storeNil", inPlace := ["internal/bytealg.CountString", "internal/bytealg.IndexByteString", "internal/bytealg.IndexString", "slices.overlaps[headgate/tree.file]", "slices.overlaps[*headgate/tree.Tree]", "internal/abi.NoEscape"], unfollowed := true, recurses := true, named := ["internal/bytealg.MaxLen"], apart := false }
def StoreNilSaid : Prop := storeNilRow.holds Try.pinned (OpenSpec.ofChange storeNilSpec)

/-- ITS FALSE NEIGHBOUR: 'it returns false'. Refute it at one input. -/
def storeNilWrong : ChangeSpec := { name := "storeNil", fn := fun _ => fun
  | [d1, d2] => { results := [.lit (.bool false)], args := [d1, d2] }
  | _ => none }
def StoreNilWrongFalsely : Prop := storeNilRow.holds Try.pinned (OpenSpec.ofChange storeNilWrong)

/- THE SECOND FORM. 'bulk': how many values and letters a reading holds, each counted each time it is reached (what is shared counts as often as it is met; a slice's spare places count too). A statement '..UptoSaid' is the law's where the arguments, and the package variables that the reading takes, are together of bulk at most 1048576: NARROWER than '..Said'. Prove '..Said' where nothing that the law and all that it calls make is longer than what came in: it says more and counts as full. Else prove '..UptoSaid'. A law counts once. -/
mutual
def uptoBulk {H : Type} : DataW H → Nat
  | .lit (.string bytes) => bytes.length + 1
  | .lit _ => 1
  | .nil => 1
  | .ptr d => uptoBulk d + 1
  | .slice elems spare => uptoBulkAll elems + uptoBulkAll spare + 1
  | .agg parts => uptoBulkAll parts + 1
  | .iface _ d => uptoBulk d + 1
  | .map entries => uptoBulkEntries entries + 1
  | .held _ => 1
def uptoBulkAll {H : Type} : List (DataW H) → Nat
  | [] => 0
  | d :: r => uptoBulk d + uptoBulkAll r
def uptoBulkEntries {H : Type} : List (Lit × DataW H) → Nat
  | [] => 0
  | x :: r => uptoBulkEntry x + uptoBulkEntries r
def uptoBulkEntry {H : Type} : Lit × DataW H → Nat
  | (.string bytes, d) => bytes.length + uptoBulk d + 1
  | (_, d) => uptoBulk d + 1
 end
def uptoSmall : (H : Type) → List (DataW H) → Bool := fun _ ds => decide (uptoBulkAll ds ≤ 1048576)
def OpenSpec.upto (s : _root_.Go.ChangeSpec) : _root_.Go.OpenSpec := { _root_.Go.OpenSpec.ofChange s with cond := some uptoSmall }

/-- 'headgatelaw05.JournalNil', WHERE WHAT IT READS IS OF BULK AT MOST 1048576: true; the input reads as it did. -/
def journalNilUptoRow : OpenClaim := { program := "ytenihlicjahjhaa", sum := "a96d641488b850778412920a05ea69c4dc0f86c6a65982303acb420b0536c506", func := "headgate/headgatelaw05.JournalNil", spec := "journalNil", apart := false, narrowed := true }
def JournalNilUptoSaid : Prop := journalNilUptoRow.holds Try.pinned (OpenSpec.upto journalNilSpec)

/-- 'headgatelaw06.RopeLarge', WHERE WHAT IT READS IS OF BULK AT MOST 1048576: true; the input reads as it did. -/
def ropeLargeUptoRow : OpenClaim := { program := "ytenihlicjahjhaa", sum := "a96d641488b850778412920a05ea69c4dc0f86c6a65982303acb420b0536c506", func := "headgate/headgatelaw06.RopeLarge", spec := "ropeLarge", inPlace := ["internal/bytealg.CountString", "internal/bytealg.IndexByteString", "internal/bytealg.IndexString", "internal/abi.NoEscape"], unfollowed := true, recurses := true, named := ["internal/bytealg.MaxLen"], apart := false, narrowed := true }
def RopeLargeUptoSaid : Prop := ropeLargeUptoRow.holds Try.pinned (OpenSpec.upto ropeLargeSpec)

/-- 'headgatelaw06.RopeCuts', WHERE WHAT IT READS IS OF BULK AT MOST 1048576: true; the input reads as it did. -/
def ropeCutsUptoRow : OpenClaim := { program := "ytenihlicjahjhaa", sum := "a96d641488b850778412920a05ea69c4dc0f86c6a65982303acb420b0536c506", func := "headgate/headgatelaw06.RopeCuts", spec := "ropeCuts", inPlace := ["internal/bytealg.CountString", "internal/bytealg.IndexByteString", "internal/bytealg.IndexString", "internal/abi.NoEscape"], unfollowed := true, recurses := true, named := ["internal/bytealg.MaxLen"], apart := false, narrowed := true }
def RopeCutsUptoSaid : Prop := ropeCutsUptoRow.holds Try.pinned (OpenSpec.upto ropeCutsSpec)

/-- 'headgatelaw05.JournalKeeps', WHERE WHAT IT READS IS OF BULK AT MOST 1048576: true; the input reads as it did. -/
def journalKeepsUptoRow : OpenClaim := { program := "ytenihlicjahjhaa", sum := "a96d641488b850778412920a05ea69c4dc0f86c6a65982303acb420b0536c506", func := "headgate/headgatelaw05.JournalKeeps", spec := "journalKeeps", apart := false, narrowed := true }
def JournalKeepsUptoSaid : Prop := journalKeepsUptoRow.holds Try.pinned (OpenSpec.upto journalKeepsSpec)

/-- 'headgatelaw05.JournalPlays', WHERE WHAT IT READS IS OF BULK AT MOST 1048576: true; the input reads as it did. -/
def journalPlaysUptoRow : OpenClaim := { program := "ytenihlicjahjhaa", sum := "a96d641488b850778412920a05ea69c4dc0f86c6a65982303acb420b0536c506", func := "headgate/headgatelaw05.JournalPlays", spec := "journalPlays", apart := false, narrowed := true }
def JournalPlaysUptoSaid : Prop := journalPlaysUptoRow.holds Try.pinned (OpenSpec.upto journalPlaysSpec)

/-- 'headgatelaw06.RopeLines', WHERE WHAT IT READS IS OF BULK AT MOST 1048576: true; the input reads as it did. -/
def ropeLinesUptoRow : OpenClaim := { program := "ytenihlicjahjhaa", sum := "a96d641488b850778412920a05ea69c4dc0f86c6a65982303acb420b0536c506", func := "headgate/headgatelaw06.RopeLines", spec := "ropeLines", inPlace := ["internal/bytealg.CountString", "internal/bytealg.IndexByteString", "internal/bytealg.IndexString", "internal/abi.NoEscape"], unfollowed := true, recurses := true, named := ["internal/bytealg.MaxLen"], apart := false, narrowed := true }
def RopeLinesUptoSaid : Prop := ropeLinesUptoRow.holds Try.pinned (OpenSpec.upto ropeLinesSpec)

/-- 'headgatelaw06.RopeAlike', WHERE WHAT IT READS IS OF BULK AT MOST 1048576: true; the input reads as it did. -/
def ropeAlikeUptoRow : OpenClaim := { program := "ytenihlicjahjhaa", sum := "a96d641488b850778412920a05ea69c4dc0f86c6a65982303acb420b0536c506", func := "headgate/headgatelaw06.RopeAlike", spec := "ropeAlike", inPlace := ["internal/bytealg.CountString", "internal/bytealg.IndexByteString", "internal/bytealg.IndexString", "internal/abi.NoEscape"], unfollowed := true, recurses := true, named := ["internal/bytealg.MaxLen"], apart := false, narrowed := true }
def RopeAlikeUptoSaid : Prop := ropeAlikeUptoRow.holds Try.pinned (OpenSpec.upto ropeAlikeSpec)

/-- 'headgatelaw06.RopePlays', WHERE WHAT IT READS IS OF BULK AT MOST 1048576: true; the input reads as it did. -/
def ropePlaysUptoRow : OpenClaim := { program := "ytenihlicjahjhaa", sum := "a96d641488b850778412920a05ea69c4dc0f86c6a65982303acb420b0536c506", func := "headgate/headgatelaw06.RopePlays", spec := "ropePlays", inPlace := ["internal/bytealg.CountString", "internal/bytealg.IndexByteString", "internal/bytealg.IndexString", "internal/abi.NoEscape"], unfollowed := true, recurses := true, named := ["internal/bytealg.MaxLen"], apart := false, narrowed := true }
def RopePlaysUptoSaid : Prop := ropePlaysUptoRow.holds Try.pinned (OpenSpec.upto ropePlaysSpec)

/-- 'headgatelaw21.SlotsRise', WHERE WHAT IT READS IS OF BULK AT MOST 1048576: true; the input reads as it did. -/
def slotsRiseUptoRow : OpenClaim := { program := "ytenihlicjahjhaa", sum := "a96d641488b850778412920a05ea69c4dc0f86c6a65982303acb420b0536c506", func := "headgate/headgatelaw21.SlotsRise", spec := "slotsRise", unfollowed := true, recurses := true, apart := false, narrowed := true }
def SlotsRiseUptoSaid : Prop := slotsRiseUptoRow.holds Try.pinned (OpenSpec.upto slotsRiseSpec)

/-- 'headgatelaw21.SlotsNil', WHERE WHAT IT READS IS OF BULK AT MOST 1048576: true; the input reads as it did. -/
def slotsNilUptoRow : OpenClaim := { program := "ytenihlicjahjhaa", sum := "a96d641488b850778412920a05ea69c4dc0f86c6a65982303acb420b0536c506", func := "headgate/headgatelaw21.SlotsNil", spec := "slotsNil", unfollowed := true, recurses := true, apart := false, narrowed := true }
def SlotsNilUptoSaid : Prop := slotsNilUptoRow.holds Try.pinned (OpenSpec.upto slotsNilSpec)

/-- 'headgatelaw21.SlotsTwo', WHERE WHAT IT READS IS OF BULK AT MOST 1048576: true; the input reads as it did. -/
def slotsTwoUptoRow : OpenClaim := { program := "ytenihlicjahjhaa", sum := "a96d641488b850778412920a05ea69c4dc0f86c6a65982303acb420b0536c506", func := "headgate/headgatelaw21.SlotsTwo", spec := "slotsTwo", unfollowed := true, recurses := true, apart := false, narrowed := true }
def SlotsTwoUptoSaid : Prop := slotsTwoUptoRow.holds Try.pinned (OpenSpec.upto slotsTwoSpec)

/-- 'headgatelaw21.SlotsPlays', WHERE WHAT IT READS IS OF BULK AT MOST 1048576: true; the input reads as it did. -/
def slotsPlaysUptoRow : OpenClaim := { program := "ytenihlicjahjhaa", sum := "a96d641488b850778412920a05ea69c4dc0f86c6a65982303acb420b0536c506", func := "headgate/headgatelaw21.SlotsPlays", spec := "slotsPlays", unfollowed := true, recurses := true, apart := false, narrowed := true }
def SlotsPlaysUptoSaid : Prop := slotsPlaysUptoRow.holds Try.pinned (OpenSpec.upto slotsPlaysSpec)

/-- 'headgatelaw21.SlotsKeep', WHERE WHAT IT READS IS OF BULK AT MOST 1048576: true; the input reads as it did. -/
def slotsKeepUptoRow : OpenClaim := { program := "ytenihlicjahjhaa", sum := "a96d641488b850778412920a05ea69c4dc0f86c6a65982303acb420b0536c506", func := "headgate/headgatelaw21.SlotsKeep", spec := "slotsKeep", unfollowed := true, recurses := true, apart := false, narrowed := true }
def SlotsKeepUptoSaid : Prop := slotsKeepUptoRow.holds Try.pinned (OpenSpec.upto slotsKeepSpec)

/-- 'headgatelaw07.TreeDeep', WHERE WHAT IT READS IS OF BULK AT MOST 1048576: true; the input reads as it did. -/
def treeDeepUptoRow : OpenClaim := { program := "ytenihlicjahjhaa", sum := "a96d641488b850778412920a05ea69c4dc0f86c6a65982303acb420b0536c506", func := "headgate/headgatelaw07.TreeDeep", spec := "treeDeep", inPlace := ["slices.overlaps[headgate/tree.file]", "slices.overlaps[*headgate/tree.Tree]", "internal/bytealg.CountString", "internal/bytealg.IndexByteString", "internal/bytealg.IndexString", "internal/abi.NoEscape"], unfollowed := true, recurses := true, named := ["internal/bytealg.MaxLen"], apart := false, narrowed := true }
def TreeDeepUptoSaid : Prop := treeDeepUptoRow.holds Try.pinned (OpenSpec.upto treeDeepSpec)

/-- 'headgatelaw07.TreePlays', WHERE WHAT IT READS IS OF BULK AT MOST 1048576: true; the input reads as it did. -/
def treePlaysUptoRow : OpenClaim := { program := "ytenihlicjahjhaa", sum := "a96d641488b850778412920a05ea69c4dc0f86c6a65982303acb420b0536c506", func := "headgate/headgatelaw07.TreePlays", spec := "treePlays", inPlace := ["internal/bytealg.CountString", "internal/bytealg.IndexByteString", "internal/bytealg.IndexString", "slices.overlaps[headgate/tree.file]", "slices.overlaps[*headgate/tree.Tree]", "internal/abi.NoEscape"], unfollowed := true, recurses := true, named := ["internal/bytealg.MaxLen"], apart := false, narrowed := true }
def TreePlaysUptoSaid : Prop := treePlaysUptoRow.holds Try.pinned (OpenSpec.upto treePlaysSpec)

/-- 'headgatelaw07.TreeBack', WHERE WHAT IT READS IS OF BULK AT MOST 1048576: true; the input reads as it did. -/
def treeBackUptoRow : OpenClaim := { program := "ytenihlicjahjhaa", sum := "a96d641488b850778412920a05ea69c4dc0f86c6a65982303acb420b0536c506", func := "headgate/headgatelaw07.TreeBack", spec := "treeBack", inPlace := ["internal/bytealg.CountString", "internal/bytealg.IndexByteString", "internal/bytealg.IndexString", "slices.overlaps[headgate/tree.file]", "slices.overlaps[*headgate/tree.Tree]", "internal/abi.NoEscape"], unfollowed := true, recurses := true, named := ["internal/bytealg.MaxLen"], apart := false, narrowed := true }
def TreeBackUptoSaid : Prop := treeBackUptoRow.holds Try.pinned (OpenSpec.upto treeBackSpec)

/-- 'headgatelaw07.TreeMany', WHERE WHAT IT READS IS OF BULK AT MOST 1048576: true; the input reads as it did. -/
def treeManyUptoRow : OpenClaim := { program := "ytenihlicjahjhaa", sum := "a96d641488b850778412920a05ea69c4dc0f86c6a65982303acb420b0536c506", func := "headgate/headgatelaw07.TreeMany", spec := "treeMany", inPlace := ["slices.overlaps[headgate/tree.file]", "slices.overlaps[*headgate/tree.Tree]", "internal/bytealg.CountString", "internal/bytealg.IndexByteString", "internal/bytealg.IndexString", "internal/abi.NoEscape"], unfollowed := true, recurses := true, named := ["internal/bytealg.MaxLen"], apart := false, narrowed := true }
def TreeManyUptoSaid : Prop := treeManyUptoRow.holds Try.pinned (OpenSpec.upto treeManySpec)

/-- 'headgatelaw07.TreeOrder', WHERE WHAT IT READS IS OF BULK AT MOST 1048576: true; the input reads as it did. -/
def treeOrderUptoRow : OpenClaim := { program := "ytenihlicjahjhaa", sum := "a96d641488b850778412920a05ea69c4dc0f86c6a65982303acb420b0536c506", func := "headgate/headgatelaw07.TreeOrder", spec := "treeOrder", inPlace := ["internal/bytealg.CountString", "internal/bytealg.IndexByteString", "internal/bytealg.IndexString", "slices.overlaps[headgate/tree.file]", "slices.overlaps[*headgate/tree.Tree]", "internal/abi.NoEscape"], unfollowed := true, recurses := true, named := ["internal/bytealg.MaxLen"], apart := false, narrowed := true }
def TreeOrderUptoSaid : Prop := treeOrderUptoRow.holds Try.pinned (OpenSpec.upto treeOrderSpec)

/-- 'headgatelaw22.StoreNil', WHERE WHAT IT READS IS OF BULK AT MOST 1048576: true; the input reads as it did. -/
def storeNilUptoRow : OpenClaim := { program := "ytenihlicjahjhaa", sum := "a96d641488b850778412920a05ea69c4dc0f86c6a65982303acb420b0536c506", func := "headgate/headgatelaw22.StoreNil", spec := "storeNil", inPlace := ["internal/bytealg.CountString", "internal/bytealg.IndexByteString", "internal/bytealg.IndexString", "slices.overlaps[headgate/tree.file]", "slices.overlaps[*headgate/tree.Tree]", "internal/abi.NoEscape"], unfollowed := true, recurses := true, named := ["internal/bytealg.MaxLen"], apart := false, narrowed := true }
def StoreNilUptoSaid : Prop := storeNilUptoRow.holds Try.pinned (OpenSpec.upto storeNilSpec)

end Rows
end Go.Proofs.Ytenihlicjahjhaa

/-
  No cell of these rows narrows 'for every input' (looked for: loops, veiled, ifaces, maps, wideKeys, modest, calm, conditions, laid).
  DERIVED. THE GIVEN ROWS OF THIS SEAT. 16 by the template 'for every input the law returns true; each argument reads behind the call as it read before'; 0 by the template 'total and deterministic' (their statements: YtidekbamlnpglaaTotals.lean).
  GIVEN WITH THE SEED: the statements are not yours to turn. If you find one false, say at which input.
  Laid BY PROGRAM, IN A SANDBOX (cutbox-rows.mjs): the forced cells as the released guide's own fill.sh prints them over the translation 83d1bf8c6f34b6c6… (all of the seat's roots in one cut). By AI agents, Wed Nov 11 2026. No macro, syntax, notation, axiom, sorry.
-/
import Derived.Test.YtidekbamlnpglaaChecked
import GoSem.Claim
import GoSem.ClaimJoined
import GoSem.ClaimMapViews
import Derived.JoinedTies
import Derived.KernelRfl
namespace Go.Proofs.Ytidekbamlnpglaa
/- THE CELL 'sum', in the pinned program and in every row, IS THE sha256 OF THE DUMP (.gsa) THAT YtidekbamlnpglaaProg.lean LOADS. Nothing in Lean hashes anything: it is a label: what it is worth is what the hold of that sum in a sandbox is worth. -/
noncomputable def Try.pinned : Pinned := { name := "ytidekbamlnpglaa", sum := "83d1bf8c6f34b6c63159842ed14c69dbbb45647e64468d36f6c2908488aa81ee", checked := Try.checked }
namespace Rows
def none {H : Type} : Left H := { results := [], args := [] }

/-- 'towncrierlaw08.ShadeWhole': WHATEVER THE INPUT: true; the input reads as it did. -/
def shadeWholeSpec : ChangeSpec := { name := "shadeWhole", fn := fun _ => fun
  | [d1, d2, d3, d4] => { results := [.lit (.bool true)], args := [d1, d2, d3, d4] }
  | _ => none }
def shadeWholeRow : OpenClaim := { program := "ytidekbamlnpglaa", sum := "83d1bf8c6f34b6c63159842ed14c69dbbb45647e64468d36f6c2908488aa81ee", func := "towncrier/towncrierlaw08.ShadeWhole", spec := "shadeWhole", apart := false }
def ShadeWholeSaid : Prop := shadeWholeRow.holds Try.pinned (OpenSpec.ofChange shadeWholeSpec)

/-- ITS FALSE NEIGHBOUR: 'it returns false'. Refute it at one input. -/
def shadeWholeWrong : ChangeSpec := { name := "shadeWhole", fn := fun _ => fun
  | [d1, d2, d3, d4] => { results := [.lit (.bool false)], args := [d1, d2, d3, d4] }
  | _ => none }
def ShadeWholeWrongFalsely : Prop := shadeWholeRow.holds Try.pinned (OpenSpec.ofChange shadeWholeWrong)

/-- 'towncrierlaw08.ShadeHidden': WHATEVER THE INPUT: true; the input reads as it did. -/
def shadeHiddenSpec : ChangeSpec := { name := "shadeHidden", fn := fun _ => fun
  | [d1, d2, d3] => { results := [.lit (.bool true)], args := [d1, d2, d3] }
  | _ => none }
def shadeHiddenRow : OpenClaim := { program := "ytidekbamlnpglaa", sum := "83d1bf8c6f34b6c63159842ed14c69dbbb45647e64468d36f6c2908488aa81ee", func := "towncrier/towncrierlaw08.ShadeHidden", spec := "shadeHidden", apart := false }
def ShadeHiddenSaid : Prop := shadeHiddenRow.holds Try.pinned (OpenSpec.ofChange shadeHiddenSpec)

/-- ITS FALSE NEIGHBOUR: 'it returns false'. Refute it at one input. -/
def shadeHiddenWrong : ChangeSpec := { name := "shadeHidden", fn := fun _ => fun
  | [d1, d2, d3] => { results := [.lit (.bool false)], args := [d1, d2, d3] }
  | _ => none }
def ShadeHiddenWrongFalsely : Prop := shadeHiddenRow.holds Try.pinned (OpenSpec.ofChange shadeHiddenWrong)

/-- 'towncrierlaw08.ShadeTells': WHATEVER THE INPUT: true; the input reads as it did. -/
def shadeTellsSpec : ChangeSpec := { name := "shadeTells", fn := fun _ => fun
  | [d1, d2, d3] => { results := [.lit (.bool true)], args := [d1, d2, d3] }
  | _ => none }
def shadeTellsRow : OpenClaim := { program := "ytidekbamlnpglaa", sum := "83d1bf8c6f34b6c63159842ed14c69dbbb45647e64468d36f6c2908488aa81ee", func := "towncrier/towncrierlaw08.ShadeTells", spec := "shadeTells", apart := false }
def ShadeTellsSaid : Prop := shadeTellsRow.holds Try.pinned (OpenSpec.ofChange shadeTellsSpec)

/-- ITS FALSE NEIGHBOUR: 'it returns false'. Refute it at one input. -/
def shadeTellsWrong : ChangeSpec := { name := "shadeTells", fn := fun _ => fun
  | [d1, d2, d3] => { results := [.lit (.bool false)], args := [d1, d2, d3] }
  | _ => none }
def ShadeTellsWrongFalsely : Prop := shadeTellsRow.holds Try.pinned (OpenSpec.ofChange shadeTellsWrong)

/-- 'towncrierlaw09.SlotOnce': WHATEVER THE INPUT: true; the input reads as it did. -/
def slotOnceSpec : ChangeSpec := { name := "slotOnce", fn := fun _ => fun
  | [d1, d2] => { results := [.lit (.bool true)], args := [d1, d2] }
  | _ => none }
def slotOnceRow : OpenClaim := { program := "ytidekbamlnpglaa", sum := "83d1bf8c6f34b6c63159842ed14c69dbbb45647e64468d36f6c2908488aa81ee", func := "towncrier/towncrierlaw09.SlotOnce", spec := "slotOnce", unfollowed := true, recurses := true, apart := false }
def SlotOnceSaid : Prop := slotOnceRow.holds Try.pinned (OpenSpec.ofChange slotOnceSpec)

/-- ITS FALSE NEIGHBOUR: 'it returns false'. Refute it at one input. -/
def slotOnceWrong : ChangeSpec := { name := "slotOnce", fn := fun _ => fun
  | [d1, d2] => { results := [.lit (.bool false)], args := [d1, d2] }
  | _ => none }
def SlotOnceWrongFalsely : Prop := slotOnceRow.holds Try.pinned (OpenSpec.ofChange slotOnceWrong)

/-- 'towncrierlaw09.SlotTells': WHATEVER THE INPUT: true; the input reads as it did. -/
def slotTellsSpec : ChangeSpec := { name := "slotTells", fn := fun _ => fun
  | [d1, d2] => { results := [.lit (.bool true)], args := [d1, d2] }
  | _ => none }
def slotTellsRow : OpenClaim := { program := "ytidekbamlnpglaa", sum := "83d1bf8c6f34b6c63159842ed14c69dbbb45647e64468d36f6c2908488aa81ee", func := "towncrier/towncrierlaw09.SlotTells", spec := "slotTells", unfollowed := true, recurses := true, apart := false }
def SlotTellsSaid : Prop := slotTellsRow.holds Try.pinned (OpenSpec.ofChange slotTellsSpec)

/-- ITS FALSE NEIGHBOUR: 'it returns false'. Refute it at one input. -/
def slotTellsWrong : ChangeSpec := { name := "slotTells", fn := fun _ => fun
  | [d1, d2] => { results := [.lit (.bool false)], args := [d1, d2] }
  | _ => none }
def SlotTellsWrongFalsely : Prop := slotTellsRow.holds Try.pinned (OpenSpec.ofChange slotTellsWrong)

/-- 'towncrierlaw09.SlotFlat': WHATEVER THE INPUT: true; the input reads as it did. -/
def slotFlatSpec : ChangeSpec := { name := "slotFlat", fn := fun _ => fun
  | [d1, d2] => { results := [.lit (.bool true)], args := [d1, d2] }
  | _ => none }
def slotFlatRow : OpenClaim := { program := "ytidekbamlnpglaa", sum := "83d1bf8c6f34b6c63159842ed14c69dbbb45647e64468d36f6c2908488aa81ee", func := "towncrier/towncrierlaw09.SlotFlat", spec := "slotFlat", unfollowed := true, recurses := true, apart := false }
def SlotFlatSaid : Prop := slotFlatRow.holds Try.pinned (OpenSpec.ofChange slotFlatSpec)

/-- ITS FALSE NEIGHBOUR: 'it returns false'. Refute it at one input. -/
def slotFlatWrong : ChangeSpec := { name := "slotFlat", fn := fun _ => fun
  | [d1, d2] => { results := [.lit (.bool false)], args := [d1, d2] }
  | _ => none }
def SlotFlatWrongFalsely : Prop := slotFlatRow.holds Try.pinned (OpenSpec.ofChange slotFlatWrong)

/-- 'towncrierlaw07.EditOrder': WHATEVER THE INPUT: true; the input reads as it did. -/
def editOrderSpec : ChangeSpec := { name := "editOrder", fn := fun _ => fun
  | [d1, d2, d3, d4] => { results := [.lit (.bool true)], args := [d1, d2, d3, d4] }
  | _ => none }
def editOrderRow : OpenClaim := { program := "ytidekbamlnpglaa", sum := "83d1bf8c6f34b6c63159842ed14c69dbbb45647e64468d36f6c2908488aa81ee", func := "towncrier/towncrierlaw07.EditOrder", spec := "editOrder", apart := false }
def EditOrderSaid : Prop := editOrderRow.holds Try.pinned (OpenSpec.ofChange editOrderSpec)

/-- ITS FALSE NEIGHBOUR: 'it returns false'. Refute it at one input. -/
def editOrderWrong : ChangeSpec := { name := "editOrder", fn := fun _ => fun
  | [d1, d2, d3, d4] => { results := [.lit (.bool false)], args := [d1, d2, d3, d4] }
  | _ => none }
def EditOrderWrongFalsely : Prop := editOrderRow.holds Try.pinned (OpenSpec.ofChange editOrderWrong)

/-- 'towncrierlaw07.EditBack': WHATEVER THE INPUT: true; the input reads as it did. -/
def editBackSpec : ChangeSpec := { name := "editBack", fn := fun _ => fun
  | [d1, d2, d3, d4] => { results := [.lit (.bool true)], args := [d1, d2, d3, d4] }
  | _ => none }
def editBackRow : OpenClaim := { program := "ytidekbamlnpglaa", sum := "83d1bf8c6f34b6c63159842ed14c69dbbb45647e64468d36f6c2908488aa81ee", func := "towncrier/towncrierlaw07.EditBack", spec := "editBack", apart := false }
def EditBackSaid : Prop := editBackRow.holds Try.pinned (OpenSpec.ofChange editBackSpec)

/-- ITS FALSE NEIGHBOUR: 'it returns false'. Refute it at one input. -/
def editBackWrong : ChangeSpec := { name := "editBack", fn := fun _ => fun
  | [d1, d2, d3, d4] => { results := [.lit (.bool false)], args := [d1, d2, d3, d4] }
  | _ => none }
def EditBackWrongFalsely : Prop := editBackRow.holds Try.pinned (OpenSpec.ofChange editBackWrong)

/-- 'towncrierlaw07.EditApart': WHATEVER THE INPUT: true; the input reads as it did. -/
def editApartSpec : ChangeSpec := { name := "editApart", fn := fun _ => fun
  | [d1, d2, d3, d4] => { results := [.lit (.bool true)], args := [d1, d2, d3, d4] }
  | _ => none }
def editApartRow : OpenClaim := { program := "ytidekbamlnpglaa", sum := "83d1bf8c6f34b6c63159842ed14c69dbbb45647e64468d36f6c2908488aa81ee", func := "towncrier/towncrierlaw07.EditApart", spec := "editApart", apart := false }
def EditApartSaid : Prop := editApartRow.holds Try.pinned (OpenSpec.ofChange editApartSpec)

/-- ITS FALSE NEIGHBOUR: 'it returns false'. Refute it at one input. -/
def editApartWrong : ChangeSpec := { name := "editApart", fn := fun _ => fun
  | [d1, d2, d3, d4] => { results := [.lit (.bool false)], args := [d1, d2, d3, d4] }
  | _ => none }
def EditApartWrongFalsely : Prop := editApartRow.holds Try.pinned (OpenSpec.ofChange editApartWrong)

/-- 'towncrierlaw07.EditPlays': WHATEVER THE INPUT: true; the input reads as it did. -/
def editPlaysSpec : ChangeSpec := { name := "editPlays", fn := fun _ => fun
  | [d1, d2] => { results := [.lit (.bool true)], args := [d1, d2] }
  | _ => none }
def editPlaysRow : OpenClaim := { program := "ytidekbamlnpglaa", sum := "83d1bf8c6f34b6c63159842ed14c69dbbb45647e64468d36f6c2908488aa81ee", func := "towncrier/towncrierlaw07.EditPlays", spec := "editPlays", apart := false }
def EditPlaysSaid : Prop := editPlaysRow.holds Try.pinned (OpenSpec.ofChange editPlaysSpec)

/-- ITS FALSE NEIGHBOUR: 'it returns false'. Refute it at one input. -/
def editPlaysWrong : ChangeSpec := { name := "editPlays", fn := fun _ => fun
  | [d1, d2] => { results := [.lit (.bool false)], args := [d1, d2] }
  | _ => none }
def EditPlaysWrongFalsely : Prop := editPlaysRow.holds Try.pinned (OpenSpec.ofChange editPlaysWrong)

/-- 'towncrierlaw14.PathTells': WHATEVER THE INPUT: true; the input reads as it did. -/
def pathTellsSpec : ChangeSpec := { name := "pathTells", fn := fun _ => fun
  | [d1, d2, d3, d4, d5] => { results := [.lit (.bool true)], args := [d1, d2, d3, d4, d5] }
  | _ => none }
def pathTellsRow : OpenClaim := { program := "ytidekbamlnpglaa", sum := "83d1bf8c6f34b6c63159842ed14c69dbbb45647e64468d36f6c2908488aa81ee", func := "towncrier/towncrierlaw14.PathTells", spec := "pathTells", unfollowed := true, recurses := true, apart := false }
def PathTellsSaid : Prop := pathTellsRow.holds Try.pinned (OpenSpec.ofChange pathTellsSpec)

/-- ITS FALSE NEIGHBOUR: 'it returns false'. Refute it at one input. -/
def pathTellsWrong : ChangeSpec := { name := "pathTells", fn := fun _ => fun
  | [d1, d2, d3, d4, d5] => { results := [.lit (.bool false)], args := [d1, d2, d3, d4, d5] }
  | _ => none }
def PathTellsWrongFalsely : Prop := pathTellsRow.holds Try.pinned (OpenSpec.ofChange pathTellsWrong)

/-- 'towncrierlaw14.PathUp': WHATEVER THE INPUT: true; the input reads as it did. -/
def pathUpSpec : ChangeSpec := { name := "pathUp", fn := fun _ => fun
  | [d1, d2, d3, d4] => { results := [.lit (.bool true)], args := [d1, d2, d3, d4] }
  | _ => none }
def pathUpRow : OpenClaim := { program := "ytidekbamlnpglaa", sum := "83d1bf8c6f34b6c63159842ed14c69dbbb45647e64468d36f6c2908488aa81ee", func := "towncrier/towncrierlaw14.PathUp", spec := "pathUp", unfollowed := true, recurses := true, apart := false }
def PathUpSaid : Prop := pathUpRow.holds Try.pinned (OpenSpec.ofChange pathUpSpec)

/-- ITS FALSE NEIGHBOUR: 'it returns false'. Refute it at one input. -/
def pathUpWrong : ChangeSpec := { name := "pathUp", fn := fun _ => fun
  | [d1, d2, d3, d4] => { results := [.lit (.bool false)], args := [d1, d2, d3, d4] }
  | _ => none }
def PathUpWrongFalsely : Prop := pathUpRow.holds Try.pinned (OpenSpec.ofChange pathUpWrong)

/-- 'towncrierlaw14.PathEnds': WHATEVER THE INPUT: true; the input reads as it did. -/
def pathEndsSpec : ChangeSpec := { name := "pathEnds", fn := fun _ => fun
  | [d1, d2, d3, d4] => { results := [.lit (.bool true)], args := [d1, d2, d3, d4] }
  | _ => none }
def pathEndsRow : OpenClaim := { program := "ytidekbamlnpglaa", sum := "83d1bf8c6f34b6c63159842ed14c69dbbb45647e64468d36f6c2908488aa81ee", func := "towncrier/towncrierlaw14.PathEnds", spec := "pathEnds", unfollowed := true, recurses := true, apart := false }
def PathEndsSaid : Prop := pathEndsRow.holds Try.pinned (OpenSpec.ofChange pathEndsSpec)

/-- ITS FALSE NEIGHBOUR: 'it returns false'. Refute it at one input. -/
def pathEndsWrong : ChangeSpec := { name := "pathEnds", fn := fun _ => fun
  | [d1, d2, d3, d4] => { results := [.lit (.bool false)], args := [d1, d2, d3, d4] }
  | _ => none }
def PathEndsWrongFalsely : Prop := pathEndsRow.holds Try.pinned (OpenSpec.ofChange pathEndsWrong)

/-- 'towncrierlaw14.PathHides': WHATEVER THE INPUT: true; the input reads as it did. -/
def pathHidesSpec : ChangeSpec := { name := "pathHides", fn := fun _ => fun
  | [d1, d2, d3, d4] => { results := [.lit (.bool true)], args := [d1, d2, d3, d4] }
  | _ => none }
def pathHidesRow : OpenClaim := { program := "ytidekbamlnpglaa", sum := "83d1bf8c6f34b6c63159842ed14c69dbbb45647e64468d36f6c2908488aa81ee", func := "towncrier/towncrierlaw14.PathHides", spec := "pathHides", unfollowed := true, recurses := true, apart := false }
def PathHidesSaid : Prop := pathHidesRow.holds Try.pinned (OpenSpec.ofChange pathHidesSpec)

/-- ITS FALSE NEIGHBOUR: 'it returns false'. Refute it at one input. -/
def pathHidesWrong : ChangeSpec := { name := "pathHides", fn := fun _ => fun
  | [d1, d2, d3, d4] => { results := [.lit (.bool false)], args := [d1, d2, d3, d4] }
  | _ => none }
def PathHidesWrongFalsely : Prop := pathHidesRow.holds Try.pinned (OpenSpec.ofChange pathHidesWrong)

/-- 'towncrierlaw15.SeeHides': WHATEVER THE INPUT: true; the input reads as it did. -/
def seeHidesSpec : ChangeSpec := { name := "seeHides", fn := fun _ => fun
  | [d1, d2, d3, d4] => { results := [.lit (.bool true)], args := [d1, d2, d3, d4] }
  | _ => none }
def seeHidesRow : OpenClaim := { program := "ytidekbamlnpglaa", sum := "83d1bf8c6f34b6c63159842ed14c69dbbb45647e64468d36f6c2908488aa81ee", func := "towncrier/towncrierlaw15.SeeHides", spec := "seeHides", unfollowed := true, recurses := true, apart := false }
def SeeHidesSaid : Prop := seeHidesRow.holds Try.pinned (OpenSpec.ofChange seeHidesSpec)

/-- ITS FALSE NEIGHBOUR: 'it returns false'. Refute it at one input. -/
def seeHidesWrong : ChangeSpec := { name := "seeHides", fn := fun _ => fun
  | [d1, d2, d3, d4] => { results := [.lit (.bool false)], args := [d1, d2, d3, d4] }
  | _ => none }
def SeeHidesWrongFalsely : Prop := seeHidesRow.holds Try.pinned (OpenSpec.ofChange seeHidesWrong)

/-- 'towncrierlaw15.SeeNested': WHATEVER THE INPUT: true; the input reads as it did. -/
def seeNestedSpec : ChangeSpec := { name := "seeNested", fn := fun _ => fun
  | [d1, d2, d3] => { results := [.lit (.bool true)], args := [d1, d2, d3] }
  | _ => none }
def seeNestedRow : OpenClaim := { program := "ytidekbamlnpglaa", sum := "83d1bf8c6f34b6c63159842ed14c69dbbb45647e64468d36f6c2908488aa81ee", func := "towncrier/towncrierlaw15.SeeNested", spec := "seeNested", unfollowed := true, recurses := true, apart := false }
def SeeNestedSaid : Prop := seeNestedRow.holds Try.pinned (OpenSpec.ofChange seeNestedSpec)

/-- ITS FALSE NEIGHBOUR: 'it returns false'. Refute it at one input. -/
def seeNestedWrong : ChangeSpec := { name := "seeNested", fn := fun _ => fun
  | [d1, d2, d3] => { results := [.lit (.bool false)], args := [d1, d2, d3] }
  | _ => none }
def SeeNestedWrongFalsely : Prop := seeNestedRow.holds Try.pinned (OpenSpec.ofChange seeNestedWrong)

/- THE SECOND FORM. 'bulk': how many values and letters a reading holds, each counted each time it is reached (what is shared counts as often as it is met; a slice's spare places count too). A statement '..UptoSaid' is the law's where the arguments, and the package variables that the reading takes, are together of bulk at most 1048576: NARROWER than '..Said'. Prove '..Said' where nothing that the law and all that it calls make is longer than what came in: it says more and counts as full. Else prove '..UptoSaid'. A law counts once. -/
mutual
def uptoBulk {H : Type} : DataW H → Nat
  | .lit (.string bytes) => bytes.length + 1
  | .lit _ => 1
  | .nil => 1
  | .ptr d => uptoBulk d + 1
  | .slice elems spare => uptoBulkAll elems + uptoBulkAll spare + 1
  | .agg parts => uptoBulkAll parts + 1
  | .iface _ d => uptoBulk d + 1
  | .map entries => uptoBulkEntries entries + 1
  | .held _ => 1
def uptoBulkAll {H : Type} : List (DataW H) → Nat
  | [] => 0
  | d :: r => uptoBulk d + uptoBulkAll r
def uptoBulkEntries {H : Type} : List (Lit × DataW H) → Nat
  | [] => 0
  | x :: r => uptoBulkEntry x + uptoBulkEntries r
def uptoBulkEntry {H : Type} : Lit × DataW H → Nat
  | (.string bytes, d) => bytes.length + uptoBulk d + 1
  | (_, d) => uptoBulk d + 1
 end
def uptoSmall : (H : Type) → List (DataW H) → Bool := fun _ ds => decide (uptoBulkAll ds ≤ 1048576)
def OpenSpec.upto (s : _root_.Go.ChangeSpec) : _root_.Go.OpenSpec := { _root_.Go.OpenSpec.ofChange s with cond := some uptoSmall }

/-- 'towncrierlaw08.ShadeWhole', WHERE WHAT IT READS IS OF BULK AT MOST 1048576: true; the input reads as it did. -/
def shadeWholeUptoRow : OpenClaim := { program := "ytidekbamlnpglaa", sum := "83d1bf8c6f34b6c63159842ed14c69dbbb45647e64468d36f6c2908488aa81ee", func := "towncrier/towncrierlaw08.ShadeWhole", spec := "shadeWhole", apart := false, narrowed := true }
def ShadeWholeUptoSaid : Prop := shadeWholeUptoRow.holds Try.pinned (OpenSpec.upto shadeWholeSpec)

/-- 'towncrierlaw08.ShadeHidden', WHERE WHAT IT READS IS OF BULK AT MOST 1048576: true; the input reads as it did. -/
def shadeHiddenUptoRow : OpenClaim := { program := "ytidekbamlnpglaa", sum := "83d1bf8c6f34b6c63159842ed14c69dbbb45647e64468d36f6c2908488aa81ee", func := "towncrier/towncrierlaw08.ShadeHidden", spec := "shadeHidden", apart := false, narrowed := true }
def ShadeHiddenUptoSaid : Prop := shadeHiddenUptoRow.holds Try.pinned (OpenSpec.upto shadeHiddenSpec)

/-- 'towncrierlaw08.ShadeTells', WHERE WHAT IT READS IS OF BULK AT MOST 1048576: true; the input reads as it did. -/
def shadeTellsUptoRow : OpenClaim := { program := "ytidekbamlnpglaa", sum := "83d1bf8c6f34b6c63159842ed14c69dbbb45647e64468d36f6c2908488aa81ee", func := "towncrier/towncrierlaw08.ShadeTells", spec := "shadeTells", apart := false, narrowed := true }
def ShadeTellsUptoSaid : Prop := shadeTellsUptoRow.holds Try.pinned (OpenSpec.upto shadeTellsSpec)

/-- 'towncrierlaw09.SlotOnce', WHERE WHAT IT READS IS OF BULK AT MOST 1048576: true; the input reads as it did. -/
def slotOnceUptoRow : OpenClaim := { program := "ytidekbamlnpglaa", sum := "83d1bf8c6f34b6c63159842ed14c69dbbb45647e64468d36f6c2908488aa81ee", func := "towncrier/towncrierlaw09.SlotOnce", spec := "slotOnce", unfollowed := true, recurses := true, apart := false, narrowed := true }
def SlotOnceUptoSaid : Prop := slotOnceUptoRow.holds Try.pinned (OpenSpec.upto slotOnceSpec)

/-- 'towncrierlaw09.SlotTells', WHERE WHAT IT READS IS OF BULK AT MOST 1048576: true; the input reads as it did. -/
def slotTellsUptoRow : OpenClaim := { program := "ytidekbamlnpglaa", sum := "83d1bf8c6f34b6c63159842ed14c69dbbb45647e64468d36f6c2908488aa81ee", func := "towncrier/towncrierlaw09.SlotTells", spec := "slotTells", unfollowed := true, recurses := true, apart := false, narrowed := true }
def SlotTellsUptoSaid : Prop := slotTellsUptoRow.holds Try.pinned (OpenSpec.upto slotTellsSpec)

/-- 'towncrierlaw09.SlotFlat', WHERE WHAT IT READS IS OF BULK AT MOST 1048576: true; the input reads as it did. -/
def slotFlatUptoRow : OpenClaim := { program := "ytidekbamlnpglaa", sum := "83d1bf8c6f34b6c63159842ed14c69dbbb45647e64468d36f6c2908488aa81ee", func := "towncrier/towncrierlaw09.SlotFlat", spec := "slotFlat", unfollowed := true, recurses := true, apart := false, narrowed := true }
def SlotFlatUptoSaid : Prop := slotFlatUptoRow.holds Try.pinned (OpenSpec.upto slotFlatSpec)

/-- 'towncrierlaw07.EditOrder', WHERE WHAT IT READS IS OF BULK AT MOST 1048576: true; the input reads as it did. -/
def editOrderUptoRow : OpenClaim := { program := "ytidekbamlnpglaa", sum := "83d1bf8c6f34b6c63159842ed14c69dbbb45647e64468d36f6c2908488aa81ee", func := "towncrier/towncrierlaw07.EditOrder", spec := "editOrder", apart := false, narrowed := true }
def EditOrderUptoSaid : Prop := editOrderUptoRow.holds Try.pinned (OpenSpec.upto editOrderSpec)

/-- 'towncrierlaw07.EditBack', WHERE WHAT IT READS IS OF BULK AT MOST 1048576: true; the input reads as it did. -/
def editBackUptoRow : OpenClaim := { program := "ytidekbamlnpglaa", sum := "83d1bf8c6f34b6c63159842ed14c69dbbb45647e64468d36f6c2908488aa81ee", func := "towncrier/towncrierlaw07.EditBack", spec := "editBack", apart := false, narrowed := true }
def EditBackUptoSaid : Prop := editBackUptoRow.holds Try.pinned (OpenSpec.upto editBackSpec)

/-- 'towncrierlaw07.EditApart', WHERE WHAT IT READS IS OF BULK AT MOST 1048576: true; the input reads as it did. -/
def editApartUptoRow : OpenClaim := { program := "ytidekbamlnpglaa", sum := "83d1bf8c6f34b6c63159842ed14c69dbbb45647e64468d36f6c2908488aa81ee", func := "towncrier/towncrierlaw07.EditApart", spec := "editApart", apart := false, narrowed := true }
def EditApartUptoSaid : Prop := editApartUptoRow.holds Try.pinned (OpenSpec.upto editApartSpec)

/-- 'towncrierlaw07.EditPlays', WHERE WHAT IT READS IS OF BULK AT MOST 1048576: true; the input reads as it did. -/
def editPlaysUptoRow : OpenClaim := { program := "ytidekbamlnpglaa", sum := "83d1bf8c6f34b6c63159842ed14c69dbbb45647e64468d36f6c2908488aa81ee", func := "towncrier/towncrierlaw07.EditPlays", spec := "editPlays", apart := false, narrowed := true }
def EditPlaysUptoSaid : Prop := editPlaysUptoRow.holds Try.pinned (OpenSpec.upto editPlaysSpec)

/-- 'towncrierlaw14.PathTells', WHERE WHAT IT READS IS OF BULK AT MOST 1048576: true; the input reads as it did. -/
def pathTellsUptoRow : OpenClaim := { program := "ytidekbamlnpglaa", sum := "83d1bf8c6f34b6c63159842ed14c69dbbb45647e64468d36f6c2908488aa81ee", func := "towncrier/towncrierlaw14.PathTells", spec := "pathTells", unfollowed := true, recurses := true, apart := false, narrowed := true }
def PathTellsUptoSaid : Prop := pathTellsUptoRow.holds Try.pinned (OpenSpec.upto pathTellsSpec)

/-- 'towncrierlaw14.PathUp', WHERE WHAT IT READS IS OF BULK AT MOST 1048576: true; the input reads as it did. -/
def pathUpUptoRow : OpenClaim := { program := "ytidekbamlnpglaa", sum := "83d1bf8c6f34b6c63159842ed14c69dbbb45647e64468d36f6c2908488aa81ee", func := "towncrier/towncrierlaw14.PathUp", spec := "pathUp", unfollowed := true, recurses := true, apart := false, narrowed := true }
def PathUpUptoSaid : Prop := pathUpUptoRow.holds Try.pinned (OpenSpec.upto pathUpSpec)

/-- 'towncrierlaw14.PathEnds', WHERE WHAT IT READS IS OF BULK AT MOST 1048576: true; the input reads as it did. -/
def pathEndsUptoRow : OpenClaim := { program := "ytidekbamlnpglaa", sum := "83d1bf8c6f34b6c63159842ed14c69dbbb45647e64468d36f6c2908488aa81ee", func := "towncrier/towncrierlaw14.PathEnds", spec := "pathEnds", unfollowed := true, recurses := true, apart := false, narrowed := true }
def PathEndsUptoSaid : Prop := pathEndsUptoRow.holds Try.pinned (OpenSpec.upto pathEndsSpec)

/-- 'towncrierlaw14.PathHides', WHERE WHAT IT READS IS OF BULK AT MOST 1048576: true; the input reads as it did. -/
def pathHidesUptoRow : OpenClaim := { program := "ytidekbamlnpglaa", sum := "83d1bf8c6f34b6c63159842ed14c69dbbb45647e64468d36f6c2908488aa81ee", func := "towncrier/towncrierlaw14.PathHides", spec := "pathHides", unfollowed := true, recurses := true, apart := false, narrowed := true }
def PathHidesUptoSaid : Prop := pathHidesUptoRow.holds Try.pinned (OpenSpec.upto pathHidesSpec)

/-- 'towncrierlaw15.SeeHides', WHERE WHAT IT READS IS OF BULK AT MOST 1048576: true; the input reads as it did. -/
def seeHidesUptoRow : OpenClaim := { program := "ytidekbamlnpglaa", sum := "83d1bf8c6f34b6c63159842ed14c69dbbb45647e64468d36f6c2908488aa81ee", func := "towncrier/towncrierlaw15.SeeHides", spec := "seeHides", unfollowed := true, recurses := true, apart := false, narrowed := true }
def SeeHidesUptoSaid : Prop := seeHidesUptoRow.holds Try.pinned (OpenSpec.upto seeHidesSpec)

/-- 'towncrierlaw15.SeeNested', WHERE WHAT IT READS IS OF BULK AT MOST 1048576: true; the input reads as it did. -/
def seeNestedUptoRow : OpenClaim := { program := "ytidekbamlnpglaa", sum := "83d1bf8c6f34b6c63159842ed14c69dbbb45647e64468d36f6c2908488aa81ee", func := "towncrier/towncrierlaw15.SeeNested", spec := "seeNested", unfollowed := true, recurses := true, apart := false, narrowed := true }
def SeeNestedUptoSaid : Prop := seeNestedUptoRow.holds Try.pinned (OpenSpec.upto seeNestedSpec)

end Rows
end Go.Proofs.Ytidekbamlnpglaa

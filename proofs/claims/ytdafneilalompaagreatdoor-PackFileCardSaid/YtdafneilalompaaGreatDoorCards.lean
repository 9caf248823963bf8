/-
  DERIVED. GIVEN WITH THE SEED: THE CARDS: each row of YtdafneilalompaaGreatDoorRows.lean that lists a variable, with what it lists TIED to the program's text (the seventh form; the later family's looks); each row that meets fmt, with fmt's text TOLD by the authors' own Lean function (tested against real Go, not proved from fmt's source: count such statements apart). THE CARD IS WHAT COUNTS. Prove the row's statement (the work); the ties are given (YtdafneilalompaaGreatDoorTie.lean); close each card by the builder's one call (the guide's Derived/Test/ToyasCard.lean, 'card_holds'). Laid BY PROGRAM, IN A SANDBOX (cutbox-door.mjs). By AI agents, Wed Nov 11 2026. No macro, syntax, notation, axiom, sorry.
-/
import Derived.Test.YtdafneilalompaaGreatDoorRows
import GoSem.ClaimSeven
namespace Go.Proofs.YtdafneilalompaaGreatDoor
namespace Rows

/-- THE TIED CARD OF 'bolelaw24.PackTrees'. -/
def packTreesCard : Claim7 := { stood := { row := packTreesRow, standIns := [], harness := (true, "3db41af93e9bc0440804fa535bf253c187e2dfa439eb1456254936fbf4536175"), looks := true }, kinds := [], alts := [], laidByText := true, laidKinds := [.data, .pinned], laidTests := true, laidLooks := .later }
def PackTreesCardSaid : Prop := Claim7.holds Tryz.pinned (.plain (OpenSpec.ofChange packTreesSpec)) packTreesCard

/-- THE TIED CARD OF 'bolelaw24.PackFile'. -/
def packFileCard : Claim7 := { stood := { row := packFileRow, standIns := [], harness := (true, "3db41af93e9bc0440804fa535bf253c187e2dfa439eb1456254936fbf4536175"), looks := true }, kinds := [], alts := [], laidByText := true, laidKinds := [.data, .pinned], laidTests := true, laidLooks := .later }
def PackFileCardSaid : Prop := Claim7.holds Tryz.pinned (.plain (OpenSpec.ofChange packFileSpec)) packFileCard

/-- THE TIED CARD OF 'bolelaw24.PackPuts'. -/
def packPutsCard : Claim7 := { stood := { row := packPutsRow, standIns := [], harness := (true, "3db41af93e9bc0440804fa535bf253c187e2dfa439eb1456254936fbf4536175"), looks := true }, kinds := [], alts := [], laidByText := true, laidKinds := [.data, .pinned], laidTests := true, laidLooks := .later }
def PackPutsCardSaid : Prop := Claim7.holds Tryz.pinned (.plain (OpenSpec.ofChange packPutsSpec)) packPutsCard

/-- THE TIED CARD OF 'bolelaw24.PackThere'. -/
def packThereCard : Claim7 := { stood := { row := packThereRow, standIns := [], harness := (true, "3db41af93e9bc0440804fa535bf253c187e2dfa439eb1456254936fbf4536175"), looks := true }, kinds := [], alts := [], laidByText := true, laidKinds := [.data, .data, .data, .pinned], laidTests := true, laidLooks := .later }
def PackThereCardSaid : Prop := Claim7.holds Tryz.pinned (.plain (OpenSpec.ofChange packThereSpec)) packThereCard

/-- THE SECOND FORM's CARD OF 'bolelaw24.PackTrees'. -/
def packTreesUptoCard : Claim7 := { stood := { row := packTreesUptoRow, standIns := [], harness := (true, "3db41af93e9bc0440804fa535bf253c187e2dfa439eb1456254936fbf4536175"), looks := true }, kinds := [], alts := [], laidByText := true, laidKinds := [.data, .pinned], laidTests := true, laidLooks := .later }
def PackTreesUptoCardSaid : Prop := Claim7.holds Tryz.pinned (.plain (OpenSpec.upto packTreesSpec)) packTreesUptoCard

/-- THE SECOND FORM's CARD OF 'bolelaw24.PackFile'. -/
def packFileUptoCard : Claim7 := { stood := { row := packFileUptoRow, standIns := [], harness := (true, "3db41af93e9bc0440804fa535bf253c187e2dfa439eb1456254936fbf4536175"), looks := true }, kinds := [], alts := [], laidByText := true, laidKinds := [.data, .pinned], laidTests := true, laidLooks := .later }
def PackFileUptoCardSaid : Prop := Claim7.holds Tryz.pinned (.plain (OpenSpec.upto packFileSpec)) packFileUptoCard

/-- THE SECOND FORM's CARD OF 'bolelaw24.PackPuts'. -/
def packPutsUptoCard : Claim7 := { stood := { row := packPutsUptoRow, standIns := [], harness := (true, "3db41af93e9bc0440804fa535bf253c187e2dfa439eb1456254936fbf4536175"), looks := true }, kinds := [], alts := [], laidByText := true, laidKinds := [.data, .pinned], laidTests := true, laidLooks := .later }
def PackPutsUptoCardSaid : Prop := Claim7.holds Tryz.pinned (.plain (OpenSpec.upto packPutsSpec)) packPutsUptoCard

/-- THE SECOND FORM's CARD OF 'bolelaw24.PackThere'. -/
def packThereUptoCard : Claim7 := { stood := { row := packThereUptoRow, standIns := [], harness := (true, "3db41af93e9bc0440804fa535bf253c187e2dfa439eb1456254936fbf4536175"), looks := true }, kinds := [], alts := [], laidByText := true, laidKinds := [.data, .data, .data, .pinned], laidTests := true, laidLooks := .later }
def PackThereUptoCardSaid : Prop := Claim7.holds Tryz.pinned (.plain (OpenSpec.upto packThereSpec)) packThereUptoCard
end Rows
end Go.Proofs.YtdafneilalompaaGreatDoor

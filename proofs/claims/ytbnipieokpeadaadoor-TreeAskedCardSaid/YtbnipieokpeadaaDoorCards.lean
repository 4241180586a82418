/-
  DERIVED. GIVEN WITH THE SEED: THE CARDS: each row of YtbnipieokpeadaaDoorRows.lean that lists a variable, with what it lists TIED to the program's text (the seventh form; the later family's looks); each row that meets fmt, with fmt's text TOLD by the authors' own Lean function (tested against real Go, not proved from fmt's source: count such statements apart). THE CARD IS WHAT COUNTS. Prove the row's statement (the work); the ties are given (YtbnipieokpeadaaDoorTie.lean); close each card by the builder's one call (the guide's Derived/Test/ToyasCard.lean, 'card_holds'). Laid BY PROGRAM, IN A SANDBOX (cutbox-door.mjs). By AI agents, Wed Nov 11 2026. No macro, syntax, notation, axiom, sorry.
-/
import Derived.Test.YtbnipieokpeadaaDoorRows
import GoSem.ClaimSeven
namespace Go.Proofs.YtbnipieokpeadaaDoor
namespace Rows

/-- THE TIED CARD OF 'holtlaw07.TreeLast'. -/
def treeLastCard : Claim7 := { stood := { row := treeLastRow, standIns := [], harness := (true, "cc3dc273b25829ddc3bca0788de61832e3aee0bafb55e2a0512b52fe897a5032"), looks := true }, kinds := [], alts := [], laidByText := true, laidKinds := [.data, .pinned], laidTests := true, laidLooks := .later }
def TreeLastCardSaid : Prop := Claim7.holds Tryd.pinned (.plain (OpenSpec.ofChange treeLastSpec)) treeLastCard

/-- THE TIED CARD OF 'holtlaw07.TreeAsked'. -/
def treeAskedCard : Claim7 := { stood := { row := treeAskedRow, standIns := [], harness := (true, "cc3dc273b25829ddc3bca0788de61832e3aee0bafb55e2a0512b52fe897a5032"), looks := true }, kinds := [], alts := [], laidByText := true, laidKinds := [.data, .pinned], laidTests := true, laidLooks := .later }
def TreeAskedCardSaid : Prop := Claim7.holds Tryd.pinned (.plain (OpenSpec.ofChange treeAskedSpec)) treeAskedCard

/-- THE TIED CARD OF 'holtlaw07.TreeUp'. -/
def treeUpCard : Claim7 := { stood := { row := treeUpRow, standIns := [], harness := (true, "cc3dc273b25829ddc3bca0788de61832e3aee0bafb55e2a0512b52fe897a5032"), looks := true }, kinds := [], alts := [], laidByText := true, laidKinds := [.data, .pinned], laidTests := true, laidLooks := .later }
def TreeUpCardSaid : Prop := Claim7.holds Tryd.pinned (.plain (OpenSpec.ofChange treeUpSpec)) treeUpCard

/-- THE TIED CARD OF 'holtlaw07.TreeMoves'. -/
def treeMovesCard : Claim7 := { stood := { row := treeMovesRow, standIns := [], harness := (true, "cc3dc273b25829ddc3bca0788de61832e3aee0bafb55e2a0512b52fe897a5032"), looks := true }, kinds := [], alts := [], laidByText := true, laidKinds := [.data, .pinned], laidTests := true, laidLooks := .later }
def TreeMovesCardSaid : Prop := Claim7.holds Tryd.pinned (.plain (OpenSpec.ofChange treeMovesSpec)) treeMovesCard

/-- THE TIED CARD OF 'holtlaw07.TreePaths'. -/
def treePathsCard : Claim7 := { stood := { row := treePathsRow, standIns := [], harness := (true, "cc3dc273b25829ddc3bca0788de61832e3aee0bafb55e2a0512b52fe897a5032"), looks := true }, kinds := [], alts := [], laidByText := true, laidKinds := [.data, .pinned], laidTests := true, laidLooks := .later }
def TreePathsCardSaid : Prop := Claim7.holds Tryd.pinned (.plain (OpenSpec.ofChange treePathsSpec)) treePathsCard

/-- THE TIED CARD OF 'holtlaw07.TreeUndone'. -/
def treeUndoneCard : Claim7 := { stood := { row := treeUndoneRow, standIns := [], harness := (true, "cc3dc273b25829ddc3bca0788de61832e3aee0bafb55e2a0512b52fe897a5032"), looks := true }, kinds := [], alts := [], laidByText := true, laidKinds := [.data, .pinned], laidTests := true, laidLooks := .later }
def TreeUndoneCardSaid : Prop := Claim7.holds Tryd.pinned (.plain (OpenSpec.ofChange treeUndoneSpec)) treeUndoneCard

/-- THE TIED CARD OF 'holtlaw07.TreePlays'. -/
def treePlaysCard : Claim7 := { stood := { row := treePlaysRow, standIns := [], harness := (true, "cc3dc273b25829ddc3bca0788de61832e3aee0bafb55e2a0512b52fe897a5032"), looks := true }, kinds := [], alts := [], laidByText := true, laidKinds := [.data, .pinned], laidTests := true, laidLooks := .later }
def TreePlaysCardSaid : Prop := Claim7.holds Tryd.pinned (.plain (OpenSpec.ofChange treePlaysSpec)) treePlaysCard

/-- THE TIED CARD OF 'holtlaw07.TreeClones'. -/
def treeClonesCard : Claim7 := { stood := { row := treeClonesRow, standIns := [], harness := (true, "cc3dc273b25829ddc3bca0788de61832e3aee0bafb55e2a0512b52fe897a5032"), looks := true }, kinds := [], alts := [], laidByText := true, laidKinds := [.data, .pinned], laidTests := true, laidLooks := .later }
def TreeClonesCardSaid : Prop := Claim7.holds Tryd.pinned (.plain (OpenSpec.ofChange treeClonesSpec)) treeClonesCard

/-- THE SECOND FORM's CARD OF 'holtlaw07.TreeLast'. -/
def treeLastUptoCard : Claim7 := { stood := { row := treeLastUptoRow, standIns := [], harness := (true, "cc3dc273b25829ddc3bca0788de61832e3aee0bafb55e2a0512b52fe897a5032"), looks := true }, kinds := [], alts := [], laidByText := true, laidKinds := [.data, .pinned], laidTests := true, laidLooks := .later }
def TreeLastUptoCardSaid : Prop := Claim7.holds Tryd.pinned (.plain (OpenSpec.upto treeLastSpec)) treeLastUptoCard

/-- THE SECOND FORM's CARD OF 'holtlaw07.TreeAsked'. -/
def treeAskedUptoCard : Claim7 := { stood := { row := treeAskedUptoRow, standIns := [], harness := (true, "cc3dc273b25829ddc3bca0788de61832e3aee0bafb55e2a0512b52fe897a5032"), looks := true }, kinds := [], alts := [], laidByText := true, laidKinds := [.data, .pinned], laidTests := true, laidLooks := .later }
def TreeAskedUptoCardSaid : Prop := Claim7.holds Tryd.pinned (.plain (OpenSpec.upto treeAskedSpec)) treeAskedUptoCard

/-- THE SECOND FORM's CARD OF 'holtlaw07.TreeUp'. -/
def treeUpUptoCard : Claim7 := { stood := { row := treeUpUptoRow, standIns := [], harness := (true, "cc3dc273b25829ddc3bca0788de61832e3aee0bafb55e2a0512b52fe897a5032"), looks := true }, kinds := [], alts := [], laidByText := true, laidKinds := [.data, .pinned], laidTests := true, laidLooks := .later }
def TreeUpUptoCardSaid : Prop := Claim7.holds Tryd.pinned (.plain (OpenSpec.upto treeUpSpec)) treeUpUptoCard

/-- THE SECOND FORM's CARD OF 'holtlaw07.TreeMoves'. -/
def treeMovesUptoCard : Claim7 := { stood := { row := treeMovesUptoRow, standIns := [], harness := (true, "cc3dc273b25829ddc3bca0788de61832e3aee0bafb55e2a0512b52fe897a5032"), looks := true }, kinds := [], alts := [], laidByText := true, laidKinds := [.data, .pinned], laidTests := true, laidLooks := .later }
def TreeMovesUptoCardSaid : Prop := Claim7.holds Tryd.pinned (.plain (OpenSpec.upto treeMovesSpec)) treeMovesUptoCard

/-- THE SECOND FORM's CARD OF 'holtlaw07.TreePaths'. -/
def treePathsUptoCard : Claim7 := { stood := { row := treePathsUptoRow, standIns := [], harness := (true, "cc3dc273b25829ddc3bca0788de61832e3aee0bafb55e2a0512b52fe897a5032"), looks := true }, kinds := [], alts := [], laidByText := true, laidKinds := [.data, .pinned], laidTests := true, laidLooks := .later }
def TreePathsUptoCardSaid : Prop := Claim7.holds Tryd.pinned (.plain (OpenSpec.upto treePathsSpec)) treePathsUptoCard

/-- THE SECOND FORM's CARD OF 'holtlaw07.TreeUndone'. -/
def treeUndoneUptoCard : Claim7 := { stood := { row := treeUndoneUptoRow, standIns := [], harness := (true, "cc3dc273b25829ddc3bca0788de61832e3aee0bafb55e2a0512b52fe897a5032"), looks := true }, kinds := [], alts := [], laidByText := true, laidKinds := [.data, .pinned], laidTests := true, laidLooks := .later }
def TreeUndoneUptoCardSaid : Prop := Claim7.holds Tryd.pinned (.plain (OpenSpec.upto treeUndoneSpec)) treeUndoneUptoCard

/-- THE SECOND FORM's CARD OF 'holtlaw07.TreePlays'. -/
def treePlaysUptoCard : Claim7 := { stood := { row := treePlaysUptoRow, standIns := [], harness := (true, "cc3dc273b25829ddc3bca0788de61832e3aee0bafb55e2a0512b52fe897a5032"), looks := true }, kinds := [], alts := [], laidByText := true, laidKinds := [.data, .pinned], laidTests := true, laidLooks := .later }
def TreePlaysUptoCardSaid : Prop := Claim7.holds Tryd.pinned (.plain (OpenSpec.upto treePlaysSpec)) treePlaysUptoCard

/-- THE SECOND FORM's CARD OF 'holtlaw07.TreeClones'. -/
def treeClonesUptoCard : Claim7 := { stood := { row := treeClonesUptoRow, standIns := [], harness := (true, "cc3dc273b25829ddc3bca0788de61832e3aee0bafb55e2a0512b52fe897a5032"), looks := true }, kinds := [], alts := [], laidByText := true, laidKinds := [.data, .pinned], laidTests := true, laidLooks := .later }
def TreeClonesUptoCardSaid : Prop := Claim7.holds Tryd.pinned (.plain (OpenSpec.upto treeClonesSpec)) treeClonesUptoCard
end Rows
end Go.Proofs.YtbnipieokpeadaaDoor

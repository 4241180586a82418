/-
  NARROWER THAN 'FOR EVERY INPUT', by the rows' own cells (each row's printed sentence says how): TreeLast: laid · TreeAsked: laid · TreeUp: laid · TreeMoves: laid · TreePaths: laid · TreeUndone: laid · TreePlays: laid · TreeClones: laid.
  DERIVED. THE GIVEN ROWS OF THIS SEAT. 8 by the template 'for every input the law returns true; each argument reads behind the call as it read before'; 0 by the template 'total and deterministic' (their statements: YtbnipieokpeadaaDoorTotals.lean).
  GIVEN WITH THE SEED: the statements are not yours to turn. If you find one false, say at which input.
  Laid BY PROGRAM, IN A SANDBOX (cutbox-rows.mjs): the forced cells as the released guide's own fill.sh prints them over the translation 7705d259e86876cd… (all of the seat's roots in one cut). By AI agents, Wed Nov 11 2026. No macro, syntax, notation, axiom, sorry.
-/
import Derived.Test.YtbnipieokpeadaaDoorChecked
import GoSem.PinnedTables
import GoSem.Claim
import GoSem.ClaimJoined
import GoSem.ClaimMapViews
import Derived.JoinedTies
import Derived.KernelRfl
namespace Go.Proofs.YtbnipieokpeadaaDoor
/- THE CELL 'sum', in the pinned program and in every row, IS THE sha256 OF THE DUMP (.gsa) THAT YtbnipieokpeadaaDoorProg.lean LOADS. Nothing in Lean hashes anything: it is a label: what it is worth is what the hold of that sum in a sandbox is worth. -/
noncomputable def Tryd.pinned : Pinned := { name := "ytbnipieokpeadaadoor", sum := "7705d259e86876cde9e9ef387c0e199b3f5b125043632886dc24f8c2fbbce495", checked := Tryd.checked }
namespace Rows
def none {H : Type} : Left H := { results := [], args := [] }

/- WHAT THE LISTED PACKAGE-LEVEL VARIABLES READ AS WHEN THE CALL BEGINS. Each datum BY PROGRAM (the guide's laid-datum.mjs) off the statement by which the dump's own 'gosem.cut.vars' lays the variable. In a bare row this is a premise. The card (YtbnipieokpeadaaDoorCards.lean) ties it to the program's text. -/
def laid_unicode_utf8_acceptRanges {H : Type} : DataW H := .agg [.agg [.lit (.int .u8 128), .lit (.int .u8 191)], .agg [.lit (.int .u8 160), .lit (.int .u8 191)], .agg [.lit (.int .u8 128), .lit (.int .u8 159)], .agg [.lit (.int .u8 144), .lit (.int .u8 191)], .agg [.lit (.int .u8 128), .lit (.int .u8 143)], .agg [.lit (.int .u8 0), .lit (.int .u8 0)], .agg [.lit (.int .u8 0), .lit (.int .u8 0)], .agg [.lit (.int .u8 0), .lit (.int .u8 0)], .agg [.lit (.int .u8 0), .lit (.int .u8 0)], .agg [.lit (.int .u8 0), .lit (.int .u8 0)], .agg [.lit (.int .u8 0), .lit (.int .u8 0)], .agg [.lit (.int .u8 0), .lit (.int .u8 0)], .agg [.lit (.int .u8 0), .lit (.int .u8 0)], .agg [.lit (.int .u8 0), .lit (.int .u8 0)], .agg [.lit (.int .u8 0), .lit (.int .u8 0)], .agg [.lit (.int .u8 0), .lit (.int .u8 0)]]
/-- One of Go's own tables, pinned by name: the form's constant. -/
def laid_unicode_utf8_first : DataW Unit := Go.Pinned.utf8First

/-- 'holtlaw07.TreeLast': WHATEVER THE INPUT: true; the input reads as it did. -/
def treeLastSpec : ChangeSpec := { name := "treeLast", fn := fun _ => fun
  | [d1, d2] => { results := [.lit (.bool true)], args := [d1, d2] }
  | _ => none }
def treeLastRow : OpenClaim := { program := "ytbnipieokpeadaadoor", sum := "7705d259e86876cde9e9ef387c0e199b3f5b125043632886dc24f8c2fbbce495", func := "holt/holtlaw07.TreeLast", spec := "treeLast", inPlace := ["internal/bytealg.CountString", "internal/bytealg.IndexByteString", "internal/bytealg.IndexString"], unfollowed := true, recurses := true, named := ["unicode/utf8.first", "unicode/utf8.acceptRanges", "internal/bytealg.MaxLen"], apart := false, laid := [("unicode/utf8.acceptRanges", laid_unicode_utf8_acceptRanges), ("unicode/utf8.first", laid_unicode_utf8_first)] }
def TreeLastSaid : Prop := treeLastRow.holds Tryd.pinned (OpenSpec.ofChange treeLastSpec)

/-- ITS FALSE NEIGHBOUR: 'it returns false'. Refute it at one input. -/
def treeLastWrong : ChangeSpec := { name := "treeLast", fn := fun _ => fun
  | [d1, d2] => { results := [.lit (.bool false)], args := [d1, d2] }
  | _ => none }
def TreeLastWrongFalsely : Prop := treeLastRow.holds Tryd.pinned (OpenSpec.ofChange treeLastWrong)

/-- 'holtlaw07.TreeAsked': WHATEVER THE INPUT: true; the input reads as it did. -/
def treeAskedSpec : ChangeSpec := { name := "treeAsked", fn := fun _ => fun
  | [d1, d2, d3, d4] => { results := [.lit (.bool true)], args := [d1, d2, d3, d4] }
  | _ => none }
def treeAskedRow : OpenClaim := { program := "ytbnipieokpeadaadoor", sum := "7705d259e86876cde9e9ef387c0e199b3f5b125043632886dc24f8c2fbbce495", func := "holt/holtlaw07.TreeAsked", spec := "treeAsked", inPlace := ["internal/bytealg.CountString", "internal/bytealg.IndexByteString", "internal/bytealg.IndexString"], unfollowed := true, recurses := true, named := ["unicode/utf8.first", "unicode/utf8.acceptRanges", "internal/bytealg.MaxLen"], apart := false, laid := [("unicode/utf8.acceptRanges", laid_unicode_utf8_acceptRanges), ("unicode/utf8.first", laid_unicode_utf8_first)] }
def TreeAskedSaid : Prop := treeAskedRow.holds Tryd.pinned (OpenSpec.ofChange treeAskedSpec)

/-- ITS FALSE NEIGHBOUR: 'it returns false'. Refute it at one input. -/
def treeAskedWrong : ChangeSpec := { name := "treeAsked", fn := fun _ => fun
  | [d1, d2, d3, d4] => { results := [.lit (.bool false)], args := [d1, d2, d3, d4] }
  | _ => none }
def TreeAskedWrongFalsely : Prop := treeAskedRow.holds Tryd.pinned (OpenSpec.ofChange treeAskedWrong)

/-- 'holtlaw07.TreeUp': WHATEVER THE INPUT: true; the input reads as it did. -/
def treeUpSpec : ChangeSpec := { name := "treeUp", fn := fun _ => fun
  | [d] => { results := [.lit (.bool true)], args := [d] }
  | _ => none }
def treeUpRow : OpenClaim := { program := "ytbnipieokpeadaadoor", sum := "7705d259e86876cde9e9ef387c0e199b3f5b125043632886dc24f8c2fbbce495", func := "holt/holtlaw07.TreeUp", spec := "treeUp", inPlace := ["internal/bytealg.CountString", "internal/bytealg.IndexByteString", "internal/bytealg.IndexString"], unfollowed := true, recurses := true, named := ["unicode/utf8.first", "unicode/utf8.acceptRanges", "internal/bytealg.MaxLen"], apart := false, laid := [("unicode/utf8.acceptRanges", laid_unicode_utf8_acceptRanges), ("unicode/utf8.first", laid_unicode_utf8_first)] }
def TreeUpSaid : Prop := treeUpRow.holds Tryd.pinned (OpenSpec.ofChange treeUpSpec)

/-- ITS FALSE NEIGHBOUR: 'it returns false'. Refute it at one input. -/
def treeUpWrong : ChangeSpec := { name := "treeUp", fn := fun _ => fun
  | [d] => { results := [.lit (.bool false)], args := [d] }
  | _ => none }
def TreeUpWrongFalsely : Prop := treeUpRow.holds Tryd.pinned (OpenSpec.ofChange treeUpWrong)

/-- 'holtlaw07.TreeMoves': WHATEVER THE INPUT: true; the input reads as it did. -/
def treeMovesSpec : ChangeSpec := { name := "treeMoves", fn := fun _ => fun
  | [d1, d2] => { results := [.lit (.bool true)], args := [d1, d2] }
  | _ => none }
def treeMovesRow : OpenClaim := { program := "ytbnipieokpeadaadoor", sum := "7705d259e86876cde9e9ef387c0e199b3f5b125043632886dc24f8c2fbbce495", func := "holt/holtlaw07.TreeMoves", spec := "treeMoves", inPlace := ["internal/bytealg.CountString", "internal/bytealg.IndexByteString", "internal/bytealg.IndexString"], unfollowed := true, recurses := true, named := ["unicode/utf8.first", "unicode/utf8.acceptRanges", "internal/bytealg.MaxLen"], apart := false, laid := [("unicode/utf8.acceptRanges", laid_unicode_utf8_acceptRanges), ("unicode/utf8.first", laid_unicode_utf8_first)] }
def TreeMovesSaid : Prop := treeMovesRow.holds Tryd.pinned (OpenSpec.ofChange treeMovesSpec)

/-- ITS FALSE NEIGHBOUR: 'it returns false'. Refute it at one input. -/
def treeMovesWrong : ChangeSpec := { name := "treeMoves", fn := fun _ => fun
  | [d1, d2] => { results := [.lit (.bool false)], args := [d1, d2] }
  | _ => none }
def TreeMovesWrongFalsely : Prop := treeMovesRow.holds Tryd.pinned (OpenSpec.ofChange treeMovesWrong)

/-- 'holtlaw07.TreePaths': WHATEVER THE INPUT: true; the input reads as it did. -/
def treePathsSpec : ChangeSpec := { name := "treePaths", fn := fun _ => fun
  | [d] => { results := [.lit (.bool true)], args := [d] }
  | _ => none }
def treePathsRow : OpenClaim := { program := "ytbnipieokpeadaadoor", sum := "7705d259e86876cde9e9ef387c0e199b3f5b125043632886dc24f8c2fbbce495", func := "holt/holtlaw07.TreePaths", spec := "treePaths", inPlace := ["internal/bytealg.CountString", "internal/bytealg.IndexByteString", "internal/bytealg.IndexString"], unfollowed := true, recurses := true, named := ["unicode/utf8.first", "unicode/utf8.acceptRanges", "internal/bytealg.MaxLen"], apart := false, laid := [("unicode/utf8.acceptRanges", laid_unicode_utf8_acceptRanges), ("unicode/utf8.first", laid_unicode_utf8_first)] }
def TreePathsSaid : Prop := treePathsRow.holds Tryd.pinned (OpenSpec.ofChange treePathsSpec)

/-- ITS FALSE NEIGHBOUR: 'it returns false'. Refute it at one input. -/
def treePathsWrong : ChangeSpec := { name := "treePaths", fn := fun _ => fun
  | [d] => { results := [.lit (.bool false)], args := [d] }
  | _ => none }
def TreePathsWrongFalsely : Prop := treePathsRow.holds Tryd.pinned (OpenSpec.ofChange treePathsWrong)

/-- 'holtlaw07.TreeUndone': WHATEVER THE INPUT: true; the input reads as it did. -/
def treeUndoneSpec : ChangeSpec := { name := "treeUndone", fn := fun _ => fun
  | [d1, d2] => { results := [.lit (.bool true)], args := [d1, d2] }
  | _ => none }
def treeUndoneRow : OpenClaim := { program := "ytbnipieokpeadaadoor", sum := "7705d259e86876cde9e9ef387c0e199b3f5b125043632886dc24f8c2fbbce495", func := "holt/holtlaw07.TreeUndone", spec := "treeUndone", inPlace := ["internal/bytealg.CountString", "internal/bytealg.IndexByteString", "internal/bytealg.IndexString"], unfollowed := true, recurses := true, named := ["unicode/utf8.first", "unicode/utf8.acceptRanges", "internal/bytealg.MaxLen"], apart := false, laid := [("unicode/utf8.acceptRanges", laid_unicode_utf8_acceptRanges), ("unicode/utf8.first", laid_unicode_utf8_first)] }
def TreeUndoneSaid : Prop := treeUndoneRow.holds Tryd.pinned (OpenSpec.ofChange treeUndoneSpec)

/-- ITS FALSE NEIGHBOUR: 'it returns false'. Refute it at one input. -/
def treeUndoneWrong : ChangeSpec := { name := "treeUndone", fn := fun _ => fun
  | [d1, d2] => { results := [.lit (.bool false)], args := [d1, d2] }
  | _ => none }
def TreeUndoneWrongFalsely : Prop := treeUndoneRow.holds Tryd.pinned (OpenSpec.ofChange treeUndoneWrong)

/-- 'holtlaw07.TreePlays': WHATEVER THE INPUT: true; the input reads as it did. -/
def treePlaysSpec : ChangeSpec := { name := "treePlays", fn := fun _ => fun
  | [d1, d2] => { results := [.lit (.bool true)], args := [d1, d2] }
  | _ => none }
def treePlaysRow : OpenClaim := { program := "ytbnipieokpeadaadoor", sum := "7705d259e86876cde9e9ef387c0e199b3f5b125043632886dc24f8c2fbbce495", func := "holt/holtlaw07.TreePlays", spec := "treePlays", inPlace := ["internal/bytealg.CountString", "internal/bytealg.IndexByteString", "internal/bytealg.IndexString"], unfollowed := true, recurses := true, named := ["unicode/utf8.first", "unicode/utf8.acceptRanges", "internal/bytealg.MaxLen"], apart := false, laid := [("unicode/utf8.acceptRanges", laid_unicode_utf8_acceptRanges), ("unicode/utf8.first", laid_unicode_utf8_first)] }
def TreePlaysSaid : Prop := treePlaysRow.holds Tryd.pinned (OpenSpec.ofChange treePlaysSpec)

/-- ITS FALSE NEIGHBOUR: 'it returns false'. Refute it at one input. -/
def treePlaysWrong : ChangeSpec := { name := "treePlays", fn := fun _ => fun
  | [d1, d2] => { results := [.lit (.bool false)], args := [d1, d2] }
  | _ => none }
def TreePlaysWrongFalsely : Prop := treePlaysRow.holds Tryd.pinned (OpenSpec.ofChange treePlaysWrong)

/-- 'holtlaw07.TreeClones': WHATEVER THE INPUT: true; the input reads as it did. -/
def treeClonesSpec : ChangeSpec := { name := "treeClones", fn := fun _ => fun
  | [d1, d2, d3] => { results := [.lit (.bool true)], args := [d1, d2, d3] }
  | _ => none }
def treeClonesRow : OpenClaim := { program := "ytbnipieokpeadaadoor", sum := "7705d259e86876cde9e9ef387c0e199b3f5b125043632886dc24f8c2fbbce495", func := "holt/holtlaw07.TreeClones", spec := "treeClones", inPlace := ["internal/bytealg.CountString", "internal/bytealg.IndexByteString", "internal/bytealg.IndexString", "maps.clone"], unfollowed := true, recurses := true, named := ["unicode/utf8.first", "unicode/utf8.acceptRanges", "internal/bytealg.MaxLen"], apart := false, laid := [("unicode/utf8.acceptRanges", laid_unicode_utf8_acceptRanges), ("unicode/utf8.first", laid_unicode_utf8_first)] }
def TreeClonesSaid : Prop := treeClonesRow.holds Tryd.pinned (OpenSpec.ofChange treeClonesSpec)

/-- ITS FALSE NEIGHBOUR: 'it returns false'. Refute it at one input. -/
def treeClonesWrong : ChangeSpec := { name := "treeClones", fn := fun _ => fun
  | [d1, d2, d3] => { results := [.lit (.bool false)], args := [d1, d2, d3] }
  | _ => none }
def TreeClonesWrongFalsely : Prop := treeClonesRow.holds Tryd.pinned (OpenSpec.ofChange treeClonesWrong)

/- THE SECOND FORM. 'bulk': how many values and letters a reading holds, each counted each time it is reached (what is shared counts as often as it is met; a slice's spare places count too). A statement '..UptoSaid' is the law's where the arguments, and the package variables that the reading takes, are together of bulk at most 1048576: NARROWER than '..Said'. Prove '..Said' where nothing that the law and all that it calls make is longer than what came in: it says more and counts as full. Else prove '..UptoSaid'. A law counts once. -/
mutual
def uptoBulk {H : Type} : DataW H → Nat
  | .lit (.string bytes) => bytes.length + 1
  | .lit _ => 1
  | .nil => 1
  | .ptr d => uptoBulk d + 1
  | .slice elems spare => uptoBulkAll elems + uptoBulkAll spare + 1
  | .agg parts => uptoBulkAll parts + 1
  | .iface _ d => uptoBulk d + 1
  | .map entries => uptoBulkEntries entries + 1
  | .held _ => 1
def uptoBulkAll {H : Type} : List (DataW H) → Nat
  | [] => 0
  | d :: r => uptoBulk d + uptoBulkAll r
def uptoBulkEntries {H : Type} : List (Lit × DataW H) → Nat
  | [] => 0
  | x :: r => uptoBulkEntry x + uptoBulkEntries r
def uptoBulkEntry {H : Type} : Lit × DataW H → Nat
  | (.string bytes, d) => bytes.length + uptoBulk d + 1
  | (_, d) => uptoBulk d + 1
 end
def uptoSmall : (H : Type) → List (DataW H) → Bool := fun _ ds => decide (uptoBulkAll ds ≤ 1048576)
def OpenSpec.upto (s : _root_.Go.ChangeSpec) : _root_.Go.OpenSpec := { _root_.Go.OpenSpec.ofChange s with cond := some uptoSmall }

/-- 'holtlaw07.TreeLast', WHERE WHAT IT READS IS OF BULK AT MOST 1048576: true; the input reads as it did. -/
def treeLastUptoRow : OpenClaim := { program := "ytbnipieokpeadaadoor", sum := "7705d259e86876cde9e9ef387c0e199b3f5b125043632886dc24f8c2fbbce495", func := "holt/holtlaw07.TreeLast", spec := "treeLast", inPlace := ["internal/bytealg.CountString", "internal/bytealg.IndexByteString", "internal/bytealg.IndexString"], unfollowed := true, recurses := true, named := ["unicode/utf8.first", "unicode/utf8.acceptRanges", "internal/bytealg.MaxLen"], apart := false, laid := [("unicode/utf8.acceptRanges", laid_unicode_utf8_acceptRanges), ("unicode/utf8.first", laid_unicode_utf8_first)], narrowed := true }
def TreeLastUptoSaid : Prop := treeLastUptoRow.holds Tryd.pinned (OpenSpec.upto treeLastSpec)

/-- 'holtlaw07.TreeAsked', WHERE WHAT IT READS IS OF BULK AT MOST 1048576: true; the input reads as it did. -/
def treeAskedUptoRow : OpenClaim := { program := "ytbnipieokpeadaadoor", sum := "7705d259e86876cde9e9ef387c0e199b3f5b125043632886dc24f8c2fbbce495", func := "holt/holtlaw07.TreeAsked", spec := "treeAsked", inPlace := ["internal/bytealg.CountString", "internal/bytealg.IndexByteString", "internal/bytealg.IndexString"], unfollowed := true, recurses := true, named := ["unicode/utf8.first", "unicode/utf8.acceptRanges", "internal/bytealg.MaxLen"], apart := false, laid := [("unicode/utf8.acceptRanges", laid_unicode_utf8_acceptRanges), ("unicode/utf8.first", laid_unicode_utf8_first)], narrowed := true }
def TreeAskedUptoSaid : Prop := treeAskedUptoRow.holds Tryd.pinned (OpenSpec.upto treeAskedSpec)

/-- 'holtlaw07.TreeUp', WHERE WHAT IT READS IS OF BULK AT MOST 1048576: true; the input reads as it did. -/
def treeUpUptoRow : OpenClaim := { program := "ytbnipieokpeadaadoor", sum := "7705d259e86876cde9e9ef387c0e199b3f5b125043632886dc24f8c2fbbce495", func := "holt/holtlaw07.TreeUp", spec := "treeUp", inPlace := ["internal/bytealg.CountString", "internal/bytealg.IndexByteString", "internal/bytealg.IndexString"], unfollowed := true, recurses := true, named := ["unicode/utf8.first", "unicode/utf8.acceptRanges", "internal/bytealg.MaxLen"], apart := false, laid := [("unicode/utf8.acceptRanges", laid_unicode_utf8_acceptRanges), ("unicode/utf8.first", laid_unicode_utf8_first)], narrowed := true }
def TreeUpUptoSaid : Prop := treeUpUptoRow.holds Tryd.pinned (OpenSpec.upto treeUpSpec)

/-- 'holtlaw07.TreeMoves', WHERE WHAT IT READS IS OF BULK AT MOST 1048576: true; the input reads as it did. -/
def treeMovesUptoRow : OpenClaim := { program := "ytbnipieokpeadaadoor", sum := "7705d259e86876cde9e9ef387c0e199b3f5b125043632886dc24f8c2fbbce495", func := "holt/holtlaw07.TreeMoves", spec := "treeMoves", inPlace := ["internal/bytealg.CountString", "internal/bytealg.IndexByteString", "internal/bytealg.IndexString"], unfollowed := true, recurses := true, named := ["unicode/utf8.first", "unicode/utf8.acceptRanges", "internal/bytealg.MaxLen"], apart := false, laid := [("unicode/utf8.acceptRanges", laid_unicode_utf8_acceptRanges), ("unicode/utf8.first", laid_unicode_utf8_first)], narrowed := true }
def TreeMovesUptoSaid : Prop := treeMovesUptoRow.holds Tryd.pinned (OpenSpec.upto treeMovesSpec)

/-- 'holtlaw07.TreePaths', WHERE WHAT IT READS IS OF BULK AT MOST 1048576: true; the input reads as it did. -/
def treePathsUptoRow : OpenClaim := { program := "ytbnipieokpeadaadoor", sum := "7705d259e86876cde9e9ef387c0e199b3f5b125043632886dc24f8c2fbbce495", func := "holt/holtlaw07.TreePaths", spec := "treePaths", inPlace := ["internal/bytealg.CountString", "internal/bytealg.IndexByteString", "internal/bytealg.IndexString"], unfollowed := true, recurses := true, named := ["unicode/utf8.first", "unicode/utf8.acceptRanges", "internal/bytealg.MaxLen"], apart := false, laid := [("unicode/utf8.acceptRanges", laid_unicode_utf8_acceptRanges), ("unicode/utf8.first", laid_unicode_utf8_first)], narrowed := true }
def TreePathsUptoSaid : Prop := treePathsUptoRow.holds Tryd.pinned (OpenSpec.upto treePathsSpec)

/-- 'holtlaw07.TreeUndone', WHERE WHAT IT READS IS OF BULK AT MOST 1048576: true; the input reads as it did. -/
def treeUndoneUptoRow : OpenClaim := { program := "ytbnipieokpeadaadoor", sum := "7705d259e86876cde9e9ef387c0e199b3f5b125043632886dc24f8c2fbbce495", func := "holt/holtlaw07.TreeUndone", spec := "treeUndone", inPlace := ["internal/bytealg.CountString", "internal/bytealg.IndexByteString", "internal/bytealg.IndexString"], unfollowed := true, recurses := true, named := ["unicode/utf8.first", "unicode/utf8.acceptRanges", "internal/bytealg.MaxLen"], apart := false, laid := [("unicode/utf8.acceptRanges", laid_unicode_utf8_acceptRanges), ("unicode/utf8.first", laid_unicode_utf8_first)], narrowed := true }
def TreeUndoneUptoSaid : Prop := treeUndoneUptoRow.holds Tryd.pinned (OpenSpec.upto treeUndoneSpec)

/-- 'holtlaw07.TreePlays', WHERE WHAT IT READS IS OF BULK AT MOST 1048576: true; the input reads as it did. -/
def treePlaysUptoRow : OpenClaim := { program := "ytbnipieokpeadaadoor", sum := "7705d259e86876cde9e9ef387c0e199b3f5b125043632886dc24f8c2fbbce495", func := "holt/holtlaw07.TreePlays", spec := "treePlays", inPlace := ["internal/bytealg.CountString", "internal/bytealg.IndexByteString", "internal/bytealg.IndexString"], unfollowed := true, recurses := true, named := ["unicode/utf8.first", "unicode/utf8.acceptRanges", "internal/bytealg.MaxLen"], apart := false, laid := [("unicode/utf8.acceptRanges", laid_unicode_utf8_acceptRanges), ("unicode/utf8.first", laid_unicode_utf8_first)], narrowed := true }
def TreePlaysUptoSaid : Prop := treePlaysUptoRow.holds Tryd.pinned (OpenSpec.upto treePlaysSpec)

/-- 'holtlaw07.TreeClones', WHERE WHAT IT READS IS OF BULK AT MOST 1048576: true; the input reads as it did. -/
def treeClonesUptoRow : OpenClaim := { program := "ytbnipieokpeadaadoor", sum := "7705d259e86876cde9e9ef387c0e199b3f5b125043632886dc24f8c2fbbce495", func := "holt/holtlaw07.TreeClones", spec := "treeClones", inPlace := ["internal/bytealg.CountString", "internal/bytealg.IndexByteString", "internal/bytealg.IndexString", "maps.clone"], unfollowed := true, recurses := true, named := ["unicode/utf8.first", "unicode/utf8.acceptRanges", "internal/bytealg.MaxLen"], apart := false, laid := [("unicode/utf8.acceptRanges", laid_unicode_utf8_acceptRanges), ("unicode/utf8.first", laid_unicode_utf8_first)], narrowed := true }
def TreeClonesUptoSaid : Prop := treeClonesUptoRow.holds Tryd.pinned (OpenSpec.upto treeClonesSpec)

end Rows
end Go.Proofs.YtbnipieokpeadaaDoor

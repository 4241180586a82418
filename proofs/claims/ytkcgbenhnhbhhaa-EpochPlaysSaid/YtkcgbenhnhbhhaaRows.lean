/-
  No cell of these rows narrows 'for every input' (looked for: loops, veiled, ifaces, maps, wideKeys, modest, calm, conditions, laid).
  DERIVED. THE GIVEN ROWS OF THIS SEAT. 12 by the template 'for every input the law returns true; each argument reads behind the call as it read before'; 0 by the template 'total and deterministic' (their statements: YtkcgbenhnhbhhaaTotals.lean).
  GIVEN WITH THE SEED: the statements are not yours to turn. If you find one false, say at which input.
  Laid BY PROGRAM, IN A SANDBOX (cutbox-rows.mjs): the forced cells as the released guide's own fill.sh prints them over the translation 03644583f9d1b93d… (all of the seat's roots in one cut). By AI agents, Wed Nov 11 2026. No macro, syntax, notation, axiom, sorry.
-/
import Derived.Test.YtkcgbenhnhbhhaaChecked
import GoSem.Claim
import GoSem.ClaimJoined
import GoSem.ClaimMapViews
import Derived.JoinedTies
import Derived.KernelRfl
namespace Go.Proofs.Ytkcgbenhnhbhhaa
/- THE CELL 'sum', in the pinned program and in every row, IS THE sha256 OF THE DUMP (.gsa) THAT YtkcgbenhnhbhhaaProg.lean LOADS. Nothing in Lean hashes anything: it is a label: what it is worth is what the hold of that sum in a sandbox is worth. -/
noncomputable def Try.pinned : Pinned := { name := "ytkcgbenhnhbhhaa", sum := "03644583f9d1b93df411b01a58982a259d2cd4206742b93e4cd87cc65125c50f", checked := Try.checked }
namespace Rows
def none {H : Type} : Left H := { results := [], args := [] }

/-- 'holtlaw15.RingPlays': WHATEVER THE INPUT: true; the input reads as it did. -/
def ringPlaysSpec : ChangeSpec := { name := "ringPlays", fn := fun _ => fun
  | [d1, d2] => { results := [.lit (.bool true)], args := [d1, d2] }
  | _ => none }
def ringPlaysRow : OpenClaim := { program := "ytkcgbenhnhbhhaa", sum := "03644583f9d1b93df411b01a58982a259d2cd4206742b93e4cd87cc65125c50f", func := "holt/holtlaw15.RingPlays", spec := "ringPlays", apart := false }
def RingPlaysSaid : Prop := ringPlaysRow.holds Try.pinned (OpenSpec.ofChange ringPlaysSpec)

/-- ITS FALSE NEIGHBOUR: 'it returns false'. Refute it at one input. -/
def ringPlaysWrong : ChangeSpec := { name := "ringPlays", fn := fun _ => fun
  | [d1, d2] => { results := [.lit (.bool false)], args := [d1, d2] }
  | _ => none }
def RingPlaysWrongFalsely : Prop := ringPlaysRow.holds Try.pinned (OpenSpec.ofChange ringPlaysWrong)

/-- 'holtlaw15.RingNew': WHATEVER THE INPUT: true; the input reads as it did. -/
def ringNewSpec : ChangeSpec := { name := "ringNew", fn := fun _ => fun
  | [d] => { results := [.lit (.bool true)], args := [d] }
  | _ => none }
def ringNewRow : OpenClaim := { program := "ytkcgbenhnhbhhaa", sum := "03644583f9d1b93df411b01a58982a259d2cd4206742b93e4cd87cc65125c50f", func := "holt/holtlaw15.RingNew", spec := "ringNew", apart := false }
def RingNewSaid : Prop := ringNewRow.holds Try.pinned (OpenSpec.ofChange ringNewSpec)

/-- ITS FALSE NEIGHBOUR: 'it returns false'. Refute it at one input. -/
def ringNewWrong : ChangeSpec := { name := "ringNew", fn := fun _ => fun
  | [d] => { results := [.lit (.bool false)], args := [d] }
  | _ => none }
def RingNewWrongFalsely : Prop := ringNewRow.holds Try.pinned (OpenSpec.ofChange ringNewWrong)

/-- 'holtlaw15.RingOrder': WHATEVER THE INPUT: true; the input reads as it did. -/
def ringOrderSpec : ChangeSpec := { name := "ringOrder", fn := fun _ => fun
  | [d1, d2] => { results := [.lit (.bool true)], args := [d1, d2] }
  | _ => none }
def ringOrderRow : OpenClaim := { program := "ytkcgbenhnhbhhaa", sum := "03644583f9d1b93df411b01a58982a259d2cd4206742b93e4cd87cc65125c50f", func := "holt/holtlaw15.RingOrder", spec := "ringOrder", apart := false }
def RingOrderSaid : Prop := ringOrderRow.holds Try.pinned (OpenSpec.ofChange ringOrderSpec)

/-- ITS FALSE NEIGHBOUR: 'it returns false'. Refute it at one input. -/
def ringOrderWrong : ChangeSpec := { name := "ringOrder", fn := fun _ => fun
  | [d1, d2] => { results := [.lit (.bool false)], args := [d1, d2] }
  | _ => none }
def RingOrderWrongFalsely : Prop := ringOrderRow.holds Try.pinned (OpenSpec.ofChange ringOrderWrong)

/-- 'holtlaw15.RingFull': WHATEVER THE INPUT: true; the input reads as it did. -/
def ringFullSpec : ChangeSpec := { name := "ringFull", fn := fun _ => fun
  | [d1, d2] => { results := [.lit (.bool true)], args := [d1, d2] }
  | _ => none }
def ringFullRow : OpenClaim := { program := "ytkcgbenhnhbhhaa", sum := "03644583f9d1b93df411b01a58982a259d2cd4206742b93e4cd87cc65125c50f", func := "holt/holtlaw15.RingFull", spec := "ringFull", apart := false }
def RingFullSaid : Prop := ringFullRow.holds Try.pinned (OpenSpec.ofChange ringFullSpec)

/-- ITS FALSE NEIGHBOUR: 'it returns false'. Refute it at one input. -/
def ringFullWrong : ChangeSpec := { name := "ringFull", fn := fun _ => fun
  | [d1, d2] => { results := [.lit (.bool false)], args := [d1, d2] }
  | _ => none }
def RingFullWrongFalsely : Prop := ringFullRow.holds Try.pinned (OpenSpec.ofChange ringFullWrong)

/-- 'holtlaw18.DeskPins': WHATEVER THE INPUT: true; the input reads as it did. -/
def deskPinsSpec : ChangeSpec := { name := "deskPins", fn := fun _ => fun
  | [d1, d2, d3, d4, d5] => { results := [.lit (.bool true)], args := [d1, d2, d3, d4, d5] }
  | _ => none }
def deskPinsRow : OpenClaim := { program := "ytkcgbenhnhbhhaa", sum := "03644583f9d1b93df411b01a58982a259d2cd4206742b93e4cd87cc65125c50f", func := "holt/holtlaw18.DeskPins", spec := "deskPins", apart := false }
def DeskPinsSaid : Prop := deskPinsRow.holds Try.pinned (OpenSpec.ofChange deskPinsSpec)

/-- ITS FALSE NEIGHBOUR: 'it returns false'. Refute it at one input. -/
def deskPinsWrong : ChangeSpec := { name := "deskPins", fn := fun _ => fun
  | [d1, d2, d3, d4, d5] => { results := [.lit (.bool false)], args := [d1, d2, d3, d4, d5] }
  | _ => none }
def DeskPinsWrongFalsely : Prop := deskPinsRow.holds Try.pinned (OpenSpec.ofChange deskPinsWrong)

/-- 'holtlaw10.EpochPlays': WHATEVER THE INPUT: true; the input reads as it did. -/
def epochPlaysSpec : ChangeSpec := { name := "epochPlays", fn := fun _ => fun
  | [d] => { results := [.lit (.bool true)], args := [d] }
  | _ => none }
def epochPlaysRow : OpenClaim := { program := "ytkcgbenhnhbhhaa", sum := "03644583f9d1b93df411b01a58982a259d2cd4206742b93e4cd87cc65125c50f", func := "holt/holtlaw10.EpochPlays", spec := "epochPlays", unfollowed := true, recurses := true, apart := false }
def EpochPlaysSaid : Prop := epochPlaysRow.holds Try.pinned (OpenSpec.ofChange epochPlaysSpec)

/-- ITS FALSE NEIGHBOUR: 'it returns false'. Refute it at one input. -/
def epochPlaysWrong : ChangeSpec := { name := "epochPlays", fn := fun _ => fun
  | [d] => { results := [.lit (.bool false)], args := [d] }
  | _ => none }
def EpochPlaysWrongFalsely : Prop := epochPlaysRow.holds Try.pinned (OpenSpec.ofChange epochPlaysWrong)

/-- 'holtlaw10.EpochLeast': WHATEVER THE INPUT: true; the input reads as it did. -/
def epochLeastSpec : ChangeSpec := { name := "epochLeast", fn := fun _ => fun
  | [d] => { results := [.lit (.bool true)], args := [d] }
  | _ => none }
def epochLeastRow : OpenClaim := { program := "ytkcgbenhnhbhhaa", sum := "03644583f9d1b93df411b01a58982a259d2cd4206742b93e4cd87cc65125c50f", func := "holt/holtlaw10.EpochLeast", spec := "epochLeast", unfollowed := true, recurses := true, apart := false }
def EpochLeastSaid : Prop := epochLeastRow.holds Try.pinned (OpenSpec.ofChange epochLeastSpec)

/-- ITS FALSE NEIGHBOUR: 'it returns false'. Refute it at one input. -/
def epochLeastWrong : ChangeSpec := { name := "epochLeast", fn := fun _ => fun
  | [d] => { results := [.lit (.bool false)], args := [d] }
  | _ => none }
def EpochLeastWrongFalsely : Prop := epochLeastRow.holds Try.pinned (OpenSpec.ofChange epochLeastWrong)

/-- 'holtlaw10.EpochThree': WHATEVER THE INPUT: true; the input reads as it did. -/
def epochThreeSpec : ChangeSpec := { name := "epochThree", fn := fun _ => fun
  | [d] => { results := [.lit (.bool true)], args := [d] }
  | _ => none }
def epochThreeRow : OpenClaim := { program := "ytkcgbenhnhbhhaa", sum := "03644583f9d1b93df411b01a58982a259d2cd4206742b93e4cd87cc65125c50f", func := "holt/holtlaw10.EpochThree", spec := "epochThree", unfollowed := true, recurses := true, apart := false }
def EpochThreeSaid : Prop := epochThreeRow.holds Try.pinned (OpenSpec.ofChange epochThreeSpec)

/-- ITS FALSE NEIGHBOUR: 'it returns false'. Refute it at one input. -/
def epochThreeWrong : ChangeSpec := { name := "epochThree", fn := fun _ => fun
  | [d] => { results := [.lit (.bool false)], args := [d] }
  | _ => none }
def EpochThreeWrongFalsely : Prop := epochThreeRow.holds Try.pinned (OpenSpec.ofChange epochThreeWrong)

/-- 'holtlaw10.EpochPinned': WHATEVER THE INPUT: true; the input reads as it did. -/
def epochPinnedSpec : ChangeSpec := { name := "epochPinned", fn := fun _ => fun
  | [d1, d2, d3] => { results := [.lit (.bool true)], args := [d1, d2, d3] }
  | _ => none }
def epochPinnedRow : OpenClaim := { program := "ytkcgbenhnhbhhaa", sum := "03644583f9d1b93df411b01a58982a259d2cd4206742b93e4cd87cc65125c50f", func := "holt/holtlaw10.EpochPinned", spec := "epochPinned", unfollowed := true, recurses := true, apart := false }
def EpochPinnedSaid : Prop := epochPinnedRow.holds Try.pinned (OpenSpec.ofChange epochPinnedSpec)

/-- ITS FALSE NEIGHBOUR: 'it returns false'. Refute it at one input. -/
def epochPinnedWrong : ChangeSpec := { name := "epochPinned", fn := fun _ => fun
  | [d1, d2, d3] => { results := [.lit (.bool false)], args := [d1, d2, d3] }
  | _ => none }
def EpochPinnedWrongFalsely : Prop := epochPinnedRow.holds Try.pinned (OpenSpec.ofChange epochPinnedWrong)

/-- 'holtlaw10.EpochAll': WHATEVER THE INPUT: true; the input reads as it did. -/
def epochAllSpec : ChangeSpec := { name := "epochAll", fn := fun _ => fun
  | [d] => { results := [.lit (.bool true)], args := [d] }
  | _ => none }
def epochAllRow : OpenClaim := { program := "ytkcgbenhnhbhhaa", sum := "03644583f9d1b93df411b01a58982a259d2cd4206742b93e4cd87cc65125c50f", func := "holt/holtlaw10.EpochAll", spec := "epochAll", unfollowed := true, recurses := true, apart := false }
def EpochAllSaid : Prop := epochAllRow.holds Try.pinned (OpenSpec.ofChange epochAllSpec)

/-- ITS FALSE NEIGHBOUR: 'it returns false'. Refute it at one input. -/
def epochAllWrong : ChangeSpec := { name := "epochAll", fn := fun _ => fun
  | [d] => { results := [.lit (.bool false)], args := [d] }
  | _ => none }
def EpochAllWrongFalsely : Prop := epochAllRow.holds Try.pinned (OpenSpec.ofChange epochAllWrong)

/-- 'holtlaw18.DeskOrder': WHATEVER THE INPUT: true; the input reads as it did. -/
def deskOrderSpec : ChangeSpec := { name := "deskOrder", fn := fun _ => fun
  | [d] => { results := [.lit (.bool true)], args := [d] }
  | _ => none }
def deskOrderRow : OpenClaim := { program := "ytkcgbenhnhbhhaa", sum := "03644583f9d1b93df411b01a58982a259d2cd4206742b93e4cd87cc65125c50f", func := "holt/holtlaw18.DeskOrder", spec := "deskOrder", apart := false }
def DeskOrderSaid : Prop := deskOrderRow.holds Try.pinned (OpenSpec.ofChange deskOrderSpec)

/-- ITS FALSE NEIGHBOUR: 'it returns false'. Refute it at one input. -/
def deskOrderWrong : ChangeSpec := { name := "deskOrder", fn := fun _ => fun
  | [d] => { results := [.lit (.bool false)], args := [d] }
  | _ => none }
def DeskOrderWrongFalsely : Prop := deskOrderRow.holds Try.pinned (OpenSpec.ofChange deskOrderWrong)

/-- 'holtlaw18.DeskNew': WHATEVER THE INPUT: true; the input reads as it did. -/
def deskNewSpec : ChangeSpec := { name := "deskNew", fn := fun _ => fun
  | [d1, d2, d3] => { results := [.lit (.bool true)], args := [d1, d2, d3] }
  | _ => none }
def deskNewRow : OpenClaim := { program := "ytkcgbenhnhbhhaa", sum := "03644583f9d1b93df411b01a58982a259d2cd4206742b93e4cd87cc65125c50f", func := "holt/holtlaw18.DeskNew", spec := "deskNew", apart := false }
def DeskNewSaid : Prop := deskNewRow.holds Try.pinned (OpenSpec.ofChange deskNewSpec)

/-- ITS FALSE NEIGHBOUR: 'it returns false'. Refute it at one input. -/
def deskNewWrong : ChangeSpec := { name := "deskNew", fn := fun _ => fun
  | [d1, d2, d3] => { results := [.lit (.bool false)], args := [d1, d2, d3] }
  | _ => none }
def DeskNewWrongFalsely : Prop := deskNewRow.holds Try.pinned (OpenSpec.ofChange deskNewWrong)

/- THE SECOND FORM. 'bulk': how many values and letters a reading holds, each counted each time it is reached (what is shared counts as often as it is met; a slice's spare places count too). A statement '..UptoSaid' is the law's where the arguments, and the package variables that the reading takes, are together of bulk at most 1048576: NARROWER than '..Said'. Prove '..Said' where nothing that the law and all that it calls make is longer than what came in: it says more and counts as full. Else prove '..UptoSaid'. A law counts once. -/
mutual
def uptoBulk {H : Type} : DataW H → Nat
  | .lit (.string bytes) => bytes.length + 1
  | .lit _ => 1
  | .nil => 1
  | .ptr d => uptoBulk d + 1
  | .slice elems spare => uptoBulkAll elems + uptoBulkAll spare + 1
  | .agg parts => uptoBulkAll parts + 1
  | .iface _ d => uptoBulk d + 1
  | .map entries => uptoBulkEntries entries + 1
  | .held _ => 1
def uptoBulkAll {H : Type} : List (DataW H) → Nat
  | [] => 0
  | d :: r => uptoBulk d + uptoBulkAll r
def uptoBulkEntries {H : Type} : List (Lit × DataW H) → Nat
  | [] => 0
  | x :: r => uptoBulkEntry x + uptoBulkEntries r
def uptoBulkEntry {H : Type} : Lit × DataW H → Nat
  | (.string bytes, d) => bytes.length + uptoBulk d + 1
  | (_, d) => uptoBulk d + 1
 end
def uptoSmall : (H : Type) → List (DataW H) → Bool := fun _ ds => decide (uptoBulkAll ds ≤ 1048576)
def OpenSpec.upto (s : _root_.Go.ChangeSpec) : _root_.Go.OpenSpec := { _root_.Go.OpenSpec.ofChange s with cond := some uptoSmall }

/-- 'holtlaw15.RingPlays', WHERE WHAT IT READS IS OF BULK AT MOST 1048576: true; the input reads as it did. -/
def ringPlaysUptoRow : OpenClaim := { program := "ytkcgbenhnhbhhaa", sum := "03644583f9d1b93df411b01a58982a259d2cd4206742b93e4cd87cc65125c50f", func := "holt/holtlaw15.RingPlays", spec := "ringPlays", apart := false, narrowed := true }
def RingPlaysUptoSaid : Prop := ringPlaysUptoRow.holds Try.pinned (OpenSpec.upto ringPlaysSpec)

/-- 'holtlaw15.RingNew', WHERE WHAT IT READS IS OF BULK AT MOST 1048576: true; the input reads as it did. -/
def ringNewUptoRow : OpenClaim := { program := "ytkcgbenhnhbhhaa", sum := "03644583f9d1b93df411b01a58982a259d2cd4206742b93e4cd87cc65125c50f", func := "holt/holtlaw15.RingNew", spec := "ringNew", apart := false, narrowed := true }
def RingNewUptoSaid : Prop := ringNewUptoRow.holds Try.pinned (OpenSpec.upto ringNewSpec)

/-- 'holtlaw15.RingOrder', WHERE WHAT IT READS IS OF BULK AT MOST 1048576: true; the input reads as it did. -/
def ringOrderUptoRow : OpenClaim := { program := "ytkcgbenhnhbhhaa", sum := "03644583f9d1b93df411b01a58982a259d2cd4206742b93e4cd87cc65125c50f", func := "holt/holtlaw15.RingOrder", spec := "ringOrder", apart := false, narrowed := true }
def RingOrderUptoSaid : Prop := ringOrderUptoRow.holds Try.pinned (OpenSpec.upto ringOrderSpec)

/-- 'holtlaw15.RingFull', WHERE WHAT IT READS IS OF BULK AT MOST 1048576: true; the input reads as it did. -/
def ringFullUptoRow : OpenClaim := { program := "ytkcgbenhnhbhhaa", sum := "03644583f9d1b93df411b01a58982a259d2cd4206742b93e4cd87cc65125c50f", func := "holt/holtlaw15.RingFull", spec := "ringFull", apart := false, narrowed := true }
def RingFullUptoSaid : Prop := ringFullUptoRow.holds Try.pinned (OpenSpec.upto ringFullSpec)

/-- 'holtlaw18.DeskPins', WHERE WHAT IT READS IS OF BULK AT MOST 1048576: true; the input reads as it did. -/
def deskPinsUptoRow : OpenClaim := { program := "ytkcgbenhnhbhhaa", sum := "03644583f9d1b93df411b01a58982a259d2cd4206742b93e4cd87cc65125c50f", func := "holt/holtlaw18.DeskPins", spec := "deskPins", apart := false, narrowed := true }
def DeskPinsUptoSaid : Prop := deskPinsUptoRow.holds Try.pinned (OpenSpec.upto deskPinsSpec)

/-- 'holtlaw10.EpochPlays', WHERE WHAT IT READS IS OF BULK AT MOST 1048576: true; the input reads as it did. -/
def epochPlaysUptoRow : OpenClaim := { program := "ytkcgbenhnhbhhaa", sum := "03644583f9d1b93df411b01a58982a259d2cd4206742b93e4cd87cc65125c50f", func := "holt/holtlaw10.EpochPlays", spec := "epochPlays", unfollowed := true, recurses := true, apart := false, narrowed := true }
def EpochPlaysUptoSaid : Prop := epochPlaysUptoRow.holds Try.pinned (OpenSpec.upto epochPlaysSpec)

/-- 'holtlaw10.EpochLeast', WHERE WHAT IT READS IS OF BULK AT MOST 1048576: true; the input reads as it did. -/
def epochLeastUptoRow : OpenClaim := { program := "ytkcgbenhnhbhhaa", sum := "03644583f9d1b93df411b01a58982a259d2cd4206742b93e4cd87cc65125c50f", func := "holt/holtlaw10.EpochLeast", spec := "epochLeast", unfollowed := true, recurses := true, apart := false, narrowed := true }
def EpochLeastUptoSaid : Prop := epochLeastUptoRow.holds Try.pinned (OpenSpec.upto epochLeastSpec)

/-- 'holtlaw10.EpochThree', WHERE WHAT IT READS IS OF BULK AT MOST 1048576: true; the input reads as it did. -/
def epochThreeUptoRow : OpenClaim := { program := "ytkcgbenhnhbhhaa", sum := "03644583f9d1b93df411b01a58982a259d2cd4206742b93e4cd87cc65125c50f", func := "holt/holtlaw10.EpochThree", spec := "epochThree", unfollowed := true, recurses := true, apart := false, narrowed := true }
def EpochThreeUptoSaid : Prop := epochThreeUptoRow.holds Try.pinned (OpenSpec.upto epochThreeSpec)

/-- 'holtlaw10.EpochPinned', WHERE WHAT IT READS IS OF BULK AT MOST 1048576: true; the input reads as it did. -/
def epochPinnedUptoRow : OpenClaim := { program := "ytkcgbenhnhbhhaa", sum := "03644583f9d1b93df411b01a58982a259d2cd4206742b93e4cd87cc65125c50f", func := "holt/holtlaw10.EpochPinned", spec := "epochPinned", unfollowed := true, recurses := true, apart := false, narrowed := true }
def EpochPinnedUptoSaid : Prop := epochPinnedUptoRow.holds Try.pinned (OpenSpec.upto epochPinnedSpec)

/-- 'holtlaw10.EpochAll', WHERE WHAT IT READS IS OF BULK AT MOST 1048576: true; the input reads as it did. -/
def epochAllUptoRow : OpenClaim := { program := "ytkcgbenhnhbhhaa", sum := "03644583f9d1b93df411b01a58982a259d2cd4206742b93e4cd87cc65125c50f", func := "holt/holtlaw10.EpochAll", spec := "epochAll", unfollowed := true, recurses := true, apart := false, narrowed := true }
def EpochAllUptoSaid : Prop := epochAllUptoRow.holds Try.pinned (OpenSpec.upto epochAllSpec)

/-- 'holtlaw18.DeskOrder', WHERE WHAT IT READS IS OF BULK AT MOST 1048576: true; the input reads as it did. -/
def deskOrderUptoRow : OpenClaim := { program := "ytkcgbenhnhbhhaa", sum := "03644583f9d1b93df411b01a58982a259d2cd4206742b93e4cd87cc65125c50f", func := "holt/holtlaw18.DeskOrder", spec := "deskOrder", apart := false, narrowed := true }
def DeskOrderUptoSaid : Prop := deskOrderUptoRow.holds Try.pinned (OpenSpec.upto deskOrderSpec)

/-- 'holtlaw18.DeskNew', WHERE WHAT IT READS IS OF BULK AT MOST 1048576: true; the input reads as it did. -/
def deskNewUptoRow : OpenClaim := { program := "ytkcgbenhnhbhhaa", sum := "03644583f9d1b93df411b01a58982a259d2cd4206742b93e4cd87cc65125c50f", func := "holt/holtlaw18.DeskNew", spec := "deskNew", apart := false, narrowed := true }
def DeskNewUptoSaid : Prop := deskNewUptoRow.holds Try.pinned (OpenSpec.upto deskNewSpec)

end Rows
end Go.Proofs.Ytkcgbenhnhbhhaa

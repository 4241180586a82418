import Derived.Test.YtbnipieokpeadaaDoorArgs
namespace Go.Proofs.YtbnipieokpeadaaDoor
open Go Go.RowKit Go.ChangeShapes Go.WideShapes Go.Deep
set_option linter.unusedVariables false
section
variable {H : Type} {enc : TypeId × Value → H} {w : World} {base : Nat} {spare : Nat → Bool} {held : Bool}
theorem open_bl (n : Nat) (cs : List Value) (y : DataW H × List MemPlace) (h : DataW.trod enc Tryd.prog w base spare held n 4 cs = some y) (hl : cs.length = 1) : ∃ x : Bool, cs = fB x ∧ True := by
  obtain ⟨x, e, _⟩ := DataW.trod_bool Tryd.underlying4 h
  exact ⟨x, e, trivial⟩
end
end Go.Proofs.YtbnipieokpeadaaDoor

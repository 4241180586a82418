import Derived.Test.YtddglbjhhnipgaaGreatDoorGE
import Derived.Test.YtddglbjhhnipgaaGreatDoorGF
namespace Go.Proofs.YtddglbjhhnipgaaGreatDoor
open Go Go.RowKit
set_option linter.unusedVariables false
set_option linter.unusedSimpArgs false

/-- There are not more than a thousand nodes. -/
def Bnd (f : Int → Option Loc) : Prop := ∀ S : List (Int × Loc), (∀ p ∈ S, f p.1 = some p.2) → (S.map Prod.fst).Nodup → S.length ≤ 1000

end Go.Proofs.YtddglbjhhnipgaaGreatDoor

namespace Go.Proofs.YtddglbjhhnipgaaGreatDoor
open Go Go.RowKit
set_option linter.unusedVariables false
set_option linter.unusedSimpArgs false

end Go.Proofs.YtddglbjhhnipgaaGreatDoor

import Derived.Test.YtddglbjhhnipgaaGreatDoorGE
import Derived.Test.YtddglbjhhnipgaaGreatDoorGF
namespace Go.Proofs.YtddglbjhhnipgaaGreatDoor
open Go Go.RowKit
set_option linter.unusedVariables false
set_option linter.unusedSimpArgs false
set_option maxRecDepth 100000
set_option maxHeartbeats 8000000
/-- There are not more than a thousand nodes. -/
def Bnd (f : Int → Option Loc) : Prop := ∀ S : List (Int × Loc), (∀ p ∈ S, f p.1 = some p.2) → (S.map Prod.fst).Nodup → S.length ≤ 1000
end Go.Proofs.YtddglbjhhnipgaaGreatDoor

import Derived.Test.YtddglbjhhnipgaaGreatDoorCliWrBft
import Derived.Test.YtddglbjhhnipgaaGreatDoorCliWrBtf
import Derived.Test.YtddglbjhhnipgaaGreatDoorCliWrBtt
import Derived.Test.YtddglbjhhnipgaaGreatDoorCliWrNft
import Derived.Test.YtddglbjhhnipgaaGreatDoorCliWrNtf
import Derived.Test.YtddglbjhhnipgaaGreatDoorCliWrNtt
import Derived.Test.YtddglbjhhnipgaaGreatDoorCliWrOk
import Derived.Test.YtddglbjhhnipgaaGreatDoorCliWrE
namespace Go.Proofs.YtddglbjhhnipgaaGreatDoor
open Go Go.RowKit
set_option linter.unusedVariables false

theorem clientWrites_walk (x : CallD) (r : RepD) (full closed : Bool) (W : World) {bs bs2 : List Int} {ks : List KidD} (hx : ArgRow W fU x.dao x.dn x.dc bs) (hk : ArgRow W fK r.kao r.kn r.kc ks) (hd : ArgRow W fU r.dao r.dn r.dc bs2) :
    LawCalls Tryz.prog 3 #[aggCa x, aggA r, .bool full, .bool closed] W := by
  by_cases h1 : x.text.size ≤ 450 ∧ x.dn ≤ 400
  case neg => exact cw_early1 h1
  by_cases h2 : r.kn ≤ 12
  case neg => exact cw_early2 h1 h2
  by_cases h3 : r.dn ≤ 400
  case neg => exact cw_early3 h1 h2 h3
  by_cases h4 : x.kind = 3 ∨ x.kind = 4
  case pos => exact cw_early4 h1 h2 h3 h4
  have h5 : x.kind ≠ 3 := fun e => h4 (.inl e)
  have h6 : x.kind ≠ 4 := fun e => h4 (.inr e)
  by_cases h7 : x.kind < 0 ∨ 7 < x.kind
  · cases full with
    | false => cases closed with
      | false => exact cw_bad_ff hx hk hd h1.1 h1.2 h2 h3 h5 h6 h7
      | true => exact cw_bad_ft hx hk hd h1.1 h1.2 h2 h3 h5 h6 h7
    | true => cases closed with
      | false => exact cw_bad_tf hx hk hd h1.1 h1.2 h2 h3 h5 h6 h7
      | true => exact cw_bad_tt hx hk hd h1.1 h1.2 h2 h3 h5 h6 h7
  · have h8 : x.kind = 0 ∨ x.kind = 1 ∨ x.kind = 2 ∨ x.kind = 5 ∨ x.kind = 6 ∨ x.kind = 7 := by omega
    cases full with
    | false => cases closed with
      | false => exact cw_ok hx hk hd h1.1 h1.2 h2 h3 h5 h6 h8
      | true => exact cw_no_ft hx hk hd h1.1 h1.2 h2 h3 h5 h6 h8
    | true => cases closed with
      | false => exact cw_no_tf hx hk hd h1.1 h1.2 h2 h3 h5 h6 h8
      | true => exact cw_no_tt hx hk hd h1.1 h1.2 h2 h3 h5 h6 h8
end Go.Proofs.YtddglbjhhnipgaaGreatDoor

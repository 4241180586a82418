/-
  'EpochPlays' holds: for every input the law returns true, and its argument reads afterwards as it read before. No condition.
-/
import Derived.Test.YtkcgbenhnhbhhaaEpochPlays
namespace Go.Proofs.Ytkcgbenhnhbhhaa
open Go.ChangeShapes Go.WideShapes Go.ChangeAt Go.RowKit
set_option linter.unusedVariables false

set_option maxRecDepth 100000 in
theorem epochPlays_lifted (os : Os) (started : os.Started) (H : Type) (enc : TypeId × Value → H) :
    ReturnsInHanded {} Try.checked os 8 .any (Rows.epochPlaysSpec.pre6 enc Try.prog Try.f8 Rows.epochPlaysRow.domain false) (Rows.epochPlaysSpec.post enc Try.prog Try.f8 false true false false) := by
  refine law_lifted (C := Try.checked) (by kernel_rfl) started (by kernel_rfl) Try.func8 (by kernel_rfl) Try.underlying4 rfl rfl (by kernel_rfl)
    (ChangeSpec.witness6 (enc := enc) (C := Try.checked) false ⟨#[], #[.slice none 0 0], []⟩ 8 (by kernel_rfl) (by kernel_rfl) (by kernel_rfl) (by kernel_rfl))
    (fun ds h => by match ds, h with | [_], _ => rfl) ?_
  intro W base args ds p hval hA
  rw [Try.params8] at hA hval
  obtain ⟨v0, vs0, d0, ds0, p0, q0, hargs0, rfl, rfl, h0, r0⟩ := trodAll_cons hA
  obtain ⟨rfl, rfl, rfl⟩ := trodAll_nil r0
  obtain rfl : args = #[v0] := by cases args; simp_all
  obtain ⟨ao0, n0, cap0, xs0, rfl, ar0, w0⟩ := arg_row (f := fAct) Try.underlying52 (by kernel_rfl) (by omega) len_fAct open_act (hval 0 52 v0 rfl rfl) h0
  exact epochPlays_walk ao0 n0 cap0 xs0 W ar0 w0

theorem epochPlays_holds : Rows.EpochPlaysSaid :=
  OpenClaim.holds_of_wide 8 Try.f8 rfl rfl rfl rfl rfl rfl rfl ⟨rfl, rfl, rfl, rfl, rfl⟩ rfl rfl rfl rfl rfl (by kernel_rfl) Try.func8 (by kernel_rfl)
    (of_decide_eq_true (by kernel_rfl)) (by unfold Func.isWrapper; first | (rw [if_pos (by decide +kernel)]; kernel_rfl) | (rw [if_neg (by decide +kernel)]; exact ⟨rfl, rfl⟩))
    (fun os started H enc _ => epochPlays_lifted os started H enc)
#print axioms epochPlays_holds
end Go.Proofs.Ytkcgbenhnhbhhaa

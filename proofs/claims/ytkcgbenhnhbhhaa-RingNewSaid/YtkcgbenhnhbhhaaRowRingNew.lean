/-
  'RingNew' holds: for every input the law returns true, and its argument reads afterwards as it read before. No condition.
-/
import Derived.Test.YtkcgbenhnhbhhaaRingNew
namespace Go.Proofs.Ytkcgbenhnhbhhaa
open Go.ChangeShapes Go.WideShapes Go.ChangeAt Go.RowKit
set_option linter.unusedVariables false

set_option maxRecDepth 100000 in
theorem ringNew_lifted (os : Os) (started : os.Started) (H : Type) (enc : TypeId × Value → H) :
    ReturnsInHanded {} Try.checked os 4 .any (Rows.ringNewSpec.pre6 enc Try.prog Try.f4 Rows.ringNewRow.domain false) (Rows.ringNewSpec.post enc Try.prog Try.f4 false true false false) := by
  refine law_lifted (C := Try.checked) (by kernel_rfl) started (by kernel_rfl) Try.func4 (by kernel_rfl) Try.underlying4 rfl rfl (by kernel_rfl)
    (ChangeSpec.witness6 (enc := enc) (C := Try.checked) false ⟨#[], #[.int .i64 0], []⟩ 8 (by kernel_rfl) (by kernel_rfl) (by kernel_rfl) (by kernel_rfl))
    (fun ds h => by match ds, h with | [_], _ => rfl) ?_
  intro W base args ds p hval hA
  rw [Try.params4] at hA hval
  obtain ⟨v0, vs0, d0, ds0, p0, q0, hargs0, rfl, rfl, h0, r0⟩ := trodAll_cons hA
  obtain ⟨rfl, rfl, rfl⟩ := trodAll_nil r0
  obtain rfl : args = #[v0] := by cases args; simp_all
  obtain ⟨a0, rfl, rfl, rfl, w0⟩ := open_int Try.underlying3 (hval 0 3 v0 rfl rfl) h0
  exact ringNew_walk a0 W w0

theorem ringNew_holds : Rows.RingNewSaid :=
  OpenClaim.holds_of_wide 4 Try.f4 rfl rfl rfl rfl rfl rfl rfl ⟨rfl, rfl, rfl, rfl, rfl⟩ rfl rfl rfl rfl rfl (by kernel_rfl) Try.func4 (by kernel_rfl)
    (of_decide_eq_true (by kernel_rfl)) (by unfold Func.isWrapper; first | (rw [if_pos (by decide +kernel)]; kernel_rfl) | (rw [if_neg (by decide +kernel)]; exact ⟨rfl, rfl⟩))
    (fun os started H enc _ => ringNew_lifted os started H enc)
#print axioms ringNew_holds
end Go.Proofs.Ytkcgbenhnhbhhaa

/-
  'DeskPlays' holds: for every input the law returns true, and its arguments read afterwards as they read before. No condition.
-/
import Derived.Test.YtkcgbenhnhbhhabDeskPlays
namespace Go.Proofs.Ytkcgbenhnhbhhab
open Go.ChangeShapes Go.WideShapes Go.ChangeAt Go.RowKit
set_option linter.unusedVariables false

set_option maxRecDepth 100000 in
theorem deskPlays_lifted (os : Os) (started : os.Started) (H : Type) (enc : TypeId × Value → H) :
    ReturnsInHanded {} Try.checked os 3 .any (Rows.deskPlaysSpec.pre6 enc Try.prog Try.f3 Rows.deskPlaysRow.domain false) (Rows.deskPlaysSpec.post enc Try.prog Try.f3 false true false false) := by
  refine law_lifted (C := Try.checked) (by kernel_rfl) started (by kernel_rfl) Try.func3 (by kernel_rfl) Try.underlying4 rfl rfl (by kernel_rfl)
    (ChangeSpec.witness6 (enc := enc) (C := Try.checked) false ⟨#[], #[.int .u8 0, .int .u8 0, .slice none 0 0], []⟩ 8 (by kernel_rfl) (by kernel_rfl) (by kernel_rfl) (by kernel_rfl))
    (fun ds h => by match ds, h with | [_, _, _], _ => rfl) ?_
  intro W base args ds p hval hA
  rw [Try.params3] at hA hval
  obtain ⟨v0, vs0, d0, ds0, p0, q0, hargs0, rfl, rfl, h0, r0⟩ := trodAll_cons hA
  obtain ⟨v1, vs1, d1, ds1, p1, q1, hargs1, rfl, rfl, h1, r1⟩ := trodAll_cons r0
  obtain ⟨v2, vs2, d2, ds2, p2, q2, hargs2, rfl, rfl, h2, r2⟩ := trodAll_cons r1
  obtain ⟨rfl, rfl, rfl⟩ := trodAll_nil r2
  obtain rfl : args = #[v0, v1, v2] := by cases args; simp_all
  obtain ⟨a0, rfl, rfl, rfl, w0⟩ := open_int Try.underlying5 (hval 0 5 v0 rfl rfl) h0
  obtain ⟨a1, rfl, rfl, rfl, w1⟩ := open_int Try.underlying5 (hval 1 5 v1 rfl rfl) h1
  obtain ⟨ao2, n2, cap2, xs2, rfl, ar2, w2⟩ := arg_row (f := fDA) Try.underlying22 (by kernel_rfl) (by omega) len_fDA open_dact (hval 2 22 v2 rfl rfl) h2
  exact deskPlays_walk a0 a1 ao2 n2 cap2 xs2 W (wf_u8 w0).1 (wf_u8 w0).2 (wf_u8 w1).1 (wf_u8 w1).2 ar2 w2

theorem deskPlays_holds : Rows.DeskPlaysSaid :=
  OpenClaim.holds_of_wide 3 Try.f3 rfl rfl rfl rfl rfl rfl rfl ⟨rfl, rfl, rfl, rfl, rfl⟩ rfl rfl rfl rfl rfl (by kernel_rfl) Try.func3 (by kernel_rfl)
    (of_decide_eq_true (by kernel_rfl)) (by unfold Func.isWrapper; first | (rw [if_pos (by decide +kernel)]; kernel_rfl) | (rw [if_neg (by decide +kernel)]; exact ⟨rfl, rfl⟩))
    (fun os started H enc _ => deskPlays_lifted os started H enc)
#print axioms deskPlays_holds
end Go.Proofs.Ytkcgbenhnhbhhab

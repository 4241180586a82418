/-
  'TreePaths' holds, as a tied card: each node that is the first of its name, as all are on the way to it, is found by its path; what is in the trash isn't found by its own (up to thirty small operations).
-/
import Derived.Test.YtbnipieokpeadaaDoorTreePaths
import Derived.Test.YtbnipieokpeadaaDoorTinyArg
import Derived.Test.YtbnipieokpeadaaDoorTie
import Derived.Test.YtbnipieokpeadaaDoorCards
import Derived.SevenTiedAt
import Derived.LaidMore
import Derived.Lay
import Derived.Stop.Joined
namespace Go.Proofs.YtbnipieokpeadaaDoor
open Go Go.ChangeShapes Go.WideShapes Go.ChangeAt Go.RowKit
set_option linter.unusedVariables false

set_option maxRecDepth 100000 in
theorem treePaths_lifted (os : Os) (started : os.Started) (H : Type) (enc : TypeId × Value → H) :
    ReturnsInHanded {} Tryd.checked os 7 .any (fun w args => (Rows.treePathsSpec.pre enc Tryd.prog Tryd.f7 [] false w args ∧ laidMetH Tryd.prog Rows.treePathsRow.laid w) ∧ sizedMet enc Tryd.prog Tryd.f7 (OpenSpec.ofChange Rows.treePathsSpec) false w args) (Rows.treePathsSpec.post enc Tryd.prog Tryd.f7 false true false false) := by
  refine law_lifted2 (C := Tryd.checked) (X := fun w _ => laidMetH Tryd.prog Rows.treePathsRow.laid w) (by kernel_rfl) started (fun _ _ _ hh h => h.of_heap hh) (by kernel_rfl) Tryd.func7 (by kernel_rfl) Tryd.underlying4 rfl rfl (by kernel_rfl)
    (ChangeSpec.witness_shaped (enc := enc) (C := Tryd.checked) (os := os) (X := fun w _ => laidMetH Tryd.prog Rows.treePathsRow.laid w) false (World.laidAll Tryd.prog os Rows.treePathsRow.laid) #[.slice none 0 0] 8 (World.laidAll_os _ _ _)
      (World.shaped_of_ZipB (by kernel_rfl) (by kernel_rfl)) (by kernel_rfl) (by kernel_rfl) (by kernel_rfl)
      (by rw [MakeChecks.laidMetH_plain _ _ _ (by kernel_rfl)]; exact laidMet_laidAll _ (by kernel_rfl) (by kernel_rfl)))
    (fun ds h => by match ds, h with | [_], _ => rfl) ?_
  intro W base args ds p hval hA hX
  rw [Tryd.params7] at hA hval
  obtain ⟨v0, vs0, d0, ds0, p0, q0, hargs0, rfl, rfl, h0, r0⟩ := trodAll_cons hA
  obtain ⟨rfl, rfl, rfl⟩ := trodAll_nil r0
  obtain rfl : args = #[v0] := by cases args; simp_all
  obtain ⟨ao0, n0, cap0, xs0, rfl, ar0, w0⟩ := arg_row (f := fT) Tryd.underlying22 (by kernel_rfl) (by omega) len_fT open_tiny (hval 0 22 v0 rfl rfl) h0
  exact treePaths_walk ao0 n0 cap0 xs0 W ar0 w0

theorem treePaths_row : Rows.TreePathsSaid :=
  OpenClaim.holds_of_wide 7 Tryd.f7 rfl rfl rfl rfl rfl rfl rfl ⟨rfl, rfl, rfl, rfl, rfl⟩ rfl rfl rfl rfl rfl (by kernel_rfl) Tryd.func7 (by kernel_rfl)
    (of_decide_eq_true (by kernel_rfl)) (by unfold Func.isWrapper; first | (rw [if_pos (by decide +kernel)]; kernel_rfl) | (rw [if_neg (by decide +kernel)]; exact ⟨rfl, rfl⟩))
    (fun os started H enc _ => treePaths_lifted os started H enc)

theorem treePaths_holds : Rows.TreePathsCardSaid :=
  Claim7.holds_tied_plain_at .later [] [.data, .pinned] true (true, "cc3dc273b25829ddc3bca0788de61832e3aee0bafb55e2a0512b52fe897a5032") true
    treePaths_row (fun _ h => by cases h) (by kernel_rfl) (fun _ h => by cases h) treePaths_row_tie rfl ⟨rfl, rfl⟩ (by kernel_rfl) rfl
    (fun f fn hf hfn => by
      obtain rfl : f = 7 := Option.some.inj ((show Tryd.prog.funcNamed "holt/holtlaw07.TreePaths" = some 7 by kernel_rfl).symm.trans hf) |>.symm
      obtain rfl : fn = Tryd.f7 := (Option.some.inj (Tryd.func7.symm.trans hfn)).symm
      exact ⟨by kernel_rfl, fun j t ht => by
        rw [Tryd.params7] at ht
        have hm : t ∈ [22] := by simpa using Array.mem_of_getElem? ht
        have hall : ([22].all fun u => !Tryd.prog.wantsStandIn u) = true := by kernel_rfl
        exact (show Tryd.prog.wantsStandIn t = false by simpa using List.all_eq_true.1 hall t hm)⟩)
    (by kernel_rfl)
#print axioms treePaths_holds
end Go.Proofs.YtbnipieokpeadaaDoor

/-
  'TreeUp' holds, as a tied card: from each known node one comes to the root, or to the trash, going up, and never back to where one was (up to thirty operations of any fields, names of up to sixty bytes).
-/
import Derived.Test.YtbnipieokpeadaaDoorTreeUp
import Derived.Test.YtbnipieokpeadaaDoorLaw2
import Derived.Test.YtbnipieokpeadaaDoorTie
import Derived.Test.YtbnipieokpeadaaDoorCards
import Derived.SevenTiedAt
import Derived.LaidMore
import Derived.Lay
import Derived.Stop.Joined
namespace Go.Proofs.YtbnipieokpeadaaDoor
open Go Go.ChangeShapes Go.WideShapes Go.ChangeAt Go.RowKit
set_option linter.unusedVariables false

set_option maxRecDepth 100000 in
theorem treeUp_lifted (os : Os) (started : os.Started) (H : Type) (enc : TypeId × Value → H) :
    ReturnsInHanded {} Tryd.checked os 5 .any (fun w args => (Rows.treeUpSpec.pre enc Tryd.prog Tryd.f5 [] false w args ∧ laidMetH Tryd.prog Rows.treeUpRow.laid w) ∧ sizedMet enc Tryd.prog Tryd.f5 (OpenSpec.ofChange Rows.treeUpSpec) false w args) (Rows.treeUpSpec.post enc Tryd.prog Tryd.f5 false true false false) := by
  refine law_lifted2 (C := Tryd.checked) (X := fun w _ => laidMetH Tryd.prog Rows.treeUpRow.laid w) (by kernel_rfl) started (fun _ _ _ hh h => h.of_heap hh) (by kernel_rfl) Tryd.func5 (by kernel_rfl) Tryd.underlying4 rfl rfl (by kernel_rfl)
    (ChangeSpec.witness_shaped (enc := enc) (C := Tryd.checked) (os := os) (X := fun w _ => laidMetH Tryd.prog Rows.treeUpRow.laid w) false (World.laidAll Tryd.prog os Rows.treeUpRow.laid) #[.slice none 0 0] 8 (World.laidAll_os _ _ _)
      (World.shaped_of_ZipB (by kernel_rfl) (by kernel_rfl)) (by kernel_rfl) (by kernel_rfl) (by kernel_rfl)
      (by rw [MakeChecks.laidMetH_plain _ _ _ (by kernel_rfl)]; exact laidMet_laidAll _ (by kernel_rfl) (by kernel_rfl)))
    (fun ds h => by match ds, h with | [_], _ => rfl) ?_
  intro W base args ds p hval hA hX
  rw [Tryd.params5] at hA hval
  obtain ⟨v0, vs0, d0, ds0, p0, q0, hargs0, rfl, rfl, h0, r0⟩ := trodAll_cons hA
  obtain ⟨rfl, rfl, rfl⟩ := trodAll_nil r0
  obtain rfl : args = #[v0] := by cases args; simp_all
  obtain ⟨ao0, n0, cap0, xs0, rfl, ar0, w0⟩ := arg_row (f := fO) Tryd.underlying28 (by kernel_rfl) (by omega) len_fO open_op (hval 0 28 v0 rfl rfl) h0
  exact treeUp_walk ao0 n0 cap0 xs0 W ar0 (u8tabs hX)

theorem treeUp_row : Rows.TreeUpSaid :=
  OpenClaim.holds_of_wide 5 Tryd.f5 rfl rfl rfl rfl rfl rfl rfl ⟨rfl, rfl, rfl, rfl, rfl⟩ rfl rfl rfl rfl rfl (by kernel_rfl) Tryd.func5 (by kernel_rfl)
    (of_decide_eq_true (by kernel_rfl)) (by unfold Func.isWrapper; first | (rw [if_pos (by decide +kernel)]; kernel_rfl) | (rw [if_neg (by decide +kernel)]; exact ⟨rfl, rfl⟩))
    (fun os started H enc _ => treeUp_lifted os started H enc)

theorem treeUp_holds : Rows.TreeUpCardSaid :=
  Claim7.holds_tied_plain_at .later [] [.data, .pinned] true (true, "cc3dc273b25829ddc3bca0788de61832e3aee0bafb55e2a0512b52fe897a5032") true
    treeUp_row (fun _ h => by cases h) (by kernel_rfl) (fun _ h => by cases h) treeUp_row_tie rfl ⟨rfl, rfl⟩ (by kernel_rfl) rfl
    (fun f fn hf hfn => by
      obtain rfl : f = 5 := Option.some.inj ((show Tryd.prog.funcNamed "holt/holtlaw07.TreeUp" = some 5 by kernel_rfl).symm.trans hf) |>.symm
      obtain rfl : fn = Tryd.f5 := (Option.some.inj (Tryd.func5.symm.trans hfn)).symm
      exact ⟨by kernel_rfl, fun j t ht => by
        rw [Tryd.params5] at ht
        have hm : t ∈ [28] := by simpa using Array.mem_of_getElem? ht
        have hall : ([28].all fun u => !Tryd.prog.wantsStandIn u) = true := by kernel_rfl
        exact (show Tryd.prog.wantsStandIn t = false by simpa using List.all_eq_true.1 hall t hm)⟩)
    (by kernel_rfl)
#print axioms treeUp_holds
end Go.Proofs.YtbnipieokpeadaaDoor

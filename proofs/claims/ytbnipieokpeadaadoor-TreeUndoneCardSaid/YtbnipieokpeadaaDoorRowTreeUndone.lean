/-
  'TreeUndone' holds, as a tied card: undone, all is what it was; done again, what it was then (up to thirty operations of any fields, names of up to sixty bytes; how many are undone).
-/
import Derived.Test.YtbnipieokpeadaaDoorTreeUndone
import Derived.Test.YtbnipieokpeadaaDoorLaw2
import Derived.Test.YtbnipieokpeadaaDoorTie
import Derived.Test.YtbnipieokpeadaaDoorCards
import Derived.SevenTiedAt
import Derived.LaidMore
import Derived.Lay
import Derived.Stop.Joined
namespace Go.Proofs.YtbnipieokpeadaaDoor
open Go Go.ChangeShapes Go.WideShapes Go.ChangeAt Go.RowKit
set_option linter.unusedVariables false

set_option maxRecDepth 100000 in
theorem treeUndone_lifted (os : Os) (started : os.Started) (H : Type) (enc : TypeId × Value → H) :
    ReturnsInHanded {} Tryd.checked os 8 .any (fun w args => (Rows.treeUndoneSpec.pre enc Tryd.prog Tryd.f8 [] false w args ∧ laidMetH Tryd.prog Rows.treeUndoneRow.laid w) ∧ sizedMet enc Tryd.prog Tryd.f8 (OpenSpec.ofChange Rows.treeUndoneSpec) false w args) (Rows.treeUndoneSpec.post enc Tryd.prog Tryd.f8 false true false false) := by
  refine law_lifted2 (C := Tryd.checked) (X := fun w _ => laidMetH Tryd.prog Rows.treeUndoneRow.laid w) (by kernel_rfl) started (fun _ _ _ hh h => h.of_heap hh) (by kernel_rfl) Tryd.func8 (by kernel_rfl) Tryd.underlying4 rfl rfl (by kernel_rfl)
    (ChangeSpec.witness_shaped (enc := enc) (C := Tryd.checked) (os := os) (X := fun w _ => laidMetH Tryd.prog Rows.treeUndoneRow.laid w) false (World.laidAll Tryd.prog os Rows.treeUndoneRow.laid) #[.slice none 0 0, .int .u8 0] 8 (World.laidAll_os _ _ _)
      (World.shaped_of_ZipB (by kernel_rfl) (by kernel_rfl)) (by kernel_rfl) (by kernel_rfl) (by kernel_rfl)
      (by rw [MakeChecks.laidMetH_plain _ _ _ (by kernel_rfl)]; exact laidMet_laidAll _ (by kernel_rfl) (by kernel_rfl)))
    (fun ds h => by match ds, h with | [_, _], _ => rfl) ?_
  intro W base args ds p hval hA hX
  rw [Tryd.params8] at hA hval
  obtain ⟨v0, vs0, d0, ds0, p0, q0, hargs0, rfl, rfl, h0, r0⟩ := trodAll_cons hA
  obtain ⟨v1, vs1, d1, ds1, p1, q1, hargs1, rfl, rfl, h1, r1⟩ := trodAll_cons r0
  obtain ⟨rfl, rfl, rfl⟩ := trodAll_nil r1
  obtain rfl : args = #[v0, v1] := by cases args; simp_all
  obtain ⟨ao0, n0, cap0, xs0, rfl, ar0, w0⟩ := arg_row (f := fO) Tryd.underlying28 (by kernel_rfl) (by omega) len_fO open_op (hval 0 28 v0 rfl rfl) h0
  obtain ⟨a1, rfl, rfl, rfl, w1⟩ := open_int Tryd.underlying5 (hval 1 5 v1 rfl rfl) h1
  exact treeUndone_walk ao0 n0 cap0 xs0 a1 W ar0 (wf_u8 w1).1 (wf_u8 w1).2 (u8tabs hX)

theorem treeUndone_row : Rows.TreeUndoneSaid :=
  OpenClaim.holds_of_wide 8 Tryd.f8 rfl rfl rfl rfl rfl rfl rfl ⟨rfl, rfl, rfl, rfl, rfl⟩ rfl rfl rfl rfl rfl (by kernel_rfl) Tryd.func8 (by kernel_rfl)
    (of_decide_eq_true (by kernel_rfl)) (by unfold Func.isWrapper; first | (rw [if_pos (by decide +kernel)]; kernel_rfl) | (rw [if_neg (by decide +kernel)]; exact ⟨rfl, rfl⟩))
    (fun os started H enc _ => treeUndone_lifted os started H enc)

theorem treeUndone_holds : Rows.TreeUndoneCardSaid :=
  Claim7.holds_tied_plain_at .later [] [.data, .pinned] true (true, "cc3dc273b25829ddc3bca0788de61832e3aee0bafb55e2a0512b52fe897a5032") true
    treeUndone_row (fun _ h => by cases h) (by kernel_rfl) (fun _ h => by cases h) treeUndone_row_tie rfl ⟨rfl, rfl⟩ (by kernel_rfl) rfl
    (fun f fn hf hfn => by
      obtain rfl : f = 8 := Option.some.inj ((show Tryd.prog.funcNamed "holt/holtlaw07.TreeUndone" = some 8 by kernel_rfl).symm.trans hf) |>.symm
      obtain rfl : fn = Tryd.f8 := (Option.some.inj (Tryd.func8.symm.trans hfn)).symm
      exact ⟨by kernel_rfl, fun j t ht => by
        rw [Tryd.params8] at ht
        have hm : t ∈ [28, 5] := by simpa using Array.mem_of_getElem? ht
        have hall : ([28, 5].all fun u => !Tryd.prog.wantsStandIn u) = true := by kernel_rfl
        exact (show Tryd.prog.wantsStandIn t = false by simpa using List.all_eq_true.1 hall t hm)⟩)
    (by kernel_rfl)
#print axioms treeUndone_holds
end Go.Proofs.YtbnipieokpeadaaDoor

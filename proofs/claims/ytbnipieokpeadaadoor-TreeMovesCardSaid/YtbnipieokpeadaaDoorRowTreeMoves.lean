/-
  'TreeMoves' holds, as a tied card: a node is put where it is told just where it wasn't above that; all others stay, and all below it go with it (up to thirty small operations, and one more).
-/
import Derived.Test.YtbnipieokpeadaaDoorTreeMoves
import Derived.Test.YtbnipieokpeadaaDoorTinyArg
import Derived.Test.YtbnipieokpeadaaDoorTie
import Derived.Test.YtbnipieokpeadaaDoorCards
import Derived.SevenTiedAt
import Derived.LaidMore
import Derived.Lay
import Derived.Stop.Joined
namespace Go.Proofs.YtbnipieokpeadaaDoor
open Go Go.ChangeShapes Go.WideShapes Go.ChangeAt Go.RowKit
set_option linter.unusedVariables false

set_option maxRecDepth 100000 in
theorem treeMoves_lifted (os : Os) (started : os.Started) (H : Type) (enc : TypeId × Value → H) :
    ReturnsInHanded {} Tryd.checked os 6 .any (fun w args => (Rows.treeMovesSpec.pre enc Tryd.prog Tryd.f6 [] false w args ∧ laidMetH Tryd.prog Rows.treeMovesRow.laid w) ∧ sizedMet enc Tryd.prog Tryd.f6 (OpenSpec.ofChange Rows.treeMovesSpec) false w args) (Rows.treeMovesSpec.post enc Tryd.prog Tryd.f6 false true false false) := by
  refine law_lifted2 (C := Tryd.checked) (X := fun w _ => laidMetH Tryd.prog Rows.treeMovesRow.laid w) (by kernel_rfl) started (fun _ _ _ hh h => h.of_heap hh) (by kernel_rfl) Tryd.func6 (by kernel_rfl) Tryd.underlying4 rfl rfl (by kernel_rfl)
    (ChangeSpec.witness_shaped (enc := enc) (C := Tryd.checked) (os := os) (X := fun w _ => laidMetH Tryd.prog Rows.treeMovesRow.laid w) false (World.laidAll Tryd.prog os Rows.treeMovesRow.laid) #[.slice none 0 0, .agg #[.int .u8 0, .int .u8 0, .int .u8 0, .int .u8 0, .int .u8 0]] 8 (World.laidAll_os _ _ _)
      (World.shaped_of_ZipB (by kernel_rfl) (by kernel_rfl)) (by kernel_rfl) (by kernel_rfl) (by kernel_rfl)
      (by rw [MakeChecks.laidMetH_plain _ _ _ (by kernel_rfl)]; exact laidMet_laidAll _ (by kernel_rfl) (by kernel_rfl)))
    (fun ds h => by match ds, h with | [_, _], _ => rfl) ?_
  intro W base args ds p hval hA hX
  rw [Tryd.params6] at hA hval
  obtain ⟨v0, vs0, d0, ds0, p0, q0, hargs0, rfl, rfl, h0, r0⟩ := trodAll_cons hA
  obtain ⟨v1, vs1, d1, ds1, p1, q1, hargs1, rfl, rfl, h1, r1⟩ := trodAll_cons r0
  obtain ⟨rfl, rfl, rfl⟩ := trodAll_nil r1
  obtain rfl : args = #[v0, v1] := by cases args; simp_all
  obtain ⟨ao0, n0, cap0, xs0, rfl, ar0, w0⟩ := arg_row (f := fT) Tryd.underlying22 (by kernel_rfl) (by omega) len_fT open_tiny (hval 0 22 v0 rfl rfl) h0
  obtain ⟨x1, rfl, w1⟩ := arg_tiny (hval 1 24 v1 rfl rfl) h1
  exact treeMoves_walk ao0 n0 cap0 xs0 x1 W ar0 w0 w1

theorem treeMoves_row : Rows.TreeMovesSaid :=
  OpenClaim.holds_of_wide 6 Tryd.f6 rfl rfl rfl rfl rfl rfl rfl ⟨rfl, rfl, rfl, rfl, rfl⟩ rfl rfl rfl rfl rfl (by kernel_rfl) Tryd.func6 (by kernel_rfl)
    (of_decide_eq_true (by kernel_rfl)) (by unfold Func.isWrapper; first | (rw [if_pos (by decide +kernel)]; kernel_rfl) | (rw [if_neg (by decide +kernel)]; exact ⟨rfl, rfl⟩))
    (fun os started H enc _ => treeMoves_lifted os started H enc)

theorem treeMoves_holds : Rows.TreeMovesCardSaid :=
  Claim7.holds_tied_plain_at .later [] [.data, .pinned] true (true, "cc3dc273b25829ddc3bca0788de61832e3aee0bafb55e2a0512b52fe897a5032") true
    treeMoves_row (fun _ h => by cases h) (by kernel_rfl) (fun _ h => by cases h) treeMoves_row_tie rfl ⟨rfl, rfl⟩ (by kernel_rfl) rfl
    (fun f fn hf hfn => by
      obtain rfl : f = 6 := Option.some.inj ((show Tryd.prog.funcNamed "holt/holtlaw07.TreeMoves" = some 6 by kernel_rfl).symm.trans hf) |>.symm
      obtain rfl : fn = Tryd.f6 := (Option.some.inj (Tryd.func6.symm.trans hfn)).symm
      exact ⟨by kernel_rfl, fun j t ht => by
        rw [Tryd.params6] at ht
        have hm : t ∈ [22, 24] := by simpa using Array.mem_of_getElem? ht
        have hall : ([22, 24].all fun u => !Tryd.prog.wantsStandIn u) = true := by kernel_rfl
        exact (show Tryd.prog.wantsStandIn t = false by simpa using List.all_eq_true.1 hall t hm)⟩)
    (by kernel_rfl)
#print axioms treeMoves_holds
end Go.Proofs.YtbnipieokpeadaaDoor

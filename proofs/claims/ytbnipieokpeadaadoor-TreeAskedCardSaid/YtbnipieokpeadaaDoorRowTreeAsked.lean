/-
  'TreeAsked' holds, as a tied card: whether any node is above any other one, and where any path leads, is as the document says (up to thirty small operations; any two numbers; up to five hundred bytes).
-/
import Derived.Test.YtbnipieokpeadaaDoorTreeAsked
import Derived.Test.YtbnipieokpeadaaDoorGA
import Derived.Test.YtbnipieokpeadaaDoorGM
import Derived.Test.YtbnipieokpeadaaDoorTie
import Derived.Test.YtbnipieokpeadaaDoorCards
import Derived.SevenTiedAt
import Derived.LaidMore
import Derived.Lay
import Derived.Stop.Joined
namespace Go.Proofs.YtbnipieokpeadaaDoor
open Go Go.ChangeShapes Go.WideShapes Go.ChangeAt Go.RowKit
set_option linter.unusedVariables false

set_option maxRecDepth 100000 in
theorem treeAsked_lifted (os : Os) (started : os.Started) (H : Type) (enc : TypeId × Value → H) :
    ReturnsInHanded {} Tryd.checked os 4 .any (fun w args => (Rows.treeAskedSpec.pre enc Tryd.prog Tryd.f4 [] false w args ∧ laidMetH Tryd.prog Rows.treeAskedRow.laid w) ∧ sizedMet enc Tryd.prog Tryd.f4 (OpenSpec.ofChange Rows.treeAskedSpec) false w args) (Rows.treeAskedSpec.post enc Tryd.prog Tryd.f4 false true false false) := by
  refine law_lifted2 (C := Tryd.checked) (X := fun w _ => laidMetH Tryd.prog Rows.treeAskedRow.laid w) (by kernel_rfl) started (fun _ _ _ hh h => h.of_heap hh) (by kernel_rfl) Tryd.func4 (by kernel_rfl) Tryd.underlying4 rfl rfl (by kernel_rfl)
    (ChangeSpec.witness_shaped (enc := enc) (C := Tryd.checked) (os := os) (X := fun w _ => laidMetH Tryd.prog Rows.treeAskedRow.laid w) false (World.laidAll Tryd.prog os Rows.treeAskedRow.laid) #[.slice none 0 0, .int .i64 0, .int .i64 0, .string ⟨#[]⟩] 8 (World.laidAll_os _ _ _)
      (World.shaped_of_ZipB (by kernel_rfl) (by kernel_rfl)) (by kernel_rfl) (by kernel_rfl) (by kernel_rfl)
      (by rw [MakeChecks.laidMetH_plain _ _ _ (by kernel_rfl)]; exact laidMet_laidAll _ (by kernel_rfl) (by kernel_rfl)))
    (fun ds h => by match ds, h with | [_, _, _, _], _ => rfl) ?_
  intro W base args ds p hval hA hX
  rw [Tryd.params4] at hA hval
  obtain ⟨v0, vs0, d0, ds0, p0, q0, hargs0, rfl, rfl, h0, r0⟩ := trodAll_cons hA
  obtain ⟨v1, vs1, d1, ds1, p1, q1, hargs1, rfl, rfl, h1, r1⟩ := trodAll_cons r0
  obtain ⟨v2, vs2, d2, ds2, p2, q2, hargs2, rfl, rfl, h2, r2⟩ := trodAll_cons r1
  obtain ⟨v3, vs3, d3, ds3, p3, q3, hargs3, rfl, rfl, h3, r3⟩ := trodAll_cons r2
  obtain ⟨rfl, rfl, rfl⟩ := trodAll_nil r3
  obtain rfl : args = #[v0, v1, v2, v3] := by cases args; simp_all
  obtain ⟨ao0, n0, cap0, xs0, rfl, ar0, w0⟩ := arg_row (f := fT) Tryd.underlying22 (by kernel_rfl) (by omega) len_fT open_tiny (hval 0 22 v0 rfl rfl) h0
  obtain ⟨a1, rfl, rfl, rfl, w1⟩ := open_int Tryd.underlying3 (hval 1 3 v1 rfl rfl) h1
  obtain ⟨a2, rfl, rfl, rfl, w2⟩ := open_int Tryd.underlying3 (hval 2 3 v2 rfl rfl) h2
  obtain ⟨a3, rfl, rfl, rfl, w3⟩ := Go.ChangeMaps.open_string Tryd.underlying9 (hval 3 9 v3 rfl rfl) h3
  exact treeAsked_walk ao0 n0 cap0 xs0 a1 a2 a3 W ar0 w0 (u8tabs hX)

theorem treeAsked_row : Rows.TreeAskedSaid :=
  OpenClaim.holds_of_wide 4 Tryd.f4 rfl rfl rfl rfl rfl rfl rfl ⟨rfl, rfl, rfl, rfl, rfl⟩ rfl rfl rfl rfl rfl (by kernel_rfl) Tryd.func4 (by kernel_rfl)
    (of_decide_eq_true (by kernel_rfl)) (by unfold Func.isWrapper; first | (rw [if_pos (by decide +kernel)]; kernel_rfl) | (rw [if_neg (by decide +kernel)]; exact ⟨rfl, rfl⟩))
    (fun os started H enc _ => treeAsked_lifted os started H enc)

theorem treeAsked_holds : Rows.TreeAskedCardSaid :=
  Claim7.holds_tied_plain_at .later [] [.data, .pinned] true (true, "cc3dc273b25829ddc3bca0788de61832e3aee0bafb55e2a0512b52fe897a5032") true
    treeAsked_row (fun _ h => by cases h) (by kernel_rfl) (fun _ h => by cases h) treeAsked_row_tie rfl ⟨rfl, rfl⟩ (by kernel_rfl) rfl
    (fun f fn hf hfn => by
      obtain rfl : f = 4 := Option.some.inj ((show Tryd.prog.funcNamed "holt/holtlaw07.TreeAsked" = some 4 by kernel_rfl).symm.trans hf) |>.symm
      obtain rfl : fn = Tryd.f4 := (Option.some.inj (Tryd.func4.symm.trans hfn)).symm
      exact ⟨by kernel_rfl, fun j t ht => by
        rw [Tryd.params4] at ht
        have hm : t ∈ [22, 3, 3, 9] := by simpa using Array.mem_of_getElem? ht
        have hall : ([22, 3, 3, 9].all fun u => !Tryd.prog.wantsStandIn u) = true := by kernel_rfl
        exact (show Tryd.prog.wantsStandIn t = false by simpa using List.all_eq_true.1 hall t hm)⟩)
    (by kernel_rfl)
#print axioms treeAsked_holds
end Go.Proofs.YtbnipieokpeadaaDoor

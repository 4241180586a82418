/-
  'FinderTwo' holds, as a tied card: two who read, node by node, by turns, don't meet: each finds what it finds alone (up to thirty small operations; two paths of up to five hundred bytes; who goes on, told by small numbers).
-/
import Derived.Test.YtddglbjhhnipgaaGreatDoorFTwo
import Derived.Test.YtddglbjhhnipgaaGreatDoorGM
import Derived.Test.YtddglbjhhnipgaaGreatDoorGA
import Derived.Test.YtddglbjhhnipgaaGreatDoorTie
import Derived.Test.YtddglbjhhnipgaaGreatDoorCards
import Derived.SevenTiedAt
import Derived.LaidMore
import Derived.Lay
import Derived.Stop.Joined
namespace Go.Proofs.YtddglbjhhnipgaaGreatDoor
open Go Go.ChangeShapes Go.WideShapes Go.ChangeAt Go.RowKit
set_option linter.unusedVariables false

set_option maxRecDepth 100000 in
theorem finderTwo_lifted (os : Os) (started : os.Started) (H : Type) (enc : TypeId × Value → H) :
    ReturnsInHanded {} Tryz.checked os 8 .any (fun w args => (Rows.finderTwoSpec.pre enc Tryz.prog Tryz.f8 [] false w args ∧ laidMetH Tryz.prog Rows.finderTwoRow.laid w) ∧ sizedMet enc Tryz.prog Tryz.f8 (OpenSpec.ofChange Rows.finderTwoSpec) false w args) (Rows.finderTwoSpec.post enc Tryz.prog Tryz.f8 false true false false) := by
  refine law_lifted2 (C := Tryz.checked) (X := fun w _ => laidMetH Tryz.prog Rows.finderTwoRow.laid w) (by kernel_rfl) started (fun _ _ _ hh h => h.of_heap hh) (by kernel_rfl) Tryz.func8 (by kernel_rfl) Tryz.underlying4 rfl rfl (by kernel_rfl)
    (ChangeSpec.witness_shaped (enc := enc) (C := Tryz.checked) (os := os) (X := fun w _ => laidMetH Tryz.prog Rows.finderTwoRow.laid w) false (World.laidAll Tryz.prog os Rows.finderTwoRow.laid) #[.slice none 0 0, .string ⟨#[]⟩, .string ⟨#[]⟩, .slice none 0 0] 8 (World.laidAll_os _ _ _)
      (World.shaped_of_ZipB (by kernel_rfl) (by kernel_rfl)) (by kernel_rfl) (by kernel_rfl) (by kernel_rfl)
      (by rw [MakeChecks.laidMetH_plain _ _ _ (by kernel_rfl)]; exact laidMet_laidAll _ (by kernel_rfl) (by kernel_rfl)))
    (fun ds h => by match ds, h with | [_, _, _, _], _ => rfl) ?_
  intro W base args ds p hval hA hX
  rw [Tryz.params8] at hA hval
  obtain ⟨v0, vs0, d0, ds0, p0, q0, hargs0, rfl, rfl, h0, r0⟩ := trodAll_cons hA
  obtain ⟨v1, vs1, d1, ds1, p1, q1, hargs1, rfl, rfl, h1, r1⟩ := trodAll_cons r0
  obtain ⟨v2, vs2, d2, ds2, p2, q2, hargs2, rfl, rfl, h2, r2⟩ := trodAll_cons r1
  obtain ⟨v3, vs3, d3, ds3, p3, q3, hargs3, rfl, rfl, h3, r3⟩ := trodAll_cons r2
  obtain ⟨rfl, rfl, rfl⟩ := trodAll_nil r3
  obtain rfl : args = #[v0, v1, v2, v3] := by cases args; simp_all
  obtain ⟨ao0, n0, cap0, xs0, rfl, ar0, w0⟩ := arg_row (f := fT) Tryz.underlying54 (by kernel_rfl) (by omega) len_fT open_tiny (hval 0 54 v0 rfl rfl) h0
  obtain ⟨a1, rfl, rfl, rfl, w1⟩ := Go.ChangeMaps.open_string Tryz.underlying9 (hval 1 9 v1 rfl rfl) h1
  obtain ⟨a2, rfl, rfl, rfl, w2⟩ := Go.ChangeMaps.open_string Tryz.underlying9 (hval 2 9 v2 rfl rfl) h2
  obtain ⟨ao3, n3, cap3, xs3, rfl, ar3, w3⟩ := arg_u8s Tryz.underlying22 Tryz.underlying5 (by kernel_rfl) (hval 3 22 v3 rfl rfl) h3
  exact finderTwo_walk ao0 n0 cap0 xs0 a1 a2 ao3 n3 cap3 xs3 W ar0 w0 ar3 (fun x hx => wf_u8 (w3 x hx)) (u8tabs hX)

theorem finderTwo_row : Rows.FinderTwoSaid :=
  OpenClaim.holds_of_wide 8 Tryz.f8 rfl rfl rfl rfl rfl rfl rfl ⟨rfl, rfl, rfl, rfl, rfl⟩ rfl rfl rfl rfl rfl (by kernel_rfl) Tryz.func8 (by kernel_rfl)
    (of_decide_eq_true (by kernel_rfl)) (by unfold Func.isWrapper; first | (rw [if_pos (by decide +kernel)]; kernel_rfl) | (rw [if_neg (by decide +kernel)]; exact ⟨rfl, rfl⟩))
    (fun os started H enc _ => finderTwo_lifted os started H enc)

theorem finderTwo_holds : Rows.FinderTwoCardSaid :=
  Claim7.holds_tied_plain_at .later [] [.data, .pinned] true (true, "f4eec98776588dca81ef620558350302ef699c962e32c7f46b816f5a4ad8ed4f") false
    finderTwo_row (fun _ h => by cases h) (by kernel_rfl) (fun _ h => by cases h) finderTwo_row_tie rfl ⟨rfl, rfl⟩ (by kernel_rfl) rfl
    (fun f fn hf hfn => by
      obtain rfl : f = 8 := Option.some.inj ((show Tryz.prog.funcNamed "holt/holtlaw13.FinderTwo" = some 8 by kernel_rfl).symm.trans hf) |>.symm
      obtain rfl : fn = Tryz.f8 := (Option.some.inj (Tryz.func8.symm.trans hfn)).symm
      exact ⟨by kernel_rfl, fun j t ht => by
        rw [Tryz.params8] at ht
        have hm : t ∈ [54, 9, 9, 22] := by simpa using Array.mem_of_getElem? ht
        have hall : ([54, 9, 9, 22].all fun u => !Tryz.prog.wantsStandIn u) = true := by kernel_rfl
        exact (show Tryz.prog.wantsStandIn t = false by simpa using List.all_eq_true.1 hall t hm)⟩)
    (by kernel_rfl)
#print axioms finderTwo_holds
end Go.Proofs.YtddglbjhhnipgaaGreatDoor

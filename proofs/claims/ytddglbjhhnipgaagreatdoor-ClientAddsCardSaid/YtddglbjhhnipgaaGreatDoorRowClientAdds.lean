/-
  'ClientAdds' holds, as a tied card: calls are done one after the other, in order, those that are added, too; each has its answer (up to twelve paths that are looked up, of up to 450 bytes, and how many of them are added behind the first ones; up to twelve small operations).
-/
import Derived.Test.YtddglbjhhnipgaaGreatDoorHO
import Derived.Test.YtddglbjhhnipgaaGreatDoorGM
import Derived.Test.YtddglbjhhnipgaaGreatDoorGA
import Derived.Test.YtddglbjhhnipgaaGreatDoorTie
import Derived.Test.YtddglbjhhnipgaaGreatDoorCards
import Derived.SevenTiedAt
import Derived.LaidMore
import Derived.Lay
import Derived.Stop.Joined
namespace Go.Proofs.YtddglbjhhnipgaaGreatDoor
open Go Go.ChangeShapes Go.WideShapes Go.ChangeAt Go.RowKit
set_option linter.unusedVariables false
set_option linter.unusedSimpArgs false
set_option maxRecDepth 100000
set_option maxHeartbeats 8000000
theorem clientAdds_lifted (os : Os) (started : os.Started) (H : Type) (enc : TypeId × Value → H) :
   ReturnsInHanded {} Tryz.checked os 9 .any (fun w args => (Rows.clientAddsSpec.pre enc Tryz.prog Tryz.f9 [] false w args ∧ laidMetH Tryz.prog Rows.clientAddsRow.laid w) ∧ sizedMet enc Tryz.prog Tryz.f9 (OpenSpec.ofChange Rows.clientAddsSpec) false w args) (Rows.clientAddsSpec.post enc Tryz.prog Tryz.f9 false true false false) := by
 refine law_lifted2 (C := Tryz.checked) (X := fun w _ => laidMetH Tryz.prog Rows.clientAddsRow.laid w) (by kernel_rfl) started (fun _ _ _ hh h => h.of_heap hh) (by kernel_rfl) Tryz.func9 (by kernel_rfl) Tryz.underlying4 rfl rfl (by kernel_rfl)
   (ChangeSpec.witness_shaped (enc := enc) (C := Tryz.checked) (os := os) (X := fun w _ => laidMetH Tryz.prog Rows.clientAddsRow.laid w) false (World.laidAll Tryz.prog os Rows.clientAddsRow.laid) #[.slice none 0 0, .slice none 0 0, .int .u8 0] 8 (World.laidAll_os _ _ _)
     (World.shaped_of_ZipB (by kernel_rfl) (by kernel_rfl)) (by kernel_rfl) (by kernel_rfl) (by kernel_rfl)
     (by rw [MakeChecks.laidMetH_plain _ _ _ (by kernel_rfl)]; exact laidMet_laidAll _ (by kernel_rfl) (by kernel_rfl)))
   (fun ds h => by match ds, h with | [_, _, _], _ => rfl) ?_
 intro W base args ds p hval hA hX
 rw [Tryz.params9] at hA hval
 obtain ⟨v0, vs0, d0, ds0, p0, q0, hargs0, rfl, rfl, h0, r0⟩ := trodAll_cons hA
 obtain ⟨v1, vs1, d1, ds1, p1, q1, hargs1, rfl, rfl, h1, r1⟩ := trodAll_cons r0
 obtain ⟨v2, vs2, d2, ds2, p2, q2, hargs2, rfl, rfl, h2, r2⟩ := trodAll_cons r1
 obtain ⟨rfl, rfl, rfl⟩ := trodAll_nil r2
 obtain rfl : args = #[v0, v1, v2] := by cases args; simp_all
 obtain ⟨ao0, n0, cap0, xs0, rfl, ar0, w0⟩ := arg_row (f := fT) Tryz.underlying54 (by kernel_rfl) (by omega) len_fT open_tiny (hval 0 54 v0 rfl rfl) h0
 obtain ⟨ao1, n1, cap1, xs1, rfl, ar1, w1⟩ := arg_row (f := fSt) Tryz.underlying69 (by kernel_rfl) (by omega) len_fStA open_st (hval 1 69 v1 rfl rfl) h1
 obtain ⟨a2, rfl, rfl, rfl, w2⟩ := open_int Tryz.underlying5 (hval 2 5 v2 rfl rfl) h2
 exact clientAdds_walk ao0 n0 cap0 xs0 ao1 n1 cap1 xs1 a2 W ar0 w0 ar1 (wf_u8 w2).1 (wf_u8 w2).2 (u8tabs hX)
theorem clientAdds_row : Rows.ClientAddsSaid :=
 OpenClaim.holds_of_wide 9 Tryz.f9 rfl rfl rfl rfl rfl rfl rfl ⟨rfl, rfl, rfl, rfl, rfl⟩ rfl rfl rfl rfl rfl (by kernel_rfl) Tryz.func9 (by kernel_rfl)
   (of_decide_eq_true (by kernel_rfl)) (by unfold Func.isWrapper; first | (rw [if_pos (by decide +kernel)]; kernel_rfl) | (rw [if_neg (by decide +kernel)]; exact ⟨rfl, rfl⟩))
   (fun os started H enc _ => clientAdds_lifted os started H enc)
theorem clientAdds_holds : Rows.ClientAddsCardSaid :=
 Claim7.holds_tied_plain_at .later [] [.data, .pinned] true (true, "f4eec98776588dca81ef620558350302ef699c962e32c7f46b816f5a4ad8ed4f") false
   clientAdds_row (fun _ h => by cases h) (by kernel_rfl) (fun _ h => by cases h) clientAdds_row_tie rfl ⟨rfl, rfl⟩ (by kernel_rfl) rfl
   (fun f fn hf hfn => by
     obtain rfl : f = 9 := Option.some.inj ((show Tryz.prog.funcNamed "holt/holtlaw19.ClientAdds" = some 9 by kernel_rfl).symm.trans hf) |>.symm
     obtain rfl : fn = Tryz.f9 := (Option.some.inj (Tryz.func9.symm.trans hfn)).symm
     exact ⟨by kernel_rfl, fun j t ht => by
       rw [Tryz.params9] at ht
       have hm : t ∈ [54, 69, 5] := by simpa using Array.mem_of_getElem? ht
       have hall : ([54, 69, 5].all fun u => !Tryz.prog.wantsStandIn u) = true := by kernel_rfl
       exact (show Tryz.prog.wantsStandIn t = false by simpa using List.all_eq_true.1 hall t hm)⟩)
   (by kernel_rfl)
#print axioms clientAdds_holds
end Go.Proofs.YtddglbjhhnipgaaGreatDoor

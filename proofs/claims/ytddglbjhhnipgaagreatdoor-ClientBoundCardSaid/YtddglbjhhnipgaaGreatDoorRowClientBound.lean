/-
  'ClientBound' holds, as a tied card: a read ends within its own steps, whatever is published, and sent, and pinned between them: 4, and as many as the path's length, times the height, asks for, with a list as many more as are listed, and two times the height (up to twelve small operations; a path of up to 450 bytes; numbers of versions without nodes that are published between).
-/
import Derived.Test.YtddglbjhhnipgaaGreatDoorCBound
import Derived.Test.YtddglbjhhnipgaaGreatDoorGM
import Derived.Test.YtddglbjhhnipgaaGreatDoorGA
import Derived.Test.YtddglbjhhnipgaaGreatDoorTie
import Derived.Test.YtddglbjhhnipgaaGreatDoorCards
import Derived.SevenTiedAt
import Derived.LaidMore
import Derived.Lay
import Derived.Stop.Joined
namespace Go.Proofs.YtddglbjhhnipgaaGreatDoor
open Go Go.ChangeShapes Go.WideShapes Go.ChangeAt Go.RowKit
set_option linter.unusedVariables false
set_option linter.unusedSimpArgs false
set_option maxRecDepth 100000
set_option maxHeartbeats 8000000
theorem clientBound_lifted (os : Os) (started : os.Started) (H : Type) (enc : TypeId × Value → H) :
   ReturnsInHanded {} Tryz.checked os 10 .any (fun w args => (Rows.clientBoundSpec.pre enc Tryz.prog Tryz.f10 [] false w args ∧ laidMetH Tryz.prog Rows.clientBoundRow.laid w) ∧ sizedMet enc Tryz.prog Tryz.f10 (OpenSpec.ofChange Rows.clientBoundSpec) false w args) (Rows.clientBoundSpec.post enc Tryz.prog Tryz.f10 false true false false) := by
 refine law_lifted2 (C := Tryz.checked) (X := fun w _ => laidMetH Tryz.prog Rows.clientBoundRow.laid w) (by kernel_rfl) started (fun _ _ _ hh h => h.of_heap hh) (by kernel_rfl) Tryz.func10 (by kernel_rfl) Tryz.underlying4 rfl rfl (by kernel_rfl)
   (ChangeSpec.witness_shaped (enc := enc) (C := Tryz.checked) (os := os) (X := fun w _ => laidMetH Tryz.prog Rows.clientBoundRow.laid w) false (World.laidAll Tryz.prog os Rows.clientBoundRow.laid) #[.slice none 0 0, .bool false, .string ⟨#[]⟩, .slice none 0 0] 8 (World.laidAll_os _ _ _)
     (World.shaped_of_ZipB (by kernel_rfl) (by kernel_rfl)) (by kernel_rfl) (by kernel_rfl) (by kernel_rfl)
     (by rw [MakeChecks.laidMetH_plain _ _ _ (by kernel_rfl)]; exact laidMet_laidAll _ (by kernel_rfl) (by kernel_rfl)))
   (fun ds h => by match ds, h with | [_, _, _, _], _ => rfl) ?_
 intro W base args ds p hval hA hX
 rw [Tryz.params10] at hA hval
 obtain ⟨v0, vs0, d0, ds0, p0, q0, hargs0, rfl, rfl, h0, r0⟩ := trodAll_cons hA
 obtain ⟨v1, vs1, d1, ds1, p1, q1, hargs1, rfl, rfl, h1, r1⟩ := trodAll_cons r0
 obtain ⟨v2, vs2, d2, ds2, p2, q2, hargs2, rfl, rfl, h2, r2⟩ := trodAll_cons r1
 obtain ⟨v3, vs3, d3, ds3, p3, q3, hargs3, rfl, rfl, h3, r3⟩ := trodAll_cons r2
 obtain ⟨rfl, rfl, rfl⟩ := trodAll_nil r3
 obtain rfl : args = #[v0, v1, v2, v3] := by cases args; simp_all
 obtain ⟨ao0, n0, cap0, xs0, rfl, ar0, w0⟩ := arg_row (f := fT) Tryz.underlying54 (by kernel_rfl) (by omega) len_fT open_tiny (hval 0 54 v0 rfl rfl) h0
 obtain ⟨a1, rfl, rfl, rfl⟩ := open_bool Tryz.underlying4 (hval 1 4 v1 rfl rfl) h1
 obtain ⟨a2, rfl, rfl, rfl, w2⟩ := Go.ChangeMaps.open_string Tryz.underlying9 (hval 2 9 v2 rfl rfl) h2
 obtain ⟨ao3, n3, cap3, xs3, rfl, ar3, w3⟩ := arg_u8s Tryz.underlying22 Tryz.underlying5 (by kernel_rfl) (hval 3 22 v3 rfl rfl) h3
 exact clientBound_walk ao0 n0 cap0 xs0 a1 a2 ao3 n3 cap3 xs3 W ar0 w0 ar3 (fun x hx => wf_u8 (w3 x hx)) (u8tabs hX)
theorem clientBound_row : Rows.ClientBoundSaid :=
 OpenClaim.holds_of_wide 10 Tryz.f10 rfl rfl rfl rfl rfl rfl rfl ⟨rfl, rfl, rfl, rfl, rfl⟩ rfl rfl rfl rfl rfl (by kernel_rfl) Tryz.func10 (by kernel_rfl)
   (of_decide_eq_true (by kernel_rfl)) (by unfold Func.isWrapper; first | (rw [if_pos (by decide +kernel)]; kernel_rfl) | (rw [if_neg (by decide +kernel)]; exact ⟨rfl, rfl⟩))
   (fun os started H enc _ => clientBound_lifted os started H enc)
theorem clientBound_holds : Rows.ClientBoundCardSaid :=
 Claim7.holds_tied_plain_at .later [] [.data, .pinned] true (true, "f4eec98776588dca81ef620558350302ef699c962e32c7f46b816f5a4ad8ed4f") false
   clientBound_row (fun _ h => by cases h) (by kernel_rfl) (fun _ h => by cases h) clientBound_row_tie rfl ⟨rfl, rfl⟩ (by kernel_rfl) rfl
   (fun f fn hf hfn => by
     obtain rfl : f = 10 := Option.some.inj ((show Tryz.prog.funcNamed "holt/holtlaw19.ClientBound" = some 10 by kernel_rfl).symm.trans hf) |>.symm
     obtain rfl : fn = Tryz.f10 := (Option.some.inj (Tryz.func10.symm.trans hfn)).symm
     exact ⟨by kernel_rfl, fun j t ht => by
       rw [Tryz.params10] at ht
       have hm : t ∈ [54, 4, 9, 22] := by simpa using Array.mem_of_getElem? ht
       have hall : ([54, 4, 9, 22].all fun u => !Tryz.prog.wantsStandIn u) = true := by kernel_rfl
       exact (show Tryz.prog.wantsStandIn t = false by simpa using List.all_eq_true.1 hall t hm)⟩)
   (by kernel_rfl)
#print axioms clientBound_holds
end Go.Proofs.YtddglbjhhnipgaaGreatDoor

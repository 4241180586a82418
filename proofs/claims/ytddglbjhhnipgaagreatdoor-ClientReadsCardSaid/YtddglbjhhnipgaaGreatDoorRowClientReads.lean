/-
  'ClientReads' holds, as a tied card: a read tells what the root has that is loaded; its events, its pin, and what it has loaded are as the document says, at each step (up to twelve small operations; a version's number; an epoch from 0 on; a call that reads, of up to 450 bytes).
-/
import Derived.Test.YtddglbjhhnipgaaGreatDoorCReads
import Derived.Test.YtddglbjhhnipgaaGreatDoorGM
import Derived.Test.YtddglbjhhnipgaaGreatDoorGA
import Derived.Test.YtddglbjhhnipgaaGreatDoorTie
import Derived.Test.YtddglbjhhnipgaaGreatDoorCards
import Derived.SevenTiedAt
import Derived.LaidMore
import Derived.Lay
import Derived.Stop.Joined
namespace Go.Proofs.YtddglbjhhnipgaaGreatDoor
open Go Go.ChangeShapes Go.WideShapes Go.ChangeAt Go.RowKit
set_option linter.unusedVariables false
set_option linter.unusedSimpArgs false
set_option maxRecDepth 100000
set_option maxHeartbeats 8000000
theorem clientReads_lifted (os : Os) (started : os.Started) (H : Type) (enc : TypeId × Value → H) :
   ReturnsInHanded {} Tryz.checked os 12 .any (fun w args => (Rows.clientReadsSpec.pre enc Tryz.prog Tryz.f12 [] false w args ∧ laidMetH Tryz.prog Rows.clientReadsRow.laid w) ∧ sizedMet enc Tryz.prog Tryz.f12 (OpenSpec.ofChange Rows.clientReadsSpec) false w args) (Rows.clientReadsSpec.post enc Tryz.prog Tryz.f12 false true false false) := by
 refine law_lifted2 (C := Tryz.checked) (X := fun w _ => laidMetH Tryz.prog Rows.clientReadsRow.laid w) (by kernel_rfl) started (fun _ _ _ hh h => h.of_heap hh) (by kernel_rfl) Tryz.func12 (by kernel_rfl) Tryz.underlying4 rfl rfl (by kernel_rfl)
   (ChangeSpec.witness_shaped (enc := enc) (C := Tryz.checked) (os := os) (X := fun w _ => laidMetH Tryz.prog Rows.clientReadsRow.laid w) false (World.laidAll Tryz.prog os Rows.clientReadsRow.laid) #[.slice none 0 0, .int .i64 0, .int .u16 0, .bool false, .string ⟨#[]⟩] 8 (World.laidAll_os _ _ _)
     (World.shaped_of_ZipB (by kernel_rfl) (by kernel_rfl)) (by kernel_rfl) (by kernel_rfl) (by kernel_rfl)
     (by rw [MakeChecks.laidMetH_plain _ _ _ (by kernel_rfl)]; exact laidMet_laidAll _ (by kernel_rfl) (by kernel_rfl)))
   (fun ds h => by match ds, h with | [_, _, _, _, _], _ => rfl) ?_
 intro W base args ds p hval hA hX
 rw [Tryz.params12] at hA hval
 obtain ⟨v0, vs0, d0, ds0, p0, q0, hargs0, rfl, rfl, h0, r0⟩ := trodAll_cons hA
 obtain ⟨v1, vs1, d1, ds1, p1, q1, hargs1, rfl, rfl, h1, r1⟩ := trodAll_cons r0
 obtain ⟨v2, vs2, d2, ds2, p2, q2, hargs2, rfl, rfl, h2, r2⟩ := trodAll_cons r1
 obtain ⟨v3, vs3, d3, ds3, p3, q3, hargs3, rfl, rfl, h3, r3⟩ := trodAll_cons r2
 obtain ⟨v4, vs4, d4, ds4, p4, q4, hargs4, rfl, rfl, h4, r4⟩ := trodAll_cons r3
 obtain ⟨rfl, rfl, rfl⟩ := trodAll_nil r4
 obtain rfl : args = #[v0, v1, v2, v3, v4] := by cases args; simp_all
 obtain ⟨ao0, n0, cap0, xs0, rfl, ar0, w0⟩ := arg_row (f := fT) Tryz.underlying54 (by kernel_rfl) (by omega) len_fT open_tiny (hval 0 54 v0 rfl rfl) h0
 obtain ⟨a1, rfl, rfl, rfl, w1⟩ := open_int Tryz.underlying3 (hval 1 3 v1 rfl rfl) h1
 obtain ⟨a2, rfl, rfl, rfl, w2⟩ := open_int Tryz.underlying115 (hval 2 115 v2 rfl rfl) h2
 obtain ⟨a3, rfl, rfl, rfl⟩ := open_bool Tryz.underlying4 (hval 3 4 v3 rfl rfl) h3
 obtain ⟨a4, rfl, rfl, rfl, w4⟩ := Go.ChangeMaps.open_string Tryz.underlying9 (hval 4 9 v4 rfl rfl) h4
 exact clientReads_walk ao0 n0 cap0 xs0 a1 a2 a3 a4 W ar0 w0 (wf_u16 w2).1 (wf_u16 w2).2 (u8tabs hX)
theorem clientReads_row : Rows.ClientReadsSaid :=
 OpenClaim.holds_of_wide 12 Tryz.f12 rfl rfl rfl rfl rfl rfl rfl ⟨rfl, rfl, rfl, rfl, rfl⟩ rfl rfl rfl rfl rfl (by kernel_rfl) Tryz.func12 (by kernel_rfl)
   (of_decide_eq_true (by kernel_rfl)) (by unfold Func.isWrapper; first | (rw [if_pos (by decide +kernel)]; kernel_rfl) | (rw [if_neg (by decide +kernel)]; exact ⟨rfl, rfl⟩))
   (fun os started H enc _ => clientReads_lifted os started H enc)
theorem clientReads_holds : Rows.ClientReadsCardSaid :=
 Claim7.holds_tied_plain_at .later [] [.data, .pinned] true (true, "f4eec98776588dca81ef620558350302ef699c962e32c7f46b816f5a4ad8ed4f") false
   clientReads_row (fun _ h => by cases h) (by kernel_rfl) (fun _ h => by cases h) clientReads_row_tie rfl ⟨rfl, rfl⟩ (by kernel_rfl) rfl
   (fun f fn hf hfn => by
     obtain rfl : f = 12 := Option.some.inj ((show Tryz.prog.funcNamed "holt/holtlaw19.ClientReads" = some 12 by kernel_rfl).symm.trans hf) |>.symm
     obtain rfl : fn = Tryz.f12 := (Option.some.inj (Tryz.func12.symm.trans hfn)).symm
     exact ⟨by kernel_rfl, fun j t ht => by
       rw [Tryz.params12] at ht
       have hm : t ∈ [54, 3, 115, 4, 9] := by simpa using Array.mem_of_getElem? ht
       have hall : ([54, 3, 115, 4, 9].all fun u => !Tryz.prog.wantsStandIn u) = true := by kernel_rfl
       exact (show Tryz.prog.wantsStandIn t = false by simpa using List.all_eq_true.1 hall t hm)⟩)
   (by kernel_rfl)
#print axioms clientReads_holds
end Go.Proofs.YtddglbjhhnipgaaGreatDoor

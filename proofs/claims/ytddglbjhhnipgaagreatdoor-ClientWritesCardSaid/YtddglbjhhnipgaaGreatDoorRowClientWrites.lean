/-
  'ClientWrites' holds, as a tied card: all else is sent, and waits for its reply, which is the answer; where the queue refuses, that is it; its events are as the document says (a call of any kind that doesn't read, texts of up to 450 bytes, data of up to 400; an answer with any numbers; whether the queue is full, or closed).
-/
import Derived.Test.YtddglbjhhnipgaaGreatDoorCliWrites
import Derived.Test.YtddglbjhhnipgaaGreatDoorGA
import Derived.Test.YtddglbjhhnipgaaGreatDoorTie
import Derived.Test.YtddglbjhhnipgaaGreatDoorCards
import Derived.SevenTiedAt
import Derived.LaidMore
import Derived.Lay
import Derived.Stop.Joined
namespace Go.Proofs.YtddglbjhhnipgaaGreatDoor
open Go Go.ChangeShapes Go.WideShapes Go.ChangeAt Go.RowKit
set_option linter.unusedVariables false

set_option maxRecDepth 100000 in
theorem clientWrites_lifted (os : Os) (started : os.Started) (H : Type) (enc : TypeId × Value → H) :
    ReturnsInHanded {} Tryz.checked os 3 .any (fun w args => (Rows.clientWritesSpec.pre enc Tryz.prog Tryz.f3 [] false w args ∧ laidMetH Tryz.prog Rows.clientWritesRow.laid w) ∧ sizedMet enc Tryz.prog Tryz.f3 (OpenSpec.ofChange Rows.clientWritesSpec) false w args) (Rows.clientWritesSpec.post enc Tryz.prog Tryz.f3 false true false false) := by
  refine law_lifted2 (C := Tryz.checked) (X := fun w _ => laidMetH Tryz.prog Rows.clientWritesRow.laid w) (by kernel_rfl) started (fun _ _ _ hh h => h.of_heap hh) (by kernel_rfl) Tryz.func3 (by kernel_rfl) Tryz.underlying4 rfl rfl (by kernel_rfl)
    (ChangeSpec.witness_shaped (enc := enc) (C := Tryz.checked) (os := os) (X := fun w _ => laidMetH Tryz.prog Rows.clientWritesRow.laid w) false (World.laidAll Tryz.prog os Rows.clientWritesRow.laid) #[.agg #[.int .i64 0, .int .i64 0, .int .i64 0, .string ⟨#[]⟩, .slice none 0 0], .agg #[.int .i64 0, .int .i64 0, .int .i64 0, .slice none 0 0, .slice none 0 0], .bool false, .bool false] 8 (World.laidAll_os _ _ _)
      (World.shaped_of_ZipB (by kernel_rfl) (by kernel_rfl)) (by kernel_rfl) (by kernel_rfl) (by kernel_rfl)
      (by rw [MakeChecks.laidMetH_plain _ _ _ (by kernel_rfl)]; exact laidMet_laidAll _ (by kernel_rfl) (by kernel_rfl)))
    (fun ds h => by match ds, h with | [_, _, _, _], _ => rfl) ?_
  intro W base args ds p hval hA hX
  rw [Tryz.params3] at hA hval
  obtain ⟨v0, vs0, d0, ds0, p0, q0, hargs0, rfl, rfl, h0, r0⟩ := trodAll_cons hA
  obtain ⟨v1, vs1, d1, ds1, p1, q1, hargs1, rfl, rfl, h1, r1⟩ := trodAll_cons r0
  obtain ⟨v2, vs2, d2, ds2, p2, q2, hargs2, rfl, rfl, h2, r2⟩ := trodAll_cons r1
  obtain ⟨v3, vs3, d3, ds3, p3, q3, hargs3, rfl, rfl, h3, r3⟩ := trodAll_cons r2
  obtain ⟨rfl, rfl, rfl⟩ := trodAll_nil r3
  obtain rfl : args = #[v0, v1, v2, v3] := by cases args; simp_all
  obtain ⟨x0, bs0, rfl, sz0, ar0, w0⟩ := arg_call (hval 0 24 v0 rfl rfl) h0
  obtain ⟨x1, ks1, bs1, rfl, kr1, ar1, w1⟩ := arg_ans (hval 1 28 v1 rfl rfl) h1
  obtain ⟨a2, rfl, rfl, rfl⟩ := open_bool Tryz.underlying4 (hval 2 4 v2 rfl rfl) h2
  obtain ⟨a3, rfl, rfl, rfl⟩ := open_bool Tryz.underlying4 (hval 3 4 v3 rfl rfl) h3
  exact clientWrites_walk x0 x1 a2 a3 W ar0 kr1 ar1

theorem clientWrites_row : Rows.ClientWritesSaid :=
  OpenClaim.holds_of_wide 3 Tryz.f3 rfl rfl rfl rfl rfl rfl rfl ⟨rfl, rfl, rfl, rfl, rfl⟩ rfl rfl rfl rfl rfl (by kernel_rfl) Tryz.func3 (by kernel_rfl)
    (of_decide_eq_true (by kernel_rfl)) (by unfold Func.isWrapper; first | (rw [if_pos (by decide +kernel)]; kernel_rfl) | (rw [if_neg (by decide +kernel)]; exact ⟨rfl, rfl⟩))
    (fun os started H enc _ => clientWrites_lifted os started H enc)

theorem clientWrites_holds : Rows.ClientWritesCardSaid :=
  Claim7.holds_tied_plain_at .later [] [.data, .pinned] true (true, "f4eec98776588dca81ef620558350302ef699c962e32c7f46b816f5a4ad8ed4f") false
    clientWrites_row (fun _ h => by cases h) (by kernel_rfl) (fun _ h => by cases h) clientWrites_row_tie rfl ⟨rfl, rfl⟩ (by kernel_rfl) rfl
    (fun f fn hf hfn => by
      obtain rfl : f = 3 := Option.some.inj ((show Tryz.prog.funcNamed "holt/holtlaw19.ClientWrites" = some 3 by kernel_rfl).symm.trans hf) |>.symm
      obtain rfl : fn = Tryz.f3 := (Option.some.inj (Tryz.func3.symm.trans hfn)).symm
      exact ⟨by kernel_rfl, fun j t ht => by
        rw [Tryz.params3] at ht
        have hm : t ∈ [24, 28, 4, 4] := by simpa using Array.mem_of_getElem? ht
        have hall : ([24, 28, 4, 4].all fun u => !Tryz.prog.wantsStandIn u) = true := by kernel_rfl
        exact (show Tryz.prog.wantsStandIn t = false by simpa using List.all_eq_true.1 hall t hm)⟩)
    (by kernel_rfl)
#print axioms clientWrites_holds
end Go.Proofs.YtddglbjhhnipgaaGreatDoor

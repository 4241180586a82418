import Derived.Test.YtkcgbenhnhbhhabDesk7
namespace Go.Proofs.Ytkcgbenhnhbhhab
open Go Go.RowKit
set_option linter.unusedVariables false
set_option linter.unusedSimpArgs false

set_option maxHeartbeats 1000000 in
theorem desk_awake {w : World} {l : List HProp} (hs : Sat w l) :
    Calls Try.prog 4 #[] w fun e w' => e = .returned (.bool true) ∧ Sat w' l ∧ Kp w w' := by
  go_enter Try.func4, Try.ntmps4
  go_wp2_with fail
  refine (desk_new 2 1 w l hs (by omega) (by omega) (by omega)).mono ?_
  rintro e w1 ⟨d, rfl, h1, k1⟩
  go_wp2_with fail
  refine (desk_send (m := ⟨1, 0, 0, 0, 0, ⟨#[]⟩, none, 0, 0⟩) h1 (by decide) (by decide) rfl (by decide) (by decide)).mono ?_
  rintro e w2 ⟨rfl, h2, k2⟩
  go_wp2_with fail
  refine (desk_send_full (m := ⟨0, 0, 0, 0, 0, ⟨#[]⟩, none, 0, 0⟩) h2 (by decide) (by decide) rfl (by decide)).mono ?_
  rintro e w3 ⟨rfl, h3, k3⟩
  go_wp2_with fail
  refine (desk_setPin (i := 1) h3 (by decide) (by decide) (by decide)).mono ?_
  rintro e w4 ⟨rfl, h4, k4⟩
  go_wp2_with fail
  refine (desk_pin (i := 1) (n := 5) h4 (by decide) (by decide) rfl).mono ?_
  rintro e w5 ⟨rfl, h5, k5⟩
  go_wp2_with fail
  refine (desk_accesses h5).mono ?_
  rintro e w6 ⟨rfl, rfl⟩
  simp only [tick, newD]
  go_wp2_with fail
  refine (desk_waiting h5).mono ?_
  rintro e w7 ⟨rfl, rfl⟩
  simp only [tick, newD]
  go_wp2_with fail
  go_ret
  exact ⟨rfl, h5.tail, k1.trans (k2.trans (k3.trans (k4.trans k5)))⟩

end Go.Proofs.Ytkcgbenhnhbhhab

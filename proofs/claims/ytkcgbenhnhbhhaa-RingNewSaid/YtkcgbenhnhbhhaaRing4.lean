import Derived.Test.YtkcgbenhnhbhhaaRing3
namespace Go.Proofs.Ytkcgbenhnhbhhaa
open Go Go.RowKit

set_option maxHeartbeats 1000000 in
theorem ring_awake {w : World} {l : List HProp} (hs : Sat w l) :
    Calls Try.prog 15 #[] w fun e w' => e = .returned (.bool true) ∧ Sat w' l ∧ Kp w w' := by
  go_enter Try.func15, Try.ntmps15
  go_wp2_with fail
  refine (ringI_new 1 w l hs (by omega) (by omega)).mono ?_
  rintro e w1 ⟨r, rfl, h1, k1⟩
  go_wp2_with fail
  refine (ringI_put h1 (by simp) (by omega)).mono ?_
  rintro e w2 ⟨rfl, h2, k2⟩
  go_wp2_with fail
  refine (ringI_put_full h2 (by simp)).mono ?_
  rintro e w3 ⟨rfl, h3, k3⟩
  go_wp2_with fail
  refine (ringI_take h3 (by simp)).mono ?_
  rintro e w4 ⟨rfl, h4, k4⟩
  go_wp2_with fail
  refine (ringI_close h4).mono ?_
  rintro e w5 ⟨rfl, h5, k5⟩
  go_wp2_with fail
  refine (ringI_put_closed h5).mono ?_
  rintro e w6 ⟨rfl, rfl⟩
  go_wp2_with fail
  refine (ringI_closed h5).mono ?_
  rintro e w7 ⟨rfl, rfl⟩
  go_wp2_with fail
  go_ret
  exact ⟨rfl, h5.tail, k1.trans (k2.trans (k3.trans (k4.trans k5)))⟩

end Go.Proofs.Ytkcgbenhnhbhhaa

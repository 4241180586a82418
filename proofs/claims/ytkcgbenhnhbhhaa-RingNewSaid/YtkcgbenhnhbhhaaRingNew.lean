import Derived.Test.YtkcgbenhnhbhhaaRing4
import Derived.Test.YtkcgbenhnhbhhaaRingS
import Derived.Test.YtkcgbenhnhbhhaaLaw
namespace Go.Proofs.Ytkcgbenhnhbhhaa
open Go Go.RowKit
set_option linter.unusedVariables false

set_option maxHeartbeats 1000000 in
theorem ringNew_walk (size : Int) (W : World) (hx : (Lit.int .i64 size).wf = true) : LawCalls Try.prog 4 #[.int .i64 size] W := by
  have H0 := Sat.start W
  by_cases hbad : size < 0 ∨ 65536 < size
  · rcases hbad with hb | hb
    · go_enter Try.func4, Try.ntmps4
      go_wp2_with fail
      refine (ring_awake H0).mono ?_
      rintro e w1 ⟨rfl, h1, k1⟩
      go_wp2_with fail
      refine (ringS_new_not size w1 (.inl hb)).mono ?_
      rintro e w2 ⟨rfl, rfl⟩
      go_wp2_with fail
      go_ret
      exact ⟨rfl, h1.below k1⟩
    · have h0 : 0 ≤ size := by omega
      go_enter Try.func4, Try.ntmps4
      go_wp2_with fail
      refine (ring_awake H0).mono ?_
      rintro e w1 ⟨rfl, h1, k1⟩
      go_wp2_with fail
      refine (ringS_new_not size w1 (.inr hb)).mono ?_
      rintro e w2 ⟨rfl, rfl⟩
      go_wp2_with fail
      go_ret
      exact ⟨rfl, h1.below k1⟩
  have h0 : 0 ≤ size := by omega
  have h1' : size ≤ 65536 := by omega
  clear hbad
  by_cases hz : size = 0
  · subst hz
    go_enter Try.func4, Try.ntmps4
    go_wp2_with fail
    refine (ring_awake H0).mono ?_
    rintro e w1 ⟨rfl, h1, k1⟩
    go_wp2_with fail
    refine (ringS_new 0 w1 _ h1 (by omega) (by omega)).mono ?_
    rintro e w2 ⟨r, rfl, h2, k2⟩
    go_wp2_with fail
    refine (ringS_put_full h2 (by simp)).mono ?_
    rintro e w3 ⟨rfl, h3, k3⟩
    go_wp2_with fail
    refine (ringS_len h3).mono ?_
    rintro e w4 ⟨rfl, rfl⟩
    go_wp2_with fail
    go_ret
    exact ⟨rfl, h3.tail.below (k1.trans (k2.trans k3))⟩
  have hz' : (size == 0) = false := by simpa using hz
  clear hz
  go_enter Try.func4, Try.ntmps4
  go_wp2_with fail
  refine (ring_awake H0).mono ?_
  rintro e w1 ⟨rfl, h1, k1⟩
  go_wp2_with fail
  refine (ringS_new size w1 _ h1 (by omega) (by omega)).mono ?_
  rintro e w2 ⟨r, rfl, h2, k2⟩
  go_wp2_with fail
  refine (ringS_put h2 (by simp at hz' ⊢; omega) (by omega)).mono ?_
  rintro e w3 ⟨rfl, h3, k3⟩
  go_wp2_with fail
  refine (ringS_len h3).mono ?_
  rintro e w4 ⟨rfl, rfl⟩
  go_wp2_with fail
  refine (ringS_closed h3).mono ?_
  rintro e w5 ⟨rfl, rfl⟩
  go_wp2_with fail
  go_ret
  exact ⟨rfl, h3.tail.below (k1.trans (k2.trans k3))⟩

end Go.Proofs.Ytkcgbenhnhbhhaa

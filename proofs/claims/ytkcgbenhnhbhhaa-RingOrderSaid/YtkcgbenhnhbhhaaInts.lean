import Derived.Test.YtkcgbenhnhbhhaaLaw
namespace Go.Proofs.Ytkcgbenhnhbhhaa
open Go Go.RowKit
set_option linter.unusedVariables false

/-- Two lists of numbers that are one. -/
theorem ints_same {w : World} {ao bo : Option Addr} {n m cap cap' : Nat} {xs ys : List Int} (ha : ArgRow w fI ao n cap xs) (hb : ArgRow w fI bo m cap' ys) (he : xs = ys) :
    Calls Try.prog 28 #[.slice ao n cap, .slice bo m cap'] w fun e w' => e = .returned (.bool true) ∧ ∃ k, w' = w.drewN k := by
  subst he
  obtain rfl : n = m := ha.len.symm.trans hb.len
  have hle := ha.le
  have hsm := ha.small
  unfold maxLen at hsm
  have hlen := ha.len
  go_enter Try.func28, Try.ntmps28
  go_wp2_with fail
  go_loopw [5] (fun i wr => ∃ k q : Nat, k ≤ n ∧ i = .int .i64 k ∧ wr = w.drewN q) (fun i _ => n - (intOf i).toNat)
  case atStart => exact ⟨0, 0, by omega, rfl, rfl⟩
  case round =>
    obtain ⟨k, q, hk, rfl, rfl⟩ := hrel
    by_cases hlt : k < n
    · obtain ⟨b, off, rfl, hc⟩ := ha.cells (by omega)
      obtain ⟨b', off', rfl, hc'⟩ := hb.cells (by omega)
      obtain ⟨x, hx⟩ : ∃ x, xs[k]? = some x := ⟨xs[k]'(by omega), by simp⟩
      have c1 := hc k (.int .i64 x) (by rw [get_fI, hx]; rfl)
      have c2 := hc' k (.int .i64 x) (by rw [get_fI, hx]; rfl)
      have i0 : (0 : Int) ≤ (k : Int) := by omega
      have i1 : (k : Int) < (n : Int) := by omega
      have hne : (x != x) = false := by simp
      clear hc hc' hx
      go_wp2_with fail
      go_quiet (fail)
      go_wp2_with fail
      go_roundw
      case rel => exact ⟨k + 1, _, by omega, by go_num, rfl⟩
      case measure => simp [intOf]; omega
    · obtain rfl : k = n := by omega
      go_wp2_with fail
      go_ret
      exact ⟨rfl, q, rfl⟩

end Go.Proofs.Ytkcgbenhnhbhhaa

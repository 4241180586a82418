import Derived.Test.YtkcgbenhnhbhhaaEpoch
namespace Go.Proofs.Ytkcgbenhnhbhhaa
open Go Go.RowKit
set_option linter.unusedVariables false
set_option linter.unusedSimpArgs false

def aggW (x : WaitD) : Value := .agg #[.int .i64 x.slot, .int .i64 x.gen, .int .i64 x.by_]
def may (now least : Int) (x : WaitD) : Bool := decide (x.by_ < least) && decide (x.by_ ≤ now - 2)

set_option maxRecDepth 100000 in
theorem free_may {w : World} {l : List HProp} {b bl bq : Nat} {now least : Int} (x : WaitD) (hs : Sat w l) (h0 : 0 ≤ now) (h1 : now < 9000000000000000000)
    (hl : w.cell? ⟨bl, 0, none⟩ = some (.pointer (some ⟨b, 0, none⟩))) (hq : w.cell? ⟨bq, 0, none⟩ = some (.int .i64 least)) (hc : w.cell? ⟨b, 0, none⟩ = some (.int .i64 now)) :
    Calls Try.prog 58 #[aggW x, .pointer (some ⟨bq, 0, none⟩), .pointer (some ⟨bl, 0, none⟩)] w fun e w' => e = .returned (.bool (may now least x)) ∧ Sat w' l ∧ Kp w w' := by
  have b1 := World.block_lt_of_cell? _ _ hl
  have b2 := World.block_lt_of_cell? _ _ hq
  have b3 := World.block_lt_of_cell? _ _ hc
  have hw : IntKind.i64.wrap (now - 2) = now - 2 := IntWalk.i64_in _ (by omega)
  unfold aggW may
  by_cases hx : x.by_ < least
  · have d1 : decide (x.by_ < least) = true := by simpa using hx
    by_cases hy : x.by_ ≤ now - 2
    · have d2 : decide (x.by_ ≤ now - 2) = true := by simpa using hy
      rw [d1, d2]
      go_enter Try.func58, Try.ntmps58
      go_wp2_with fail
      go_quiet (fail)
      go_wp2_with fail
      go_ret
      exact ⟨rfl, (hs.alloc' _).drewN _, ((Kp.refl w).alloc _).drewN _⟩
    · have d2 : decide (x.by_ ≤ now - 2) = false := by simpa using hy
      have hy' : now - 2 < x.by_ := by omega
      clear hy
      rw [d1, d2]
      go_enter Try.func58, Try.ntmps58
      go_wp2_with fail
      go_quiet (fail)
      go_wp2_with fail
      go_ret
      exact ⟨rfl, (hs.alloc' _).drewN _, ((Kp.refl w).alloc _).drewN _⟩
  · have d1 : decide (x.by_ < least) = false := by simpa using hx
    have hx' : least ≤ x.by_ := by omega
    clear hx
    rw [d1]
    simp only [Bool.false_and]
    go_enter Try.func58, Try.ntmps58
    go_wp2_with fail
    go_quiet (fail)
    go_wp2_with fail
    go_ret
    exact ⟨rfl, (hs.alloc' _).drewN _, ((Kp.refl w).alloc _).drewN _⟩

theorem wait_all {w : World} {l : List HProp} (x : WaitD) (hs : Sat w l) :
    Calls Try.prog 62 #[aggW x] w fun e w' => e = .returned (.bool true) ∧ Sat w' l ∧ Kp w w' := by
  unfold aggW
  go_enter Try.func62, Try.ntmps62
  go_wp2_with fail
  go_ret
  exact ⟨rfl, hs.alloc' _, (Kp.refl w).alloc _⟩

end Go.Proofs.Ytkcgbenhnhbhhaa

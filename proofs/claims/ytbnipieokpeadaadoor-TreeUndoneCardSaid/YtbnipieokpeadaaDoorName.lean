import Derived.Test.YtbnipieokpeadaaDoorTree3
import Derived.LoopN
import Derived.Laws.RangeString
import Derived.Laws.RangeAny
namespace Go.Proofs.YtbnipieokpeadaaDoor
open Go Go.RowKit
set_option linter.unusedVariables false
set_option linter.unusedSimpArgs false

/-- The k-th small letter. -/
def letter (k : Nat) : ByteArray := ⟨#[UInt8.ofNat (97 + k)]⟩

set_option maxRecDepth 100000 in
set_option maxHeartbeats 2000000 in
theorem valid_letter {w : World} {k : Nat} (hk : k < 8) : Calls Tryd.prog 66 #[.string (letter k)] w fun e w' => e = .returned (.bool true) ∧ w = w' := by
  have h : k = 0 ∨ k = 1 ∨ k = 2 ∨ k = 3 ∨ k = 4 ∨ k = 5 ∨ k = 6 ∨ k = 7 := by omega
  rcases h with rfl | rfl | rfl | rfl | rfl | rfl | rfl | rfl
  all_goals
    unfold letter
    go_enter Tryd.func66, Tryd.ntmps66
    go_wp2_with fail
    refine wp_loop_rounds 2 ?_
    rw [rounds_succ]
    go_wp2_with fail
    rw [rounds_succ]
    go_wp2_with fail
    go_ret
    exact ⟨rfl, rfl⟩

theorem next_letter (w : World) (k : Nat) (hk : k < 8) (ty : TypeId) : (Instr.next (.pointer (some ⟨w.heap.size, 0, none⟩)) true ty).run Tryd.prog (w.iter (letter k) 0) = .ok (.tuple #[.bool true, .int .i64 0, .int .i32 ((97 + k : Nat) : Int)]) (w.iter (letter k) 1) := by
  have h : k = 0 ∨ k = 1 ∨ k = 2 ∨ k = 3 ∨ k = 4 ∨ k = 5 ∨ k = 6 ∨ k = 7 := by omega
  rcases h with rfl | rfl | rfl | rfl | rfl | rfl | rfl | rfl
  all_goals exact run_next_ascii (P := Tryd.prog) w _ 0 ty (by decide) (by decide)
theorem next_letter_end (w : World) (k : Nat) (ty : TypeId) : (Instr.next (.pointer (some ⟨w.heap.size, 0, none⟩)) true ty).run Tryd.prog (w.iter (letter k) 1) = .ok (.tuple #[.bool false]) (w.iter (letter k) 1) :=
  run_next_end (P := Tryd.prog) w _ 1 ty (by simp [letter, ByteArray.size])

theorem sign_letter {w : World} {c : Int} (h0 : 97 ≤ c) (h1 : c ≤ 104) : Calls Tryd.prog 65 #[.int .i32 c] w fun e w' => e = .returned (.bool true) ∧ w = w' := by
  have e1 : (c != 127) = true := by simp; omega
  have e2 : (c != 47) = true := by simp; omega
  go_enter Tryd.func65, Tryd.ntmps65
  go_wp2_with fail
  go_ret
  exact ⟨rfl, rfl⟩

set_option maxRecDepth 100000 in
set_option maxHeartbeats 2000000 in
theorem right_letter {w : World} {l : List HProp} {k : Nat} (hk : k < 8) (hs : Sat w l) : Calls Tryd.prog 57 #[.string (letter k)] w fun e w' => e = .returned (.bool true) ∧ Sat w' l ∧ Kp w w' := by
  have hn0 := fun ty => next_letter w k hk ty
  have hn1 := fun ty => next_letter_end w k ty
  have hsz : (letter k).size = 1 := rfl
  go_enter Tryd.func57, Tryd.ntmps57
  go_wp2_with fail
  refine wp_loop_rounds 2 ?_
  rw [rounds_succ]
  go_wp2_with fail
  refine (sign_letter (by omega) (by omega)).mono ?_
  rintro e w1 ⟨rfl, rfl⟩
  go_wp2_with fail
  rw [rounds_succ]
  go_wp2_with fail
  refine (valid_letter hk).mono ?_
  rintro e w1 ⟨rfl, rfl⟩
  go_wp2_with fail
  go_ret
  exact ⟨rfl, hs.alloc' _, (Kp.refl w).alloc _⟩

end Go.Proofs.YtbnipieokpeadaaDoor

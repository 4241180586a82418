import Derived.Test.YtbnipieokpeadaaDoorSort3
namespace Go.Proofs.YtbnipieokpeadaaDoor
open Go Go.RowKit
set_option linter.unusedVariables false
set_option linter.unusedSimpArgs false

set_option maxHeartbeats 4000000 in
set_option maxRecDepth 100000 in
theorem bits_len64 {w : World} {x : Int} (h0 : 0 ≤ x) (h1 : x ≤ 100) : Calls Tryd.prog 85 #[.int .u64 x] w fun e w' => ∃ k, e = .returned (.int .i64 k) ∧ w = w' := by
  go_enter Tryd.func85, Tryd.ntmps85
  go_wp2
  all_goals
    go_ret
    exact ⟨_, rfl, rfl⟩
theorem bits_len {w : World} {x : Int} (h0 : 0 ≤ x) (h1 : x ≤ 100) : Calls Tryd.prog 68 #[.int .u64 x] w fun e w' => ∃ k, e = .returned (.int .i64 k) ∧ w = w' := by
  go_enter Tryd.func68, Tryd.ntmps68
  go_wp2_with fail
  refine (bits_len64 h0 h1).mono ?_
  rintro e w1 ⟨k, rfl, rfl⟩
  go_wp2_with fail
  go_ret
  exact ⟨k, rfl, rfl⟩

theorem kid_isort_any {w : World} {l : List HProp} {v : Value} {ks : List KidD} (hs : Sat w (rowT fK v 39 3 ks :: l)) (h8 : ks.length ≤ 12) :
    Calls Tryd.prog 76 #[v, .int .i64 0, .int .i64 ks.length, .func (.func 59) #[] #[]] w fun e w' => e = .returned (.tuple #[]) ∧ Sat w' (rowT fK v 39 3 (isort klt ks) :: l) ∧ Kp w w' := by
  by_cases hn : 1 ≤ ks.length
  · rcases hs.tForm with ⟨rfl, h⟩ | ⟨g, off, cap, rfl⟩
    · rw [h] at hn; simp at hn
    · exact kid_isort hs hn (by omega)
  · have h0 : ks = [] := List.eq_nil_of_length_eq_zero (by omega)
    subst h0
    obtain ⟨ao, cap, rfl⟩ := hs.tLen
    simp only [List.length_nil]
    go_enter Tryd.func76, Tryd.ntmps76
    go_wp2_with fail
    refine wp_loop_rounds 1 ?_
    rw [rounds_succ]
    go_wp2_with fail
    go_end0
    exact ⟨rfl, hs, Kp.refl w⟩

theorem kid_pdq {w : World} {l : List HProp} {v : Value} {ks : List KidD} {k : Int} (hs : Sat w (rowT fK v 39 3 ks :: l)) (h8 : ks.length ≤ 12) :
    Calls Tryd.prog 67 #[v, .int .i64 0, .int .i64 ks.length, .int .i64 k, .func (.func 59) #[] #[]] w fun e w' => e = .returned (.tuple #[]) ∧ Sat w' (rowT fK v 39 3 (isort klt ks) :: l) ∧ Kp w w' := by
  have hi := kid_isort_any hs h8
  have h12 : (ks.length : Int) ≤ 12 := by omega
  have h0 : (0 : Int) ≤ (ks.length : Int) := by omega
  generalize ks.length = n at hi h12 h0 ⊢
  go_enter Tryd.func67, Tryd.ntmps67
  go_wp2_with fail
  refine wp_loop_rounds 1 ?_
  rw [rounds_succ]
  go_wp2_with fail
  refine hi.mono ?_
  rintro e w1 ⟨rfl, h1, k1⟩
  go_wp2_with fail
  (try simp only [Exit.inBlock, Exit.then])
  refine bodyPost_ret (results_none rfl _ _ _) rfl ?_
  exact ⟨rfl, h1, k1⟩

theorem kid_sort {w : World} {l : List HProp} {v : Value} {ks : List KidD} (hs : Sat w (rowT fK v 39 3 ks :: l)) (h8 : ks.length ≤ 12) :
    Calls Tryd.prog 58 #[v, .func (.func 59) #[] #[]] w fun e w' => e = .returned (.tuple #[]) ∧ Sat w' (rowT fK v 39 3 (isort klt ks) :: l) ∧ Kp w w' := by
  have hp := fun k => kid_pdq (k := k) hs h8
  obtain ⟨ao, cap, rfl⟩ := hs.tLen
  have h12 : (ks.length : Int) ≤ 100 := by omega
  have h0 : (0 : Int) ≤ (ks.length : Int) := by omega
  generalize ks.length = n at hp h12 h0 ⊢
  go_enter Tryd.func58, Tryd.ntmps58
  go_wp2_with fail
  refine (bits_len h0 h12).mono ?_
  rintro e w1 ⟨k, rfl, rfl⟩
  go_wp2_with fail
  refine (hp k).mono ?_
  rintro e w1 ⟨rfl, h1, k1⟩
  go_wp2_with fail
  go_end0
  exact ⟨rfl, h1, k1⟩

end Go.Proofs.YtbnipieokpeadaaDoor

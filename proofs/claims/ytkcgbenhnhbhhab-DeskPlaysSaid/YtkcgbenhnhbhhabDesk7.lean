import Derived.Test.YtkcgbenhnhbhhabDesk6
namespace Go.Proofs.Ytkcgbenhnhbhhab
open Go Go.RowKit
set_option linter.unusedVariables false
set_option linter.unusedSimpArgs false

theorem Try.infoInt2 : (Try.prog.info? 3).map (fun i => (i.zero, i.size, i.bytes)) = some (some (.int .i64 0), 1, 8) := by kernel_rfl
theorem Try.infoRep : (Try.prog.info? 75).map (fun i => (i.zero, i.size, i.bytes)) = some (some (.agg #[.int .i64 0, .int .i64 0, .int .i64 0, .slice none 0 0, .slice none 0 0, .bool false]), 6, 80) := by kernel_rfl

def newD (n : Nat) (most : Int) : DeskD := ⟨0, 0, 0, 0, 0, 0, List.replicate n 0, List.replicate n zeroR, most, [], false, 0⟩

set_option maxRecDepth 100000 in
set_option maxHeartbeats 1000000 in
theorem desk_new (n : Nat) (most : Int) (w : World) (l : List HProp) (hs : Sat w l) (hn : n ≤ 64) (h0 : 0 ≤ most) (h1 : most ≤ 65536) :
    Calls Try.prog 5 #[.int .i64 n, .int .i64 most] w fun e w' => ∃ d, e = .returned (.pointer (some ⟨d, 0, none⟩)) ∧ Sat w' (deskP d (newD n most) :: l) ∧ Kp w w' := by
  obtain ⟨i0, hi, hz0, hz1, hz2⟩ := info_parts Try.infoInt2
  obtain ⟨i1, hj, hy0, hy1, hy2⟩ := info_parts Try.infoRep
  have hmk1 := fun W => run_make_rowN (P := Try.prog) 31 3 i0 (.int .i64 0) Try.underlying31 hi hz0 .i64 .i64 n n (Nat.le_refl _) (by rw [hz2]; omega) (by omega) W
  have hmk2 := fun W => run_make_rowN (P := Try.prog) 65 75 i1 _ Try.underlying65 hj hy0 .i64 .i64 n n (Nat.le_refl _) (by rw [hy2]; omega) (by omega) W
  rw [hz1] at hmk1
  rw [hy1] at hmk2
  go_enter Try.func5, Try.ntmps5
  go_wp2_with fail
  refine (ringM_new most w l hs h0 h1).mono ?_
  rintro e w1 ⟨q, rfl, h1, k1⟩
  go_wp2_with fail
  go_region
  · go_wp2
    go_ret
    have a1 := (h1.alloc (.cells (madeCells #[.int .i64 0] (n * 1)) 3)).tMade (f := fI) 0 rfl (by omega) rfl (by unfold maxLen; omega)
    have a2 := (a1.alloc (.cells (madeCells #[.int .i64 0, .int .i64 0, .int .i64 0, .slice none 0 0, .slice none 0 0, .bool false] (n * 6)) 75)).tMade (f := fR) zeroR rfl (by omega) rfl (by unfold maxLen; omega)
    have a3 := a2.swap.alloc (.cells (deskC (newD n most) (.slice (some ⟨w1.heap.size, 0, none⟩) n n) (.slice (some ⟨w1.heap.size + 1, 0, none⟩) n n) q) 69)
    simp only [World.size_alloc, Nat.mul_one] at a3
    exact ⟨_, rfl, deskP_I a3.drew, (((k1.alloc _).alloc _).alloc _).drew⟩
  · go_wp2
    go_ret
    have a1 := (h1.alloc (.cells (madeCells #[.int .i64 0, .int .i64 0, .int .i64 0, .slice none 0 0, .slice none 0 0, .bool false] (n * 6)) 75)).tMade (f := fR) zeroR rfl (by omega) rfl (by unfold maxLen; omega)
    have a2 := (a1.alloc (.cells (madeCells #[.int .i64 0] (n * 1)) 3)).tMade (f := fI) 0 rfl (by omega) rfl (by unfold maxLen; omega)
    have a3 := a2.alloc (.cells (deskC (newD n most) (.slice (some ⟨w1.heap.size + 1, 0, none⟩) n n) (.slice (some ⟨w1.heap.size, 0, none⟩) n n) q) 69)
    simp only [World.size_alloc, Nat.mul_one] at a3
    exact ⟨_, rfl, deskP_I a3.drew, (((k1.alloc _).alloc _).alloc _).drew⟩

theorem desk_new_not (n most : Int) (w : World) (l : List HProp) (hs : Sat w l) (h : n < 0 ∨ 64 < n ∨ most < 0 ∨ 65536 < most) :
    Calls Try.prog 5 #[.int .i64 n, .int .i64 most] w fun e w' => e = .returned (.pointer none) ∧ Sat w' l ∧ Kp w w' := by
  by_cases hm : most < 0 ∨ 65536 < most
  · by_cases h0 : n < 0
    · go_enter Try.func5, Try.ntmps5
      go_wp2_with fail
      refine (ringM_new_not most w hm).mono ?_
      rintro e w1 ⟨rfl, rfl⟩
      clear h hm
      go_wp2_with fail
      go_ret
      exact ⟨rfl, hs, Kp.refl _⟩
    · have h0' : 0 ≤ n := by omega
      clear h h0
      by_cases h6 : 64 < n
      · go_enter Try.func5, Try.ntmps5
        go_wp2_with fail
        refine (ringM_new_not most w hm).mono ?_
        rintro e w1 ⟨rfl, rfl⟩
        clear hm
        go_wp2_with fail
        go_ret
        exact ⟨rfl, hs, Kp.refl _⟩
      · have h6' : n ≤ 64 := by omega
        clear h6
        go_enter Try.func5, Try.ntmps5
        go_wp2_with fail
        refine (ringM_new_not most w hm).mono ?_
        rintro e w1 ⟨rfl, rfl⟩
        clear hm
        go_wp2_with fail
        go_ret
        exact ⟨rfl, hs, Kp.refl _⟩
  · have m0 : 0 ≤ most := by omega
    have m1 : most ≤ 65536 := by omega
    have hn : n < 0 ∨ 64 < n := by omega
    clear h hm
    rcases hn with hn | hn
    · go_enter Try.func5, Try.ntmps5
      go_wp2_with fail
      refine (ringM_new most w l hs m0 m1).mono ?_
      rintro e w1 ⟨q, rfl, h1, k1⟩
      go_wp2_with fail
      go_ret
      exact ⟨rfl, h1.tail, k1⟩
    · have h0 : 0 ≤ n := by omega
      go_enter Try.func5, Try.ntmps5
      go_wp2_with fail
      refine (ringM_new most w l hs m0 m1).mono ?_
      rintro e w1 ⟨q, rfl, h1, k1⟩
      go_wp2_with fail
      go_ret
      exact ⟨rfl, h1.tail, k1⟩

end Go.Proofs.Ytkcgbenhnhbhhab

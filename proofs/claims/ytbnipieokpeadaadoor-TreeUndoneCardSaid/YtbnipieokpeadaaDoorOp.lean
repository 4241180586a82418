import Derived.Test.YtbnipieokpeadaaDoorName
namespace Go.Proofs.YtbnipieokpeadaaDoor
open Go Go.RowKit
set_option linter.unusedVariables false
set_option linter.unusedSimpArgs false

theorem op_node {w : World} {n : Int} (h0 : 256 ≤ n) (h1 : n ≤ 4294967295) : Calls Tryd.prog 55 #[.int .i64 n] w fun e w' => e = .returned (.bool true) ∧ w = w' := by
  go_enter Tryd.func55, Tryd.ntmps55
  go_wp2_with fail
  go_ret
  exact ⟨rfl, rfl⟩
set_option maxRecDepth 100000 in
theorem stamp_right {w : World} {l : List HProp} {n r : Int} (hs : Sat w l) (h0 : 1 ≤ n) (h1 : n ≤ 16777215) (h2 : 0 ≤ r) (h3 : r < 256) : Calls Tryd.prog 56 #[.agg #[.int .i64 n, .int .i64 r]] w fun e w' => e = .returned (.bool true) ∧ Sat w' l ∧ Kp w w' := by
  go_enter Tryd.func56, Tryd.ntmps56
  go_wp2_with fail
  go_ret
  exact ⟨rfl, hs.alloc' _, (Kp.refl w).alloc _⟩

/-- A right small operation. -/
structure Small (o : OpD) : Prop where
  n0 : 1 ≤ o.n
  n1 : o.n ≤ 16777215
  r0 : 0 ≤ o.r
  r1 : o.r < 256
  node0 : 256 ≤ o.node
  node1 : o.node < 264
  up0 : o.up = 0 ∨ o.up = 1 ∨ (256 ≤ o.up ∧ o.up < 264)
  nm : ∃ k, k < 8 ∧ o.name = letter k

set_option maxRecDepth 100000 in
set_option maxHeartbeats 2000000 in
theorem isRight_small {o : OpD} (h : Small o) : IsRight o := by
  intro w l hs
  obtain ⟨n, r, node, up, name⟩ := o
  obtain ⟨n0, n1, r0, r1, d0, d1, hup, k, hk, hnm⟩ := h
  dsimp only at n0 n1 r0 r1 d0 d1 hup hnm
  subst hnm
  have hB := hs.alloc (.cells #[.int .i64 n, .int .i64 r, .int .i64 node, .int .i64 up, .string (letter k)] 33)
  have kB := (Kp.refl w).alloc (.cells #[.int .i64 n, .int .i64 r, .int .i64 node, .int .i64 up, .string (letter k)] 33)
  simp only [aggO]
  go_enter Tryd.func39, Tryd.ntmps39
  go_upto_region 1 with (fail)
  generalize World.alloc _ _ = w1 at hB kB ⊢
  generalize w.heap.size = B at hB ⊢
  have b0 := hB.cell 0
  have b1 := hB.cell 1
  have b2 := hB.cell 2
  have b3 := hB.cell 3
  have b4 := hB.cell 4
  simp at b0 b1 b2 b3 b4
  go_cut [3] from 4 to 16 (fun v wx => v = .bool true ∧ wx = w1)
  case first =>
    rcases hup with rfl | rfl | ⟨u0, u1⟩
    · go_wp2_with fail
      go_meet
      case rel => exact ⟨rfl, rfl⟩
    · go_wp2_with fail
      go_meet
      case rel => exact ⟨rfl, rfl⟩
    · have e0 : (up == 0) = false := by simp; omega
      have e1 : (up == 1) = false := by simp; omega
      go_wp2_with fail
      refine (op_node (by omega) (by omega)).mono ?_
      rintro e w2 ⟨rfl, rfl⟩
      go_wp2_with fail
      go_meet
      case rel => exact ⟨rfl, rfl⟩
  case rest =>
    obtain ⟨rfl, rfl⟩ := hcut
    go_wp2_with fail
    refine (stamp_right hB n0 n1 r0 r1).mono ?_
    rintro e w2 ⟨rfl, h2, k2⟩
    have b2 := h2.cell 2
    have b4 := h2.cell 4
    simp at b2 b4
    go_wp2_with fail
    refine (op_node (by omega) (by omega)).mono ?_
    rintro e w3 ⟨rfl, rfl⟩
    go_wp2_with fail
    refine (right_letter hk h2).mono ?_
    rintro e w3 ⟨rfl, h3, k3⟩
    go_wp2_with fail
    go_ret
    exact ⟨rfl, h3.tail, (kB.trans k2).trans k3⟩

end Go.Proofs.YtbnipieokpeadaaDoor

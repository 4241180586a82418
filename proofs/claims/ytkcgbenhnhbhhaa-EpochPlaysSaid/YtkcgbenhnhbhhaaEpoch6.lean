import Derived.Test.YtkcgbenhnhbhhaaEpoch5
namespace Go.Proofs.Ytkcgbenhnhbhhaa
open Go Go.RowKit
set_option linter.unusedVariables false
set_option linter.unusedSimpArgs false

set_option maxRecDepth 100000 in
set_option maxHeartbeats 1000000 in
theorem limbo_free {w : World} {l : List HProp} {b : Nat} {now least : Int} {ws : List WaitD} (hs : Sat w (limboP b now ws :: l)) (h0 : 0 ≤ now) (h1 : now < 9000000000000000000) (hm : ws.length ≤ 1000000) :
    Calls Try.prog 40 #[.pointer (some ⟨b, 0, none⟩), .int .i64 least] w fun e w' => ∃ vo, e = .returned vo ∧ Sat w' (rowT fH vo 70 2 ((ws.filter (may now least)).map WaitD.h) :: limboP b now (ws.filter fun x => !may now least x) :: l) ∧ Kp w w' := by
  obtain ⟨v, hv⟩ := limboP_E hs
  have hA := ((hv.alloc (.cells #[.pointer (some ⟨b, 0, none⟩)] 53)).alloc (.cells #[.int .i64 least] 3))
  have kA := ((Kp.refl w).alloc (.cells #[.pointer (some ⟨b, 0, none⟩)] 53)).alloc (.cells #[.int .i64 least] 3)
  simp only [World.size_alloc] at hA
  have hbw := hv.lt
  go_enter Try.func40, Try.ntmps40
  go_upto_region 2 with (fail)
  generalize hW : (w.alloc _).alloc _ = w1 at hA kA ⊢
  clear hW hv hs
  generalize w.heap.size + 1 = bq at hA ⊢
  generalize w.heap.size = bl at hA hbw ⊢
  have hB : Sat w1 (mayNeeds b bl bq now least v (rowT fW v 110 3 ws :: l)) := (hA.pull 1).pull 2
  have c0 := (hB.pull 1).cell 0
  have cv := hB.cell 1
  simp at c0 cv
  go_wp2_with fail
  refine (picked_free hB cv hm h0 h1).mono ?_
  rintro e w2 ⟨vo, rfl, h2, k2⟩
  have c0 := (h2.pull 2).cell 0
  have cv := (h2.pull 1).cell 1
  have cf := (h2.pull 1).free 1
  simp at c0 cv
  clear hA hB
  have k3 := (kA.trans k2).drew
  have h3 : Sat w2.drew _ := (h2.drew.pull 4)
  go_upto_region 3 with (fail)
  go_region_with (first | (go_at_call 61; refine (clone_waits h3 hm).mono ?_; rintro e w4 ⟨v4, rfl, h4, k4⟩; have d0 := (h4.pull 4).cell 0; have dv := (h4.pull 3).cell 1; have df := (h4.pull 3).free 1; have db := (h4.pull 3).lt; simp at d0 dv) | (go_at_call 60; refine (delete_free (l := _) (((h4.pull 5).pull 5).pull 5) h0 h1 hm).mono ?_; rintro e w5 ⟨v5, rfl, h5, k5⟩; have e0 := (h5.pull 1).cell 0; have e1 := h5.cell 1; have ef := h5.free 1; have eb := h5.lt; simp at e0 e1; obtain ⟨ao5, cap5, rfl⟩ := (h5.pull 3).tLen))
  all_goals
    go_wp2_with fail
    go_ret
    have h6 := h5.set 1 (.slice ao5 (ws.filter fun x => !may now least x).length cap5)
    have h7 := ((((h6.pull 4).tail.pull 1).tail.pull 1).tail)
    exact ⟨vo, rfl, ((limboP_I h7).pull 1), ((k3.trans k4).trans k5).setCell _ _⟩

set_option maxRecDepth 100000 in
theorem limbo_waiting {w : World} {l : List HProp} {b : Nat} {now : Int} {ws : List WaitD} (hs : Sat w (limboP b now ws :: l)) (hm : ws.length ≤ 1000000) :
    Calls Try.prog 44 #[.pointer (some ⟨b, 0, none⟩)] w fun e w' => ∃ vo, e = .returned vo ∧ Sat w' (rowT fH vo 70 2 (ws.map WaitD.h) :: limboP b now ws :: l) ∧ Kp w w' := by
  obtain ⟨v, hv⟩ := limboP_E hs
  have cv := hv.cell 1
  simp at cv
  have hA := hv.pull 1
  go_enter Try.func44, Try.ntmps44
  go_wp2_with fail
  refine (picked_all hA cv hm).mono ?_
  rintro e w2 ⟨vo, rfl, h2, k2⟩
  go_wp2_with fail
  go_ret
  rw [show (ws.filter fun _ => true) = ws from List.filter_eq_self.2 (fun _ _ => rfl)] at h2
  exact ⟨vo, rfl, (limboP_I ((h2.pull 1).pull 2)).pull 1, k2⟩

end Go.Proofs.Ytkcgbenhnhbhhaa

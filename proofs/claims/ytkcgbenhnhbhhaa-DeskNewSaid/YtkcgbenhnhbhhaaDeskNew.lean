import Derived.Test.YtkcgbenhnhbhhaaDesk8
import Derived.Test.YtkcgbenhnhbhhaaLaw
namespace Go.Proofs.Ytkcgbenhnhbhhaa
open Go Go.RowKit
set_option linter.unusedVariables false
set_option linter.unusedSimpArgs false

set_option maxRecDepth 100000 in
set_option maxHeartbeats 2000000 in
theorem deskNew_bad (cl qu i : Int) (W : World) (h : cl < 0 ∨ 64 < cl ∨ qu < 0 ∨ 65536 < qu) :
    LawCalls Try.prog 14 #[.int .i64 cl, .int .i64 qu, .int .i64 i] W := by
  have H0 := Sat.start W
  have key : ∀ (w1 : World), Sat w1 [oldH W] → Calls Try.prog 30 #[.int .i64 cl, .int .i64 qu] w1 fun e w' => e = .returned (.pointer none) ∧ Sat w' [oldH W] ∧ Kp w1 w' := fun w1 h1 => desk_new_not cl qu w1 _ h1 h
  have K := Lib.hid key
  clear key
  by_cases c1 : cl < 0
  · clear h
    go_enter Try.func14, Try.ntmps14
    go_wp2_with fail
    refine (desk_awake H0).mono ?_
    rintro e w1 ⟨rfl, h1, k1⟩
    go_wp2_with fail
    refine (K.out w1 h1).mono ?_
    rintro e w2 ⟨rfl, h2, k2⟩
    go_wp2_with fail
    go_ret
    exact ⟨rfl, h2.below (k1.trans k2)⟩
  have c1' : 0 ≤ cl := by omega
  clear c1
  by_cases c2 : 64 < cl
  · clear h
    go_enter Try.func14, Try.ntmps14
    go_wp2_with fail
    refine (desk_awake H0).mono ?_
    rintro e w1 ⟨rfl, h1, k1⟩
    go_wp2_with fail
    refine (K.out w1 h1).mono ?_
    rintro e w2 ⟨rfl, h2, k2⟩
    go_wp2_with fail
    go_ret
    exact ⟨rfl, h2.below (k1.trans k2)⟩
  have c2' : cl ≤ 64 := by omega
  clear c2
  by_cases c3 : qu < 0
  · clear h
    go_enter Try.func14, Try.ntmps14
    go_wp2_with fail
    refine (desk_awake H0).mono ?_
    rintro e w1 ⟨rfl, h1, k1⟩
    go_wp2_with fail
    refine (K.out w1 h1).mono ?_
    rintro e w2 ⟨rfl, h2, k2⟩
    go_wp2_with fail
    go_ret
    exact ⟨rfl, h2.below (k1.trans k2)⟩
  have c3' : 0 ≤ qu := by omega
  have c4' : 65536 < qu := by omega
  clear c3 h
  go_enter Try.func14, Try.ntmps14
  go_wp2_with fail
  refine (desk_awake H0).mono ?_
  rintro e w1 ⟨rfl, h1, k1⟩
  go_wp2_with fail
  refine (K.out w1 h1).mono ?_
  rintro e w2 ⟨rfl, h2, k2⟩
  go_wp2_with fail
  go_ret
  exact ⟨rfl, h2.below (k1.trans k2)⟩

theorem desk_pin_zero {c : Nat} {i : Int} {w : World} {l : List HProp} {d : Nat} {D : DeskD} (hs : Sat w (deskP d D :: l)) (h0 : 0 ≤ D.acc) (h1 : D.acc < 1000000000) (hp : D.pins = List.replicate c 0) :
    Calls Try.prog 34 #[.pointer (some ⟨d, 0, none⟩), .int .i64 i] w fun e w' => e = .returned (.int .i64 0) ∧ Sat w' (deskP d (tick D) :: l) ∧ Kp w w' := by
  by_cases hi : i < 0 ∨ (D.pins.length : Int) ≤ i
  · exact desk_pin_not hs h0 h1 hi
  · obtain ⟨k, rfl⟩ := Int.eq_ofNat_of_zero_le (show 0 ≤ i by omega)
    exact desk_pin hs h0 h1 (by rw [hp] at hi ⊢; simp only [List.length_replicate] at hi; exact get_repl (by omega))
theorem desk_reply_zero {c : Nat} {i : Int} {w : World} {l : List HProp} {d : Nat} {D : DeskD} (hs : Sat w (deskP d D :: l)) (h0 : 0 ≤ D.acc) (h1 : D.acc < 1000000000) (hp : D.reps = List.replicate c zeroR) :
    Calls Try.prog 50 #[.pointer (some ⟨d, 0, none⟩), .int .i64 i] w fun e w' => e = .returned (.tuple #[aggA zeroR, .bool false]) ∧ Sat w' (deskP d (tick D) :: l) ∧ Kp w w' := by
  by_cases hi : i < 0 ∨ (D.reps.length : Int) ≤ i
  · exact desk_reply_not hs h0 h1 hi
  · obtain ⟨k, rfl⟩ := Int.eq_ofNat_of_zero_le (show 0 ≤ i by omega)
    exact desk_reply_none (r := zeroR) hs h0 h1 (by rw [hp] at hi ⊢; simp only [List.length_replicate] at hi; exact get_repl (by omega)) rfl
theorem desk_has_zero {c : Nat} {i : Int} {w : World} {l : List HProp} {d : Nat} {D : DeskD} (hs : Sat w (deskP d D :: l)) (hp : D.reps = List.replicate c zeroR) :
    Calls Try.prog 33 #[.pointer (some ⟨d, 0, none⟩), .int .i64 i] w fun e w' => e = .returned (.bool false) ∧ w = w' := by
  by_cases hi : i < 0 ∨ (D.reps.length : Int) ≤ i
  · exact desk_has_not hs hi
  · obtain ⟨k, rfl⟩ := Int.eq_ofNat_of_zero_le (show 0 ≤ i by omega)
    exact desk_has (r := zeroR) hs (by rw [hp] at hi ⊢; simp only [List.length_replicate] at hi; exact get_repl (by omega))

set_option maxRecDepth 100000 in
set_option maxHeartbeats 2000000 in
theorem deskNew_good (c : Nat) (qu i : Int) (W : World) (hc : c ≤ 64) (q0 : 0 ≤ qu) (q1 : qu ≤ 65536) :
    LawCalls Try.prog 14 #[.int .i64 c, .int .i64 qu, .int .i64 i] W := by
  have H0 := Sat.start W
  have c0 : (0 : Int) ≤ (c : Int) := by omega
  have c1 : (c : Int) ≤ 64 := by omega
  go_enter Try.func14, Try.ntmps14
  go_wp2_with fail
  refine (desk_awake H0).mono ?_
  rintro e w1 ⟨rfl, h1, k1⟩
  go_wp2_with fail
  refine (desk_new c qu w1 _ h1 hc q0 q1).mono ?_
  rintro e w2 ⟨d, rfl, h2, k2⟩
  go_wp2_with fail
  refine (desk_root h2 (by simp [newD]) (by simp [newD])).mono ?_
  rintro e w3 ⟨rfl, h3, k3⟩
  simp only [newD]
  go_wp2_with fail
  have h3b := h3.alloc (.cells #[.int .i64 0, .int .i64 0, .int .i64 0, .int .i64 0, .int .i64 0] 83)
  have k3b := (k1.trans (k2.trans k3)).alloc (.cells #[.int .i64 0, .int .i64 0, .int .i64 0, .int .i64 0, .int .i64 0] 83)
  generalize hW : w3.alloc _ = w4 at h3b k3b ⊢
  clear hW h3 h2 h1 k1 k2 k3
  generalize w3.heap.size = br at h3b ⊢
  obtain ⟨D, hD⟩ : ∃ D : DeskD, D = tick (newD c qu) := ⟨_, rfl⟩
  have hp : Hid (D.pins = List.replicate c 0) := by rw [hD]; rfl
  have hr : Hid (D.reps = List.replicate c zeroR) := by rw [hD]; rfl
  have hm : Hid (D.msgs = []) := by rw [hD]; rfl
  have ha : Hid (D.acc = 1) := by rw [hD]; rfl
  have he : Hid (D.epoch = 0) := by rw [hD]; rfl
  rw [← hD] at h3b
  clear hD
  refine (desk_pin_zero (c := c) (h3b.pull 1) (by rw [ha.out]; omega) (by rw [ha.out]; omega) hp.out).mono ?_
  rintro e w5 ⟨rfl, h5, k5⟩
  go_wp2_with fail
  refine (desk_reply_zero (c := c) h5 (by simp only [tick]; rw [ha.out]; omega) (by simp only [tick]; rw [ha.out]; omega) hr.out).mono ?_
  rintro e w6 ⟨rfl, h6, k6⟩
  simp only [aggA, zeroR]
  go_wp2_with fail
  refine (desk_receive_none (h6.alloc' _) (by simp only [tick]; rw [ha.out]; omega) (by simp only [tick]; rw [ha.out]; omega) hm.out).mono ?_
  rintro e w7 ⟨rfl, h7, k7⟩
  simp only [aggM, zeroM]
  have r0 := (h7.pull 1).cell 0
  have r1 := (h7.pull 1).cell 1
  have r2 := (h7.pull 1).cell 2
  have r3 := (h7.pull 1).cell 3
  have r4 := (h7.pull 1).cell 4
  have hbl := (h7.pull 1).lt
  simp at r0 r1 r2 r3 r4
  go_wp2_with fail
  refine (desk_epoch (h7.alloc' _) (by simp only [tick]; rw [ha.out]; omega) (by simp only [tick]; rw [ha.out]; omega)).mono ?_
  rintro e w8 ⟨rfl, h8, k8⟩
  have ee : (tick (tick (tick D))).epoch = 0 := he.out
  rw [ee]
  go_wp2_with fail
  refine (desk_accesses h8).mono ?_
  rintro e w9 ⟨rfl, rfl⟩
  have ea : (tick (tick (tick (tick D)))).acc = 5 := by simp only [tick]; rw [ha.out]; omega
  rw [ea]
  go_wp2_with fail
  refine (desk_waiting h8).mono ?_
  rintro e w9 ⟨rfl, rfl⟩
  have em : (tick (tick (tick (tick D)))).msgs = [] := hm.out
  rw [em]
  go_wp2_with fail
  refine (desk_has_zero (c := c) h8 hr.out).mono ?_
  rintro e w9 ⟨rfl, rfl⟩
  go_wp2_with fail
  go_ret
  exact ⟨rfl, h8.tail.tail.below (k3b.trans (k5.trans (k6.trans (((Kp.refl _).alloc _).trans (k7.trans (((Kp.refl _).alloc _).trans k8))))))⟩

theorem deskNew_walk (cl qu i : Int) (W : World) (z0 : (Lit.int .i64 cl).wf = true) (z1 : (Lit.int .i64 qu).wf = true) (z2 : (Lit.int .i64 i).wf = true) :
    LawCalls Try.prog 14 #[.int .i64 cl, .int .i64 qu, .int .i64 i] W := by
  by_cases h : cl < 0 ∨ 64 < cl ∨ qu < 0 ∨ 65536 < qu
  · exact deskNew_bad cl qu i W h
  · obtain ⟨c, rfl⟩ := Int.eq_ofNat_of_zero_le (show 0 ≤ cl by omega)
    exact deskNew_good c qu i W (by omega) (by omega) (by omega)

end Go.Proofs.Ytkcgbenhnhbhhaa

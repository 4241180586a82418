import Derived.Test.YtkcgbenhnhbhhabDesk
namespace Go.Proofs.Ytkcgbenhnhbhhab
open Go Go.RowKit
set_option linter.unusedVariables false
set_option linter.unusedSimpArgs false

def tick (D : DeskD) : DeskD := { D with acc := D.acc + 1 }

theorem desk_accesses {w : World} {l : List HProp} {d : Nat} {D : DeskD} (hs : Sat w (deskP d D :: l)) :
    Calls Try.prog 20 #[.pointer (some ⟨d, 0, none⟩)] w fun e w' => e = .returned (.int .i64 D.acc) ∧ w = w' := by
  obtain ⟨vp, vr, q, hv⟩ := deskP_E hs
  have c9 := hv.cell 9
  simp [deskC] at c9
  go_enter Try.func20, Try.ntmps20
  go_wp2
  go_ret
  exact ⟨rfl, rfl⟩

theorem desk_waiting {w : World} {l : List HProp} {d : Nat} {D : DeskD} (hs : Sat w (deskP d D :: l)) :
    Calls Try.prog 21 #[.pointer (some ⟨d, 0, none⟩)] w fun e w' => e = .returned (.int .i64 D.msgs.length) ∧ w = w' := by
  obtain ⟨vp, vr, q, hv⟩ := deskP_E hs
  have c8 := hv.cell 8
  simp [deskC] at c8
  go_enter Try.func21, Try.ntmps21
  go_wp2_with fail
  refine (ringM_len (hv.pull 3)).mono ?_
  rintro e w1 ⟨rfl, rfl⟩
  go_wp2_with fail
  go_ret
  exact ⟨rfl, rfl⟩

theorem desk_epoch {w : World} {l : List HProp} {d : Nat} {D : DeskD} (hs : Sat w (deskP d D :: l)) (h0 : 0 ≤ D.acc) (h1 : D.acc < 1000000000) :
    Calls Try.prog 11 #[.pointer (some ⟨d, 0, none⟩)] w fun e w' => e = .returned (.int .i64 D.epoch) ∧ Sat w' (deskP d (tick D) :: l) ∧ Kp w w' := by
  obtain ⟨vp, vr, q, hv⟩ := deskP_E hs
  have c9 := hv.cell 9
  have c5 := hv.cell 5
  have f9 := hv.free 9
  simp [deskC] at c9 c5
  go_enter Try.func11, Try.ntmps11
  go_wp2
  go_ret
  exact ⟨rfl, deskP_I (D := tick D) (hv.set 9 (.int .i64 (D.acc + 1))), (Kp.refl w).setCell _ _⟩

theorem desk_shut {w : World} {l : List HProp} {d : Nat} {D : DeskD} (hs : Sat w (deskP d D :: l)) (h0 : 0 ≤ D.acc) (h1 : D.acc < 1000000000) :
    Calls Try.prog 17 #[.pointer (some ⟨d, 0, none⟩)] w fun e w' => e = .returned (.tuple #[]) ∧ Sat w' (deskP d { tick D with closed := true } :: l) ∧ Kp w w' := by
  obtain ⟨vp, vr, q, hv⟩ := deskP_E hs
  have c9 := hv.cell 9
  have c8 := hv.cell 8
  have f9 := hv.free 9
  simp [deskC] at c9 c8
  go_enter Try.func17, Try.ntmps17
  go_wp2_with fail
  have hv2 := hv.set 9 (.int .i64 (D.acc + 1))
  have k2 := (Kp.refl w).setCell ⟨d, 9, none⟩ (.int .i64 (D.acc + 1))
  refine (ringM_close (hv2.pull 3)).mono ?_
  rintro e w1 ⟨rfl, h1, k1⟩
  go_wp2_with fail
  go_end0
  exact ⟨rfl, deskP_I (D := { tick D with closed := true }) (h1.push 3), k2.trans k1⟩

theorem desk_setPin {w : World} {l : List HProp} {d : Nat} {D : DeskD} {i : Nat} {n : Int} (hs : Sat w (deskP d D :: l)) (h0 : 0 ≤ D.acc) (h1 : D.acc < 1000000000) (hi : i < D.pins.length) :
    Calls Try.prog 12 #[.pointer (some ⟨d, 0, none⟩), .int .i64 i, .int .i64 n] w fun e w' => e = .returned (.tuple #[]) ∧ Sat w' (deskP d { tick D with pins := D.pins.set i n } :: l) ∧ Kp w w' := by
  obtain ⟨vp, vr, q, hv⟩ := deskP_E hs
  have c9 := hv.cell 9
  have c6 := hv.cell 6
  have f9 := hv.free 9
  have hd := hv.lt
  simp [deskC] at c9 c6
  rcases (hv.pull 1).tForm with ⟨rfl, hp⟩ | ⟨g, off, cap, rfl⟩
  · rw [hp] at hi; simp at hi
  go_enter Try.func12, Try.ntmps12
  go_wp2_with fail
  have hv2 := hv.set 9 (.int .i64 (D.acc + 1))
  have k2 := (Kp.refl w).setCell ⟨d, 9, none⟩ (.int .i64 (D.acc + 1))
  have c6' := hv2.cell 6
  simp [deskC] at c6'
  refine (at_int c6' hi).mono ?_
  rintro e w1 ⟨rfl, rfl⟩
  have hc := (hv2.pull 1).tCellI i D.pins[i] (by simp)
  have hf := (hv2.pull 1).rowFree (off + i)
  have hne : (d : Nat) ≠ g := ((hv2.pull 1).rowNe).symm
  go_wp2_with fail
  go_end0
  have h3 := (hv2.pull 1).tSetI i n
  exact ⟨rfl, deskP_I (D := { tick D with pins := D.pins.set i n }) (h3.pull 1), k2.setCell _ _⟩

end Go.Proofs.Ytkcgbenhnhbhhab

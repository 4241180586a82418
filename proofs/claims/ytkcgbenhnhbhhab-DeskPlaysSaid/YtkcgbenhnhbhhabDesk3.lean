import Derived.Test.YtkcgbenhnhbhhabDesk2
namespace Go.Proofs.Ytkcgbenhnhbhhab
open Go Go.RowKit
set_option linter.unusedVariables false
set_option linter.unusedSimpArgs false

theorem len_fR (r : RepD) : (fR r).length = 6 := rfl

theorem desk_setPin_not {w : World} {l : List HProp} {d : Nat} {D : DeskD} {i n : Int} (hs : Sat w (deskP d D :: l)) (h0 : 0 ≤ D.acc) (h1 : D.acc < 1000000000) (hi : i < 0 ∨ (D.pins.length : Int) ≤ i) :
    Calls Try.prog 12 #[.pointer (some ⟨d, 0, none⟩), .int .i64 i, .int .i64 n] w fun e w' => e = .returned (.tuple #[]) ∧ Sat w' (deskP d (tick D) :: l) ∧ Kp w w' := by
  obtain ⟨vp, vr, q, hv⟩ := deskP_E hs
  have c9 := hv.cell 9
  have c6 := hv.cell 6
  have f9 := hv.free 9
  simp [deskC] at c9 c6
  obtain ⟨ao, cap, rfl⟩ := (hv.pull 1).tLen
  go_enter Try.func12, Try.ntmps12
  go_wp2_with fail
  have hv2 := hv.set 9 (.int .i64 (D.acc + 1))
  have k2 := (Kp.refl w).setCell ⟨d, 9, none⟩ (.int .i64 (D.acc + 1))
  have c6' := hv2.cell 6
  simp [deskC] at c6'
  refine (at_int_not c6' hi).mono ?_
  rintro e w1 ⟨rfl, rfl⟩
  go_wp2_with fail
  go_end0
  exact ⟨rfl, deskP_I (D := tick D) hv2, k2⟩

theorem desk_pin {w : World} {l : List HProp} {d : Nat} {D : DeskD} {i : Nat} {n : Int} (hs : Sat w (deskP d D :: l)) (h0 : 0 ≤ D.acc) (h1 : D.acc < 1000000000) (hi : D.pins[i]? = some n) :
    Calls Try.prog 13 #[.pointer (some ⟨d, 0, none⟩), .int .i64 i] w fun e w' => e = .returned (.int .i64 n) ∧ Sat w' (deskP d (tick D) :: l) ∧ Kp w w' := by
  obtain ⟨vp, vr, q, hv⟩ := deskP_E hs
  have c9 := hv.cell 9
  have c6 := hv.cell 6
  have f9 := hv.free 9
  simp [deskC] at c9 c6
  have hi2 := (List.getElem?_eq_some_iff.1 hi).1
  rcases (hv.pull 1).tForm with ⟨rfl, hp⟩ | ⟨g, off, cap, rfl⟩
  · rw [hp] at hi2; simp at hi2
  go_enter Try.func13, Try.ntmps13
  go_wp2_with fail
  have hv2 := hv.set 9 (.int .i64 (D.acc + 1))
  have k2 := (Kp.refl w).setCell ⟨d, 9, none⟩ (.int .i64 (D.acc + 1))
  have c6' := hv2.cell 6
  simp [deskC] at c6'
  refine (at_int c6' hi2).mono ?_
  rintro e w1 ⟨rfl, rfl⟩
  have hc := (hv2.pull 1).tCellI i n hi
  have hne : (d : Nat) ≠ g := ((hv2.pull 1).rowNe).symm
  clear hi
  go_wp2_with fail
  go_ret
  exact ⟨rfl, deskP_I (D := tick D) hv2, k2⟩

theorem desk_pin_not {w : World} {l : List HProp} {d : Nat} {D : DeskD} {i : Int} (hs : Sat w (deskP d D :: l)) (h0 : 0 ≤ D.acc) (h1 : D.acc < 1000000000) (hi : i < 0 ∨ (D.pins.length : Int) ≤ i) :
    Calls Try.prog 13 #[.pointer (some ⟨d, 0, none⟩), .int .i64 i] w fun e w' => e = .returned (.int .i64 0) ∧ Sat w' (deskP d (tick D) :: l) ∧ Kp w w' := by
  obtain ⟨vp, vr, q, hv⟩ := deskP_E hs
  have c9 := hv.cell 9
  have c6 := hv.cell 6
  have f9 := hv.free 9
  simp [deskC] at c9 c6
  obtain ⟨ao, cap, rfl⟩ := (hv.pull 1).tLen
  go_enter Try.func13, Try.ntmps13
  go_wp2_with fail
  have hv2 := hv.set 9 (.int .i64 (D.acc + 1))
  have k2 := (Kp.refl w).setCell ⟨d, 9, none⟩ (.int .i64 (D.acc + 1))
  have c6' := hv2.cell 6
  simp [deskC] at c6'
  refine (at_int_not c6' hi).mono ?_
  rintro e w1 ⟨rfl, rfl⟩
  go_wp2_with fail
  go_ret
  exact ⟨rfl, deskP_I (D := tick D) hv2, k2⟩

theorem desk_has {w : World} {l : List HProp} {d : Nat} {D : DeskD} {i : Nat} {r : RepD} (hs : Sat w (deskP d D :: l)) (hi : D.reps[i]? = some r) :
    Calls Try.prog 22 #[.pointer (some ⟨d, 0, none⟩), .int .i64 i] w fun e w' => e = .returned (.bool r.lies) ∧ w = w' := by
  obtain ⟨vp, vr, q, hv⟩ := deskP_E hs
  have c7 := hv.cell 7
  simp [deskC] at c7
  have hi2 := (List.getElem?_eq_some_iff.1 hi).1
  rcases (hv.pull 2).tForm with ⟨rfl, hp⟩ | ⟨g, off, cap, rfl⟩
  · rw [hp] at hi2; simp at hi2
  have e5 := (hv.pull 2).tCell len_fR i 5 hi rfl
  go_enter Try.func22, Try.ntmps22
  go_wp2_with fail
  refine (at_rep c7 hi2).mono ?_
  rintro e w1 ⟨rfl, rfl⟩
  clear hi
  go_wp2_with fail
  go_ret
  exact ⟨rfl, rfl⟩

theorem desk_has_not {w : World} {l : List HProp} {d : Nat} {D : DeskD} {i : Int} (hs : Sat w (deskP d D :: l)) (hi : i < 0 ∨ (D.reps.length : Int) ≤ i) :
    Calls Try.prog 22 #[.pointer (some ⟨d, 0, none⟩), .int .i64 i] w fun e w' => e = .returned (.bool false) ∧ w = w' := by
  obtain ⟨vp, vr, q, hv⟩ := deskP_E hs
  have c7 := hv.cell 7
  simp [deskC] at c7
  obtain ⟨ao, cap, rfl⟩ := (hv.pull 2).tLen
  go_enter Try.func22, Try.ntmps22
  go_wp2_with fail
  refine (at_rep_not c7 hi).mono ?_
  rintro e w1 ⟨rfl, rfl⟩
  go_wp2_with fail
  go_ret
  exact ⟨rfl, rfl⟩

set_option maxRecDepth 100000 in
theorem desk_setReply {w : World} {l : List HProp} {d : Nat} {D : DeskD} {i : Nat} {a : RepD} (hs : Sat w (deskP d D :: l)) (h0 : 0 ≤ D.acc) (h1 : D.acc < 1000000000) (hi : i < D.reps.length) :
    Calls Try.prog 18 #[.pointer (some ⟨d, 0, none⟩), .int .i64 i, aggA a] w fun e w' => e = .returned (.tuple #[]) ∧ Sat w' (deskP d { tick D with reps := D.reps.set i { a with lies := true } } :: l) ∧ Kp w w' := by
  obtain ⟨vp, vr, q, hv⟩ := deskP_E hs
  have c9 := hv.cell 9
  have c7 := hv.cell 7
  have f9 := hv.free 9
  have hd := hv.lt
  simp [deskC] at c9 c7
  rcases (hv.pull 2).tForm with ⟨rfl, hp⟩ | ⟨g, off, cap, rfl⟩
  · rw [hp] at hi; simp at hi
  obtain ⟨r, hr⟩ : ∃ r, D.reps[i]? = some r := ⟨D.reps[i], by simp⟩
  have e0 := (hv.pull 2).tCell len_fR i 0 hr rfl
  have e1 := (hv.pull 2).tCell len_fR i 1 hr rfl
  have e2 := (hv.pull 2).tCell len_fR i 2 hr rfl
  have e3 := (hv.pull 2).tCell len_fR i 3 hr rfl
  have e4 := (hv.pull 2).tCell len_fR i 4 hr rfl
  have e5 := (hv.pull 2).tCell len_fR i 5 hr rfl
  have z0 := (hv.pull 2).rowFree (off + i * 6 + 0)
  have z1 := (hv.pull 2).rowFree (off + i * 6 + 1)
  have z2 := (hv.pull 2).rowFree (off + i * 6 + 2)
  have z3 := (hv.pull 2).rowFree (off + i * 6 + 3)
  have z4 := (hv.pull 2).rowFree (off + i * 6 + 4)
  have z5 := (hv.pull 2).rowFree (off + i * 6 + 5)
  have hg := (hv.pull 2).rowBlock
  have hne : d ≠ g := ((hv.pull 2).rowNe).symm
  rw [Nat.add_zero] at e0 z0
  clear hr
  have c7' := (hv.set 9 (.int .i64 (D.acc + 1))).cell 7
  simp [deskC] at c7'
  have h3 := ((hv.set 9 (.int .i64 (D.acc + 1))).pull 2).tPut len_fR i { a with lies := true } hi
  unfold aggA
  go_enter Try.func18, Try.ntmps18
  go_wp2_with fail
  refine (at_rep (n := D.reps.length) (cap := cap) (off := off) (g := g) ?_ hi).mono ?_
  · rw [World.cell?_alloc_lt _ _ _ (by simpa using hd)]; exact c7'
  rintro e w1 ⟨rfl, rfl⟩
  go_wp2_with fail
  go_end0
  exact ⟨rfl, (deskP_I (D := { tick D with reps := D.reps.set i { a with lies := true } }) (h3.push 2)).alloc' _, (Kp.putCells (g := g) (fR { a with lies := true }) (off + i * 6) ((Kp.refl w).setCell ⟨d, 9, none⟩ (.int .i64 (D.acc + 1)))).alloc _⟩

theorem desk_setReply_not {w : World} {l : List HProp} {d : Nat} {D : DeskD} {i : Int} {a : RepD} (hs : Sat w (deskP d D :: l)) (h0 : 0 ≤ D.acc) (h1 : D.acc < 1000000000) (hi : i < 0 ∨ (D.reps.length : Int) ≤ i) :
    Calls Try.prog 18 #[.pointer (some ⟨d, 0, none⟩), .int .i64 i, aggA a] w fun e w' => e = .returned (.tuple #[]) ∧ Sat w' (deskP d (tick D) :: l) ∧ Kp w w' := by
  obtain ⟨vp, vr, q, hv⟩ := deskP_E hs
  have c9 := hv.cell 9
  have c7 := hv.cell 7
  have f9 := hv.free 9
  have hd := hv.lt
  simp [deskC] at c9 c7
  obtain ⟨ao, cap, rfl⟩ := (hv.pull 2).tLen
  have c7' := (hv.set 9 (.int .i64 (D.acc + 1))).cell 7
  simp [deskC] at c7'
  unfold aggA
  go_enter Try.func18, Try.ntmps18
  go_wp2_with fail
  refine (at_rep_not (n := D.reps.length) (cap := cap) (ao := ao) ?_ hi).mono ?_
  · rw [World.cell?_alloc_lt _ _ _ (by simpa using hd)]; exact c7'
  rintro e w1 ⟨rfl, rfl⟩
  go_wp2_with fail
  go_end0
  exact ⟨rfl, (deskP_I (D := tick D) (hv.set 9 (.int .i64 (D.acc + 1)))).alloc' _, ((Kp.refl w).setCell ⟨d, 9, none⟩ (.int .i64 (D.acc + 1))).alloc _⟩

end Go.Proofs.Ytkcgbenhnhbhhab

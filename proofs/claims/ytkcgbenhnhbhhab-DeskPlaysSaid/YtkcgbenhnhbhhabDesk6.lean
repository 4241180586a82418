import Derived.Test.YtkcgbenhnhbhhabDesk5
namespace Go.Proofs.Ytkcgbenhnhbhhab
open Go Go.RowKit
set_option linter.unusedVariables false
set_option linter.unusedSimpArgs false

set_option maxRecDepth 100000 in
set_option maxHeartbeats 1000000 in
theorem desk_reply_not {w : World} {l : List HProp} {d : Nat} {D : DeskD} {i : Int} (hs : Sat w (deskP d D :: l)) (h0 : 0 ≤ D.acc) (h1 : D.acc < 1000000000) (hi : i < 0 ∨ (D.reps.length : Int) ≤ i) :
    Calls Try.prog 19 #[.pointer (some ⟨d, 0, none⟩), .int .i64 i] w fun e w' => e = .returned (.tuple #[aggA zeroR, .bool false]) ∧ Sat w' (deskP d (tick D) :: l) ∧ Kp w w' := by
  obtain ⟨vp, vr, q, hv⟩ := deskP_E hs
  have c9 := hv.cell 9
  have c7 := hv.cell 7
  have f9 := hv.free 9
  have hd := hv.lt
  simp [deskC] at c9 c7
  obtain ⟨ao, cap, rfl⟩ := (hv.pull 2).tLen
  have c7' := (hv.set 9 (.int .i64 (D.acc + 1))).cell 7
  simp [deskC] at c7'
  go_enter Try.func19, Try.ntmps19
  go_wp2_with fail
  refine (at_rep_not (n := D.reps.length) (cap := cap) (ao := ao) ?_ hi).mono ?_
  · rw [World.cell?_alloc_lt _ _ _ (by simpa using hd)]; exact c7'
  rintro e w1 ⟨rfl, rfl⟩
  go_wp2
  exact bodyPost_ret (v := .tuple #[aggA zeroR, .bool false]) (by simp [results, Try.results19, go_sem, aggA, zeroR]) rfl ⟨rfl, (deskP_I (D := tick D) (hv.set 9 (.int .i64 (D.acc + 1)))).alloc' _, ((Kp.refl w).setCell ⟨d, 9, none⟩ (.int .i64 (D.acc + 1))).alloc _⟩

set_option maxRecDepth 100000 in
set_option maxHeartbeats 1000000 in
theorem desk_reply_none {w : World} {l : List HProp} {d : Nat} {D : DeskD} {i : Nat} {r : RepD} (hs : Sat w (deskP d D :: l)) (h0 : 0 ≤ D.acc) (h1 : D.acc < 1000000000) (hr : D.reps[i]? = some r) (hn : r.lies = false) :
    Calls Try.prog 19 #[.pointer (some ⟨d, 0, none⟩), .int .i64 i] w fun e w' => e = .returned (.tuple #[aggA zeroR, .bool false]) ∧ Sat w' (deskP d (tick D) :: l) ∧ Kp w w' := by
  obtain ⟨vp, vr, q, hv⟩ := deskP_E hs
  have c9 := hv.cell 9
  have c7 := hv.cell 7
  have f9 := hv.free 9
  have hd := hv.lt
  simp [deskC] at c9 c7
  have hi := (List.getElem?_eq_some_iff.1 hr).1
  rcases (hv.pull 2).tForm with ⟨rfl, hp⟩ | ⟨g, off, cap, rfl⟩
  · rw [hp] at hi; simp at hi
  have e5 := (hv.pull 2).tCell len_fR i 5 hr rfl
  rw [hn] at e5
  have hg := (hv.pull 2).rowBlock
  have hne : d ≠ g := ((hv.pull 2).rowNe).symm
  clear hr
  have c7' := (hv.set 9 (.int .i64 (D.acc + 1))).cell 7
  simp [deskC] at c7'
  go_enter Try.func19, Try.ntmps19
  go_wp2_with fail
  refine (at_rep (n := D.reps.length) (cap := cap) (off := off) (g := g) ?_ hi).mono ?_
  · rw [World.cell?_alloc_lt _ _ _ (by simpa using hd)]; exact c7'
  rintro e w1 ⟨rfl, rfl⟩
  go_wp2
  exact bodyPost_ret (v := .tuple #[aggA zeroR, .bool false]) (by simp [results, Try.results19, go_sem, aggA, zeroR]) rfl ⟨rfl, (deskP_I (D := tick D) (hv.set 9 (.int .i64 (D.acc + 1)))).alloc' _, ((Kp.refl w).setCell ⟨d, 9, none⟩ (.int .i64 (D.acc + 1))).alloc _⟩

set_option maxRecDepth 100000 in
set_option maxHeartbeats 1000000 in
theorem desk_reply {w : World} {l : List HProp} {d : Nat} {D : DeskD} {i : Nat} {r : RepD} (hs : Sat w (deskP d D :: l)) (h0 : 0 ≤ D.acc) (h1 : D.acc < 1000000000) (hr : D.reps[i]? = some r) (hn : r.lies = true) :
    Calls Try.prog 19 #[.pointer (some ⟨d, 0, none⟩), .int .i64 i] w fun e w' => e = .returned (.tuple #[aggA r, .bool true]) ∧ Sat w' (deskP d { tick D with reps := D.reps.set i zeroR } :: l) ∧ Kp w w' := by
  obtain ⟨vp, vr, q, hv⟩ := deskP_E hs
  have c9 := hv.cell 9
  have c7 := hv.cell 7
  have f9 := hv.free 9
  have hd := hv.lt
  simp [deskC] at c9 c7
  have hi := (List.getElem?_eq_some_iff.1 hr).1
  rcases (hv.pull 2).tForm with ⟨rfl, hp⟩ | ⟨g, off, cap, rfl⟩
  · rw [hp] at hi; simp at hi
  have e0 := (hv.pull 2).tCell len_fR i 0 hr rfl
  have e1 := (hv.pull 2).tCell len_fR i 1 hr rfl
  have e2 := (hv.pull 2).tCell len_fR i 2 hr rfl
  have e3 := (hv.pull 2).tCell len_fR i 3 hr rfl
  have e4 := (hv.pull 2).tCell len_fR i 4 hr rfl
  have e5 := (hv.pull 2).tCell len_fR i 5 hr rfl
  have z0 := (hv.pull 2).rowFree (off + i * 6 + 0)
  have z1 := (hv.pull 2).rowFree (off + i * 6 + 1)
  have z2 := (hv.pull 2).rowFree (off + i * 6 + 2)
  have z3 := (hv.pull 2).rowFree (off + i * 6 + 3)
  have z4 := (hv.pull 2).rowFree (off + i * 6 + 4)
  have z5 := (hv.pull 2).rowFree (off + i * 6 + 5)
  rw [hn] at e5
  have hg := (hv.pull 2).rowBlock
  have hne : d ≠ g := ((hv.pull 2).rowNe).symm
  rw [Nat.add_zero] at e0 z0
  clear hr
  have c7' := (hv.set 9 (.int .i64 (D.acc + 1))).cell 7
  simp [deskC] at c7'
  have h3 := ((hv.set 9 (.int .i64 (D.acc + 1))).pull 2).tPut len_fR i zeroR hi
  go_enter Try.func19, Try.ntmps19
  go_wp2_with fail
  refine (at_rep (n := D.reps.length) (cap := cap) (off := off) (g := g) ?_ hi).mono ?_
  · rw [World.cell?_alloc_lt _ _ _ (by simpa using hd)]; exact c7'
  rintro e w1 ⟨rfl, rfl⟩
  go_wp2
  exact bodyPost_ret (v := .tuple #[aggA r, .bool true]) (by simp [results, Try.results19, go_sem, aggA]) rfl ⟨rfl, ((deskP_I (D := { tick D with reps := D.reps.set i zeroR }) (h3.push 2)).alloc' _).alloc' _, ((Kp.putCells (g := g) (fR zeroR) (off + i * 6) ((Kp.refl w).setCell ⟨d, 9, none⟩ (.int .i64 (D.acc + 1)))).alloc _).alloc _⟩

end Go.Proofs.Ytkcgbenhnhbhhab

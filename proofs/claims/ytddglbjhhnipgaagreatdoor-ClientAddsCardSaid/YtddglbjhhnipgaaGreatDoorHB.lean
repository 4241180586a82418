import Derived.Test.YtddglbjhhnipgaaGreatDoorHA
import Derived.Deep.RegionWith
namespace Go.Proofs.YtddglbjhhnipgaaGreatDoor
open Go Go.RowKit
set_option linter.unusedVariables false
set_option linter.unusedSimpArgs false
set_option maxRecDepth 100000
set_option maxHeartbeats 8000000
def tick (D : DeskD) : DeskD := { D with acc := D.acc + 1 }
theorem desk_accesses {w : World} {l : List HProp} {d : Nat} {D : DeskD} (hs : Sat w (deskP d D :: l)) :
   Calls Tryz.prog 23 #[.pointer (some ⟨d, 0, none⟩)] w fun e w' => e = .returned (.int .i64 D.acc) ∧ w = w' := by
 obtain ⟨vp, vr, q, hv⟩ := deskP_E hs
 have c9 := hv.cell 9
 simp [deskC] at c9
 go_enter Tryz.func23, Tryz.ntmps23
 go_wp2
 go_ret
 exact ⟨rfl, rfl⟩
theorem desk_epoch {w : World} {l : List HProp} {d : Nat} {D : DeskD} (hs : Sat w (deskP d D :: l)) (h0 : 0 ≤ D.acc) (h1 : D.acc < 1000000000) :
   Calls Tryz.prog 95 #[.pointer (some ⟨d, 0, none⟩)] w fun e w' => e = .returned (.int .i64 D.epoch) ∧ Sat w' (deskP d (tick D) :: l) ∧ Kp w w' := by
 obtain ⟨vp, vr, q, hv⟩ := deskP_E hs
 have c9 := hv.cell 9
 have c5 := hv.cell 5
 have f9 := hv.free 9
 simp [deskC] at c9 c5
 go_enter Tryz.func95, Tryz.ntmps95
 go_wp2
 go_ret
 exact ⟨rfl, deskP_I (D := tick D) (hv.set 9 (.int .i64 (D.acc + 1))), (Kp.refl w).setCell _ _⟩
theorem desk_shut {w : World} {l : List HProp} {d : Nat} {D : DeskD} (hs : Sat w (deskP d D :: l)) (h0 : 0 ≤ D.acc) (h1 : D.acc < 1000000000) :
   Calls Tryz.prog 18 #[.pointer (some ⟨d, 0, none⟩)] w fun e w' => e = .returned (.tuple #[]) ∧ Sat w' (deskP d { tick D with closed := true } :: l) ∧ Kp w w' := by
 obtain ⟨vp, vr, q, hv⟩ := deskP_E hs
 have c9 := hv.cell 9
 have c8 := hv.cell 8
 have f9 := hv.free 9
 simp [deskC] at c9 c8
 go_enter Tryz.func18, Tryz.ntmps18
 go_wp2_with fail
 have hv2 := hv.set 9 (.int .i64 (D.acc + 1))
 have k2 := (Kp.refl w).setCell ⟨d, 9, none⟩ (.int .i64 (D.acc + 1))
 refine (ringM_close (hv2.pull 3)).mono ?_
 rintro e w1 ⟨rfl, h1, k1⟩
 go_wp2_with fail
 go_end0
 exact ⟨rfl, deskP_I (D := { tick D with closed := true }) (h1.push 3), k2.trans k1⟩
theorem desk_setPin {w : World} {l : List HProp} {d : Nat} {D : DeskD} {i : Nat} {n : Int} (hs : Sat w (deskP d D :: l)) (h0 : 0 ≤ D.acc) (h1 : D.acc < 1000000000) (hi : i < D.pins.length) :
   Calls Tryz.prog 53 #[.pointer (some ⟨d, 0, none⟩), .int .i64 i, .int .i64 n] w fun e w' => e = .returned (.tuple #[]) ∧ Sat w' (deskP d { tick D with pins := D.pins.set i n } :: l) ∧ Kp w w' := by
 obtain ⟨vp, vr, q, hv⟩ := deskP_E hs
 have c9 := hv.cell 9
 have c6 := hv.cell 6
 have f9 := hv.free 9
 have hd := hv.lt
 simp [deskC] at c9 c6
 rcases (hv.pull 1).tForm with ⟨rfl, hp⟩ | ⟨g, off, cap, rfl⟩
 · rw [hp] at hi; simp at hi
 go_enter Tryz.func53, Tryz.ntmps53
 go_wp2_with fail
 have hv2 := hv.set 9 (.int .i64 (D.acc + 1))
 have k2 := (Kp.refl w).setCell ⟨d, 9, none⟩ (.int .i64 (D.acc + 1))
 have c6' := hv2.cell 6
 simp [deskC] at c6'
 refine (at_int c6' hi).mono ?_
 rintro e w1 ⟨rfl, rfl⟩
 have hc := (hv2.pull 1).tCellI i D.pins[i] (by simp)
 have hf := (hv2.pull 1).rowFree (off + i)
 have hne : (d : Nat) ≠ g := ((hv2.pull 1).rowNe).symm
 go_wp2_with fail
 go_end0
 have h3 := (hv2.pull 1).tSetI i n
 exact ⟨rfl, deskP_I (D := { tick D with pins := D.pins.set i n }) (h3.pull 1), k2.setCell _ _⟩
theorem len_fR (r : RepD) : (fR r).length = 6 := rfl
theorem desk_setPin_not {w : World} {l : List HProp} {d : Nat} {D : DeskD} {i n : Int} (hs : Sat w (deskP d D :: l)) (h0 : 0 ≤ D.acc) (h1 : D.acc < 1000000000) (hi : i < 0 ∨ (D.pins.length : Int) ≤ i) :
   Calls Tryz.prog 53 #[.pointer (some ⟨d, 0, none⟩), .int .i64 i, .int .i64 n] w fun e w' => e = .returned (.tuple #[]) ∧ Sat w' (deskP d (tick D) :: l) ∧ Kp w w' := by
 obtain ⟨vp, vr, q, hv⟩ := deskP_E hs
 have c9 := hv.cell 9
 have c6 := hv.cell 6
 have f9 := hv.free 9
 simp [deskC] at c9 c6
 obtain ⟨ao, cap, rfl⟩ := (hv.pull 1).tLen
 go_enter Tryz.func53, Tryz.ntmps53
 go_wp2_with fail
 have hv2 := hv.set 9 (.int .i64 (D.acc + 1))
 have k2 := (Kp.refl w).setCell ⟨d, 9, none⟩ (.int .i64 (D.acc + 1))
 have c6' := hv2.cell 6
 simp [deskC] at c6'
 refine (at_int_not c6' hi).mono ?_
 rintro e w1 ⟨rfl, rfl⟩
 go_wp2_with fail
 go_end0
 exact ⟨rfl, deskP_I (D := tick D) hv2, k2⟩
theorem desk_pin {w : World} {l : List HProp} {d : Nat} {D : DeskD} {i : Nat} {n : Int} (hs : Sat w (deskP d D :: l)) (h0 : 0 ≤ D.acc) (h1 : D.acc < 1000000000) (hi : D.pins[i]? = some n) :
   Calls Tryz.prog 55 #[.pointer (some ⟨d, 0, none⟩), .int .i64 i] w fun e w' => e = .returned (.int .i64 n) ∧ Sat w' (deskP d (tick D) :: l) ∧ Kp w w' := by
 obtain ⟨vp, vr, q, hv⟩ := deskP_E hs
 have c9 := hv.cell 9
 have c6 := hv.cell 6
 have f9 := hv.free 9
 simp [deskC] at c9 c6
 have hi2 := (List.getElem?_eq_some_iff.1 hi).1
 rcases (hv.pull 1).tForm with ⟨rfl, hp⟩ | ⟨g, off, cap, rfl⟩
 · rw [hp] at hi2; simp at hi2
 go_enter Tryz.func55, Tryz.ntmps55
 go_wp2_with fail
 have hv2 := hv.set 9 (.int .i64 (D.acc + 1))
 have k2 := (Kp.refl w).setCell ⟨d, 9, none⟩ (.int .i64 (D.acc + 1))
 have c6' := hv2.cell 6
 simp [deskC] at c6'
 refine (at_int c6' hi2).mono ?_
 rintro e w1 ⟨rfl, rfl⟩
 have hc := (hv2.pull 1).tCellI i n hi
 have hne : (d : Nat) ≠ g := ((hv2.pull 1).rowNe).symm
 clear hi
 go_wp2_with fail
 go_ret
 exact ⟨rfl, deskP_I (D := tick D) hv2, k2⟩
theorem desk_pin_not {w : World} {l : List HProp} {d : Nat} {D : DeskD} {i : Int} (hs : Sat w (deskP d D :: l)) (h0 : 0 ≤ D.acc) (h1 : D.acc < 1000000000) (hi : i < 0 ∨ (D.pins.length : Int) ≤ i) :
   Calls Tryz.prog 55 #[.pointer (some ⟨d, 0, none⟩), .int .i64 i] w fun e w' => e = .returned (.int .i64 0) ∧ Sat w' (deskP d (tick D) :: l) ∧ Kp w w' := by
 obtain ⟨vp, vr, q, hv⟩ := deskP_E hs
 have c9 := hv.cell 9
 have c6 := hv.cell 6
 have f9 := hv.free 9
 simp [deskC] at c9 c6
 obtain ⟨ao, cap, rfl⟩ := (hv.pull 1).tLen
 go_enter Tryz.func55, Tryz.ntmps55
 go_wp2_with fail
 have hv2 := hv.set 9 (.int .i64 (D.acc + 1))
 have k2 := (Kp.refl w).setCell ⟨d, 9, none⟩ (.int .i64 (D.acc + 1))
 have c6' := hv2.cell 6
 simp [deskC] at c6'
 refine (at_int_not c6' hi).mono ?_
 rintro e w1 ⟨rfl, rfl⟩
 go_wp2_with fail
 go_ret
 exact ⟨rfl, deskP_I (D := tick D) hv2, k2⟩
theorem desk_has {w : World} {l : List HProp} {d : Nat} {D : DeskD} {i : Nat} {r : RepD} (hs : Sat w (deskP d D :: l)) (hi : D.reps[i]? = some r) :
   Calls Tryz.prog 30 #[.pointer (some ⟨d, 0, none⟩), .int .i64 i] w fun e w' => e = .returned (.bool r.lies) ∧ w = w' := by
 obtain ⟨vp, vr, q, hv⟩ := deskP_E hs
 have c7 := hv.cell 7
 simp [deskC] at c7
 have hi2 := (List.getElem?_eq_some_iff.1 hi).1
 rcases (hv.pull 2).tForm with ⟨rfl, hp⟩ | ⟨g, off, cap, rfl⟩
 · rw [hp] at hi2; simp at hi2
 have e5 := (hv.pull 2).tCell len_fR i 5 hi rfl
 go_enter Tryz.func30, Tryz.ntmps30
 go_wp2_with fail
 refine (at_rep c7 hi2).mono ?_
 rintro e w1 ⟨rfl, rfl⟩
 clear hi
 go_wp2_with fail
 go_ret
 exact ⟨rfl, rfl⟩
theorem desk_has_not {w : World} {l : List HProp} {d : Nat} {D : DeskD} {i : Int} (hs : Sat w (deskP d D :: l)) (hi : i < 0 ∨ (D.reps.length : Int) ≤ i) :
   Calls Tryz.prog 30 #[.pointer (some ⟨d, 0, none⟩), .int .i64 i] w fun e w' => e = .returned (.bool false) ∧ w = w' := by
 obtain ⟨vp, vr, q, hv⟩ := deskP_E hs
 have c7 := hv.cell 7
 simp [deskC] at c7
 obtain ⟨ao, cap, rfl⟩ := (hv.pull 2).tLen
 go_enter Tryz.func30, Tryz.ntmps30
 go_wp2_with fail
 refine (at_rep_not c7 hi).mono ?_
 rintro e w1 ⟨rfl, rfl⟩
 go_wp2_with fail
 go_ret
 exact ⟨rfl, rfl⟩
theorem desk_setReply {w : World} {l : List HProp} {d : Nat} {D : DeskD} {i : Nat} {a : RepD} (hs : Sat w (deskP d D :: l)) (h0 : 0 ≤ D.acc) (h1 : D.acc < 1000000000) (hi : i < D.reps.length) :
   Calls Tryz.prog 29 #[.pointer (some ⟨d, 0, none⟩), .int .i64 i, aggA a] w fun e w' => e = .returned (.tuple #[]) ∧ Sat w' (deskP d { tick D with reps := D.reps.set i { a with lies := true } } :: l) ∧ Kp w w' := by
 obtain ⟨vp, vr, q, hv⟩ := deskP_E hs
 have c9 := hv.cell 9
 have c7 := hv.cell 7
 have f9 := hv.free 9
 have hd := hv.lt
 simp [deskC] at c9 c7
 rcases (hv.pull 2).tForm with ⟨rfl, hp⟩ | ⟨g, off, cap, rfl⟩
 · rw [hp] at hi; simp at hi
 obtain ⟨r, hr⟩ : ∃ r, D.reps[i]? = some r := ⟨D.reps[i], by simp⟩
 have e0 := (hv.pull 2).tCell len_fR i 0 hr rfl
 have e1 := (hv.pull 2).tCell len_fR i 1 hr rfl
 have e2 := (hv.pull 2).tCell len_fR i 2 hr rfl
 have e3 := (hv.pull 2).tCell len_fR i 3 hr rfl
 have e4 := (hv.pull 2).tCell len_fR i 4 hr rfl
 have e5 := (hv.pull 2).tCell len_fR i 5 hr rfl
 have z0 := (hv.pull 2).rowFree (off + i * 6 + 0)
 have z1 := (hv.pull 2).rowFree (off + i * 6 + 1)
 have z2 := (hv.pull 2).rowFree (off + i * 6 + 2)
 have z3 := (hv.pull 2).rowFree (off + i * 6 + 3)
 have z4 := (hv.pull 2).rowFree (off + i * 6 + 4)
 have z5 := (hv.pull 2).rowFree (off + i * 6 + 5)
 have hg := (hv.pull 2).rowBlock
 have hne : d ≠ g := ((hv.pull 2).rowNe).symm
 rw [Nat.add_zero] at e0 z0
 clear hr
 have c7' := (hv.set 9 (.int .i64 (D.acc + 1))).cell 7
 simp [deskC] at c7'
 have h3 := ((hv.set 9 (.int .i64 (D.acc + 1))).pull 2).tPut len_fR i { a with lies := true } hi
 unfold aggA
 go_enter Tryz.func29, Tryz.ntmps29
 go_wp2_with fail
 refine (at_rep (n := D.reps.length) (cap := cap) (off := off) (g := g) ?_ hi).mono ?_
 · rw [World.cell?_alloc_lt _ _ _ (by simpa using hd)]; exact c7'
 rintro e w1 ⟨rfl, rfl⟩
 go_wp2_with fail
 go_end0
 exact ⟨rfl, (deskP_I (D := { tick D with reps := D.reps.set i { a with lies := true } }) (h3.push 2)).alloc' _, (Kp.putCells (g := g) (fR { a with lies := true }) (off + i * 6) ((Kp.refl w).setCell ⟨d, 9, none⟩ (.int .i64 (D.acc + 1)))).alloc _⟩
theorem desk_setReply_not {w : World} {l : List HProp} {d : Nat} {D : DeskD} {i : Int} {a : RepD} (hs : Sat w (deskP d D :: l)) (h0 : 0 ≤ D.acc) (h1 : D.acc < 1000000000) (hi : i < 0 ∨ (D.reps.length : Int) ≤ i) :
   Calls Tryz.prog 29 #[.pointer (some ⟨d, 0, none⟩), .int .i64 i, aggA a] w fun e w' => e = .returned (.tuple #[]) ∧ Sat w' (deskP d (tick D) :: l) ∧ Kp w w' := by
 obtain ⟨vp, vr, q, hv⟩ := deskP_E hs
 have c9 := hv.cell 9
 have c7 := hv.cell 7
 have f9 := hv.free 9
 have hd := hv.lt
 simp [deskC] at c9 c7
 obtain ⟨ao, cap, rfl⟩ := (hv.pull 2).tLen
 have c7' := (hv.set 9 (.int .i64 (D.acc + 1))).cell 7
 simp [deskC] at c7'
 unfold aggA
 go_enter Tryz.func29, Tryz.ntmps29
 go_wp2_with fail
 refine (at_rep_not (n := D.reps.length) (cap := cap) (ao := ao) ?_ hi).mono ?_
 · rw [World.cell?_alloc_lt _ _ _ (by simpa using hd)]; exact c7'
 rintro e w1 ⟨rfl, rfl⟩
 go_wp2_with fail
 go_end0
 exact ⟨rfl, (deskP_I (D := tick D) (hv.set 9 (.int .i64 (D.acc + 1)))).alloc' _, ((Kp.refl w).setCell ⟨d, 9, none⟩ (.int .i64 (D.acc + 1))).alloc _⟩
/-- Send, whatever the queue's Put does. -/
theorem desk_send_of {w : World} {l : List HProp} {d : Nat} {D : DeskD} {m : MsgD} {r : Int} {msgs' : List MsgD} (hs : Sat w (deskP d D :: l)) (h0 : 0 ≤ D.acc) (h1 : D.acc < 1000000000)
   (hput : ∀ (q : Nat) (w : World) (l : List HProp), Sat w (ringM q D.most D.msgs D.closed :: l) → Calls Tryz.prog 87 #[.pointer (some ⟨q, 0, none⟩), aggM m] w fun e w' => e = .returned (.int .i64 r) ∧ Sat w' (ringM q D.most msgs' D.closed :: l) ∧ Kp w w') :
   Calls Tryz.prog 52 #[.pointer (some ⟨d, 0, none⟩), aggM m] w fun e w' => e = .returned (.int .i64 r) ∧ Sat w' (deskP d { tick D with msgs := msgs' } :: l) ∧ Kp w w' := by
 obtain ⟨vp, vr, q, hv⟩ := deskP_E hs
 have c9 := hv.cell 9
 have c8 := hv.cell 8
 have f9 := hv.free 9
 have hd := hv.lt
 simp [deskC] at c9 c8
 have hB := (hv.set 9 (.int .i64 (D.acc + 1))).alloc (.cells #[.int .i64 m.client, .int .i64 m.call, .int .i64 m.kind, .int .i64 m.node, .int .i64 m.up, .string m.text, .slice m.dao m.dn m.dc] 49)
 have kB := ((Kp.refl w).setCell ⟨d, 9, none⟩ (.int .i64 (D.acc + 1))).alloc (.cells #[.int .i64 m.client, .int .i64 m.call, .int .i64 m.kind, .int .i64 m.node, .int .i64 m.up, .string m.text, .slice m.dao m.dn m.dc] 49)
 simp only [World.size_setCell] at hB
 have H := Lib.hid hput
 clear hput
 unfold aggM
 go_enter Tryz.func52, Tryz.ntmps52
 go_wp2_with fail
 generalize hW : (w.setCell _ _).alloc _ = w1 at hB kB ⊢
 clear hW c9 c8 f9 hv hs
 generalize w.heap.size = B at hB hd ⊢
 have c8 := (hB.pull 1).cell 8
 have b0 := hB.cell 0
 have b1 := hB.cell 1
 have b2 := hB.cell 2
 have b3 := hB.cell 3
 have b4 := hB.cell 4
 have b5 := hB.cell 5
 have b6 := hB.cell 6
 simp [deskC] at c8 b0 b1 b2 b3 b4 b5 b6
 go_region_with ((go_at_call 87; refine (H.out q _ _ (hB.drew.pull 4)).mono ?_; rintro e w2 ⟨rfl, h2, k2⟩))
 all_goals
   go_wp2
   go_ret
   exact ⟨rfl, deskP_I (D := { tick D with msgs := msgs' }) ((h2.pull 1).tail.push 3), kB.drew.trans k2⟩
theorem desk_send_closed {w : World} {l : List HProp} {d : Nat} {D : DeskD} {m : MsgD} (hs : Sat w (deskP d D :: l)) (h0 : 0 ≤ D.acc) (h1 : D.acc < 1000000000) (hc : D.closed = true) :
   Calls Tryz.prog 52 #[.pointer (some ⟨d, 0, none⟩), aggM m] w fun e w' => e = .returned (.int .i64 8) ∧ Sat w' (deskP d (tick D) :: l) ∧ Kp w w' :=
 desk_send_of (msgs' := D.msgs) hs h0 h1 fun q w l h => by rw [hc] at h ⊢; exact ringM_put_closed h
theorem desk_send_full {w : World} {l : List HProp} {d : Nat} {D : DeskD} {m : MsgD} (hs : Sat w (deskP d D :: l)) (h0 : 0 ≤ D.acc) (h1 : D.acc < 1000000000) (hc : D.closed = false) (hf : D.most ≤ D.msgs.length) :
   Calls Tryz.prog 52 #[.pointer (some ⟨d, 0, none⟩), aggM m] w fun e w' => e = .returned (.int .i64 7) ∧ Sat w' (deskP d (tick D) :: l) ∧ Kp w w' :=
 desk_send_of (msgs' := D.msgs) hs h0 h1 fun q w l h => by rw [hc] at h ⊢; exact ringM_put_full h hf
theorem desk_send {w : World} {l : List HProp} {d : Nat} {D : DeskD} {m : MsgD} (hs : Sat w (deskP d D :: l)) (h0 : 0 ≤ D.acc) (h1 : D.acc < 1000000000) (hc : D.closed = false) (hf : (D.msgs.length : Int) < D.most) (hm : D.most ≤ 65536) :
   Calls Tryz.prog 52 #[.pointer (some ⟨d, 0, none⟩), aggM m] w fun e w' => e = .returned (.int .i64 0) ∧ Sat w' (deskP d { tick D with msgs := D.msgs ++ [m] } :: l) ∧ Kp w w' :=
 desk_send_of hs h0 h1 fun q w l h => by rw [hc] at h ⊢; exact ringM_put h hf hm
end Go.Proofs.YtddglbjhhnipgaaGreatDoor

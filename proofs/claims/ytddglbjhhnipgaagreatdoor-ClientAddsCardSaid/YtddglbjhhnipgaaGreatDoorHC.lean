import Derived.Test.YtddglbjhhnipgaaGreatDoorHB
namespace Go.Proofs.YtddglbjhhnipgaaGreatDoor
open Go Go.RowKit
set_option linter.unusedVariables false
set_option linter.unusedSimpArgs false
set_option maxRecDepth 100000
set_option maxHeartbeats 8000000
/-- Receive, whatever the queue's Take does. -/
theorem desk_receive_of {w : World} {l : List HProp} {d : Nat} {D : DeskD} {m : MsgD} {b : Bool} {msgs' : List MsgD} (hs : Sat w (deskP d D :: l)) (h0 : 0 ≤ D.acc) (h1 : D.acc < 1000000000)
   (htake : ∀ (q : Nat) (w : World) (l : List HProp), Sat w (ringM q D.most D.msgs D.closed :: l) → Calls Tryz.prog 69 #[.pointer (some ⟨q, 0, none⟩)] w fun e w' => e = .returned (.tuple #[aggM m, .bool b]) ∧ Sat w' (ringM q D.most msgs' D.closed :: l) ∧ Kp w w') :
   Calls Tryz.prog 28 #[.pointer (some ⟨d, 0, none⟩)] w fun e w' => e = .returned (.tuple #[aggM m, .bool b]) ∧ Sat w' (deskP d { tick D with msgs := msgs' } :: l) ∧ Kp w w' := by
 obtain ⟨vp, vr, q, hv⟩ := deskP_E hs
 have c9 := hv.cell 9
 have c8 := hv.cell 8
 have f9 := hv.free 9
 have hd := hv.lt
 simp [deskC] at c9 c8
 have hB := (hv.set 9 (.int .i64 (D.acc + 1))).alloc (.cells #[.int .i64 0, .int .i64 0, .int .i64 0, .int .i64 0, .int .i64 0, .string ⟨#[]⟩, .slice none 0 0] 49)
 have kB := ((Kp.refl w).setCell ⟨d, 9, none⟩ (.int .i64 (D.acc + 1))).alloc (.cells #[.int .i64 0, .int .i64 0, .int .i64 0, .int .i64 0, .int .i64 0, .string ⟨#[]⟩, .slice none 0 0] 49)
 simp only [World.size_setCell] at hB
 have H := Lib.hid htake
 clear htake
 go_enter Tryz.func28, Tryz.ntmps28
 go_wp2_with fail
 generalize hW : (w.setCell _ _).alloc _ = w1 at hB kB ⊢
 clear hW c9 c8 f9 hv hs
 generalize w.heap.size = B at hB hd ⊢
 refine (H.out q _ _ (hB.pull 4)).mono ?_
 rintro e w2 ⟨rfl, h2, k2⟩
 have r0 := (h2.pull 1).cell 0
 have r1 := (h2.pull 1).cell 1
 have r2 := (h2.pull 1).cell 2
 have r3 := (h2.pull 1).cell 3
 have r4 := (h2.pull 1).cell 4
 have r5 := (h2.pull 1).cell 5
 have r6 := (h2.pull 1).cell 6
 have s0 := (h2.pull 1).free 0
 have s1 := (h2.pull 1).free 1
 have s2 := (h2.pull 1).free 2
 have s3 := (h2.pull 1).free 3
 have s4 := (h2.pull 1).free 4
 have s5 := (h2.pull 1).free 5
 have s6 := (h2.pull 1).free 6
 simp at r0 r1 r2 r3 r4 r5 r6
 unfold aggM
 go_wp2
 have hF := ((((((((h2.pull 1).set 0 (.int .i64 m.client)).set 1 (.int .i64 m.call)).set 2 (.int .i64 m.kind)).set 3 (.int .i64 m.node)).set 4 (.int .i64 m.up)).set 5 (.string m.text)).set 6 (.slice m.dao m.dn m.dc))
 have z0 := hF.cell 0
 have z1 := hF.cell 1
 have z2 := hF.cell 2
 have z3 := hF.cell 3
 have z4 := hF.cell 4
 have z5 := hF.cell 5
 have z6 := hF.cell 6
 simp at z0 z1 z2 z3 z4 z5 z6
 have kF := (((((((kB.trans k2).setCell ⟨B, 0, none⟩ (.int .i64 m.client)).setCell ⟨B, 1, none⟩ (.int .i64 m.call)).setCell ⟨B, 2, none⟩ (.int .i64 m.kind)).setCell ⟨B, 3, none⟩ (.int .i64 m.node)).setCell ⟨B, 4, none⟩ (.int .i64 m.up)).setCell ⟨B, 5, none⟩ (.string m.text)).setCell ⟨B, 6, none⟩ (.slice m.dao m.dn m.dc)
 exact bodyPost_ret (v := .tuple #[aggM m, .bool b]) (by simp [results, Tryz.results28, go_sem, aggM, z0, z1, z2, z3, z4, z5, z6]) rfl ⟨rfl, deskP_I (D := { tick D with msgs := msgs' }) (hF.tail.push 3), kF⟩
theorem desk_receive_none {w : World} {l : List HProp} {d : Nat} {D : DeskD} (hs : Sat w (deskP d D :: l)) (h0 : 0 ≤ D.acc) (h1 : D.acc < 1000000000) (hm : D.msgs = []) :
   Calls Tryz.prog 28 #[.pointer (some ⟨d, 0, none⟩)] w fun e w' => e = .returned (.tuple #[aggM zeroM, .bool false]) ∧ Sat w' (deskP d (tick D) :: l) ∧ Kp w w' :=
 desk_receive_of (msgs' := D.msgs) hs h0 h1 fun q w l h => by
   rw [hm] at h ⊢
   exact (ringM_take_none h)
theorem desk_receive {w : World} {l : List HProp} {d : Nat} {D : DeskD} {m : MsgD} {ms : List MsgD} (hs : Sat w (deskP d D :: l)) (h0 : 0 ≤ D.acc) (h1 : D.acc < 1000000000) (hm : D.msgs = m :: ms) (hn : ms.length < 65536) :
   Calls Tryz.prog 28 #[.pointer (some ⟨d, 0, none⟩)] w fun e w' => e = .returned (.tuple #[aggM m, .bool true]) ∧ Sat w' (deskP d { tick D with msgs := ms } :: l) ∧ Kp w w' :=
 desk_receive_of hs h0 h1 fun q w l h => by
   rw [hm] at h
   exact ringM_take h hn
theorem desk_root {w : World} {l : List HProp} {d : Nat} {D : DeskD} (hs : Sat w (deskP d D :: l)) (h0 : 0 ≤ D.acc) (h1 : D.acc < 1000000000) :
   Calls Tryz.prog 49 #[.pointer (some ⟨d, 0, none⟩)] w fun e w' => e = .returned (.agg #[.int .i64 D.n, .int .i64 D.ks, .int .i64 D.kg, .int .i64 D.ss, .int .i64 D.sg]) ∧ Sat w' (deskP d (tick D) :: l) ∧ Kp w w' := by
 obtain ⟨vp, vr, q, hv⟩ := deskP_E hs
 have c9 := hv.cell 9
 have c0 := hv.cell 0
 have c1 := hv.cell 1
 have c2 := hv.cell 2
 have c3 := hv.cell 3
 have c4 := hv.cell 4
 have f9 := hv.free 9
 have hd := hv.lt
 simp [deskC] at c9 c0 c1 c2 c3 c4
 go_enter Tryz.func49, Tryz.ntmps49
 go_wp2
 exact bodyPost_ret (v := .agg #[.int .i64 D.n, .int .i64 D.ks, .int .i64 D.kg, .int .i64 D.ss, .int .i64 D.sg]) (by simp [results, Tryz.results49, go_sem]) rfl ⟨rfl, (deskP_I (D := tick D) (hv.set 9 (.int .i64 (D.acc + 1)))).alloc' _, ((Kp.refl w).setCell ⟨d, 9, none⟩ (.int .i64 (D.acc + 1))).alloc _⟩
theorem desk_reply_not {w : World} {l : List HProp} {d : Nat} {D : DeskD} {i : Int} (hs : Sat w (deskP d D :: l)) (h0 : 0 ≤ D.acc) (h1 : D.acc < 1000000000) (hi : i < 0 ∨ (D.reps.length : Int) ≤ i) :
   Calls Tryz.prog 148 #[.pointer (some ⟨d, 0, none⟩), .int .i64 i] w fun e w' => e = .returned (.tuple #[aggA zeroR, .bool false]) ∧ Sat w' (deskP d (tick D) :: l) ∧ Kp w w' := by
 obtain ⟨vp, vr, q, hv⟩ := deskP_E hs
 have c9 := hv.cell 9
 have c7 := hv.cell 7
 have f9 := hv.free 9
 have hd := hv.lt
 simp [deskC] at c9 c7
 obtain ⟨ao, cap, rfl⟩ := (hv.pull 2).tLen
 have c7' := (hv.set 9 (.int .i64 (D.acc + 1))).cell 7
 simp [deskC] at c7'
 go_enter Tryz.func148, Tryz.ntmps148
 go_wp2_with fail
 refine (at_rep_not (n := D.reps.length) (cap := cap) (ao := ao) ?_ hi).mono ?_
 · rw [World.cell?_alloc_lt _ _ _ (by simpa using hd)]; exact c7'
 rintro e w1 ⟨rfl, rfl⟩
 go_wp2
 exact bodyPost_ret (v := .tuple #[aggA zeroR, .bool false]) (by simp [results, Tryz.results148, go_sem, aggA, zeroR]) rfl ⟨rfl, (deskP_I (D := tick D) (hv.set 9 (.int .i64 (D.acc + 1)))).alloc' _, ((Kp.refl w).setCell ⟨d, 9, none⟩ (.int .i64 (D.acc + 1))).alloc _⟩
theorem desk_reply_none {w : World} {l : List HProp} {d : Nat} {D : DeskD} {i : Nat} {r : RepD} (hs : Sat w (deskP d D :: l)) (h0 : 0 ≤ D.acc) (h1 : D.acc < 1000000000) (hr : D.reps[i]? = some r) (hn : r.lies = false) :
   Calls Tryz.prog 148 #[.pointer (some ⟨d, 0, none⟩), .int .i64 i] w fun e w' => e = .returned (.tuple #[aggA zeroR, .bool false]) ∧ Sat w' (deskP d (tick D) :: l) ∧ Kp w w' := by
 obtain ⟨vp, vr, q, hv⟩ := deskP_E hs
 have c9 := hv.cell 9
 have c7 := hv.cell 7
 have f9 := hv.free 9
 have hd := hv.lt
 simp [deskC] at c9 c7
 have hi := (List.getElem?_eq_some_iff.1 hr).1
 rcases (hv.pull 2).tForm with ⟨rfl, hp⟩ | ⟨g, off, cap, rfl⟩
 · rw [hp] at hi; simp at hi
 have e5 := (hv.pull 2).tCell len_fR i 5 hr rfl
 rw [hn] at e5
 have hg := (hv.pull 2).rowBlock
 have hne : d ≠ g := ((hv.pull 2).rowNe).symm
 clear hr
 have c7' := (hv.set 9 (.int .i64 (D.acc + 1))).cell 7
 simp [deskC] at c7'
 go_enter Tryz.func148, Tryz.ntmps148
 go_wp2_with fail
 refine (at_rep (n := D.reps.length) (cap := cap) (off := off) (g := g) ?_ hi).mono ?_
 · rw [World.cell?_alloc_lt _ _ _ (by simpa using hd)]; exact c7'
 rintro e w1 ⟨rfl, rfl⟩
 go_wp2
 exact bodyPost_ret (v := .tuple #[aggA zeroR, .bool false]) (by simp [results, Tryz.results148, go_sem, aggA, zeroR]) rfl ⟨rfl, (deskP_I (D := tick D) (hv.set 9 (.int .i64 (D.acc + 1)))).alloc' _, ((Kp.refl w).setCell ⟨d, 9, none⟩ (.int .i64 (D.acc + 1))).alloc _⟩
theorem desk_reply {w : World} {l : List HProp} {d : Nat} {D : DeskD} {i : Nat} {r : RepD} (hs : Sat w (deskP d D :: l)) (h0 : 0 ≤ D.acc) (h1 : D.acc < 1000000000) (hr : D.reps[i]? = some r) (hn : r.lies = true) :
   Calls Tryz.prog 148 #[.pointer (some ⟨d, 0, none⟩), .int .i64 i] w fun e w' => e = .returned (.tuple #[aggA r, .bool true]) ∧ Sat w' (deskP d { tick D with reps := D.reps.set i zeroR } :: l) ∧ Kp w w' := by
 obtain ⟨vp, vr, q, hv⟩ := deskP_E hs
 have c9 := hv.cell 9
 have c7 := hv.cell 7
 have f9 := hv.free 9
 have hd := hv.lt
 simp [deskC] at c9 c7
 have hi := (List.getElem?_eq_some_iff.1 hr).1
 rcases (hv.pull 2).tForm with ⟨rfl, hp⟩ | ⟨g, off, cap, rfl⟩
 · rw [hp] at hi; simp at hi
 have e0 := (hv.pull 2).tCell len_fR i 0 hr rfl
 have e1 := (hv.pull 2).tCell len_fR i 1 hr rfl
 have e2 := (hv.pull 2).tCell len_fR i 2 hr rfl
 have e3 := (hv.pull 2).tCell len_fR i 3 hr rfl
 have e4 := (hv.pull 2).tCell len_fR i 4 hr rfl
 have e5 := (hv.pull 2).tCell len_fR i 5 hr rfl
 have z0 := (hv.pull 2).rowFree (off + i * 6 + 0)
 have z1 := (hv.pull 2).rowFree (off + i * 6 + 1)
 have z2 := (hv.pull 2).rowFree (off + i * 6 + 2)
 have z3 := (hv.pull 2).rowFree (off + i * 6 + 3)
 have z4 := (hv.pull 2).rowFree (off + i * 6 + 4)
 have z5 := (hv.pull 2).rowFree (off + i * 6 + 5)
 rw [hn] at e5
 have hg := (hv.pull 2).rowBlock
 have hne : d ≠ g := ((hv.pull 2).rowNe).symm
 rw [Nat.add_zero] at e0 z0
 clear hr
 have c7' := (hv.set 9 (.int .i64 (D.acc + 1))).cell 7
 simp [deskC] at c7'
 have h3 := ((hv.set 9 (.int .i64 (D.acc + 1))).pull 2).tPut len_fR i zeroR hi
 go_enter Tryz.func148, Tryz.ntmps148
 go_wp2_with fail
 refine (at_rep (n := D.reps.length) (cap := cap) (off := off) (g := g) ?_ hi).mono ?_
 · rw [World.cell?_alloc_lt _ _ _ (by simpa using hd)]; exact c7'
 rintro e w1 ⟨rfl, rfl⟩
 go_wp2
 exact bodyPost_ret (v := .tuple #[aggA r, .bool true]) (by simp [results, Tryz.results148, go_sem, aggA]) rfl ⟨rfl, ((deskP_I (D := { tick D with reps := D.reps.set i zeroR }) (h3.push 2)).alloc' _).alloc' _, ((Kp.putCells (g := g) (fR zeroR) (off + i * 6) ((Kp.refl w).setCell ⟨d, 9, none⟩ (.int .i64 (D.acc + 1)))).alloc _).alloc _⟩
theorem Tryz.infoInt2 : (Tryz.prog.info? 3).map (fun i => (i.zero, i.size, i.bytes)) = some (some (.int .i64 0), 1, 8) := by kernel_rfl
theorem Tryz.infoRep : (Tryz.prog.info? 141).map (fun i => (i.zero, i.size, i.bytes)) = some (some (.agg #[.int .i64 0, .int .i64 0, .int .i64 0, .slice none 0 0, .slice none 0 0, .bool false]), 6, 80) := by kernel_rfl
def newD (n : Nat) (most : Int) : DeskD := ⟨0, 0, 0, 0, 0, 0, List.replicate n 0, List.replicate n zeroR, most, [], false, 0⟩
theorem desk_new (n : Nat) (most : Int) (w : World) (l : List HProp) (hs : Sat w l) (hn : n ≤ 64) (h0 : 0 ≤ most) (h1 : most ≤ 65536) :
   Calls Tryz.prog 16 #[.int .i64 n, .int .i64 most] w fun e w' => ∃ d, e = .returned (.pointer (some ⟨d, 0, none⟩)) ∧ Sat w' (deskP d (newD n most) :: l) ∧ Kp w w' := by
 obtain ⟨i0, hi, hz0, hz1, hz2⟩ := info_parts Tryz.infoInt2
 obtain ⟨i1, hj, hy0, hy1, hy2⟩ := info_parts Tryz.infoRep
 have hmk1 := fun W => run_make_rowN (P := Tryz.prog) 121 3 i0 (.int .i64 0) Tryz.underlying121 hi hz0 .i64 .i64 n n (Nat.le_refl _) (by rw [hz2]; omega) (by omega) W
 have hmk2 := fun W => run_make_rowN (P := Tryz.prog) 124 141 i1 _ Tryz.underlying124 hj hy0 .i64 .i64 n n (Nat.le_refl _) (by rw [hy2]; omega) (by omega) W
 rw [hz1] at hmk1
 rw [hy1] at hmk2
 go_enter Tryz.func16, Tryz.ntmps16
 go_wp2_with fail
 refine (ringM_new most w l hs h0 h1).mono ?_
 rintro e w1 ⟨q, rfl, h1, k1⟩
 go_wp2_with fail
 go_region
 · go_wp2
   go_ret
   have a1 := (h1.alloc (.cells (madeCells #[.int .i64 0] (n * 1)) 3)).tMade (f := fI) 0 rfl (by omega) rfl (by unfold maxLen; omega)
   have a2 := (a1.alloc (.cells (madeCells #[.int .i64 0, .int .i64 0, .int .i64 0, .slice none 0 0, .slice none 0 0, .bool false] (n * 6)) 141)).tMade (f := fR) zeroR rfl (by omega) rfl (by unfold maxLen; omega)
   have a3 := a2.swap.alloc (.cells (deskC (newD n most) (.slice (some ⟨w1.heap.size, 0, none⟩) n n) (.slice (some ⟨w1.heap.size + 1, 0, none⟩) n n) q) 128)
   simp only [World.size_alloc, Nat.mul_one] at a3
   exact ⟨_, rfl, deskP_I a3.drew, (((k1.alloc _).alloc _).alloc _).drew⟩
 · go_wp2
   go_ret
   have a1 := (h1.alloc (.cells (madeCells #[.int .i64 0, .int .i64 0, .int .i64 0, .slice none 0 0, .slice none 0 0, .bool false] (n * 6)) 141)).tMade (f := fR) zeroR rfl (by omega) rfl (by unfold maxLen; omega)
   have a2 := (a1.alloc (.cells (madeCells #[.int .i64 0] (n * 1)) 3)).tMade (f := fI) 0 rfl (by omega) rfl (by unfold maxLen; omega)
   have a3 := a2.alloc (.cells (deskC (newD n most) (.slice (some ⟨w1.heap.size + 1, 0, none⟩) n n) (.slice (some ⟨w1.heap.size, 0, none⟩) n n) q) 128)
   simp only [World.size_alloc, Nat.mul_one] at a3
   exact ⟨_, rfl, deskP_I a3.drew, (((k1.alloc _).alloc _).alloc _).drew⟩
theorem desk_new_not (n most : Int) (w : World) (l : List HProp) (hs : Sat w l) (h : n < 0 ∨ 64 < n ∨ most < 0 ∨ 65536 < most) :
   Calls Tryz.prog 16 #[.int .i64 n, .int .i64 most] w fun e w' => e = .returned (.pointer none) ∧ Sat w' l ∧ Kp w w' := by
 by_cases hm : most < 0 ∨ 65536 < most
 · by_cases h0 : n < 0
   · go_enter Tryz.func16, Tryz.ntmps16
     go_wp2_with fail
     refine (ringM_new_not most w hm).mono ?_
     rintro e w1 ⟨rfl, rfl⟩
     clear h hm
     go_wp2_with fail
     go_ret
     exact ⟨rfl, hs, Kp.refl _⟩
   · have h0' : 0 ≤ n := by omega
     clear h h0
     by_cases h6 : 64 < n
     · go_enter Tryz.func16, Tryz.ntmps16
       go_wp2_with fail
       refine (ringM_new_not most w hm).mono ?_
       rintro e w1 ⟨rfl, rfl⟩
       clear hm
       go_wp2_with fail
       go_ret
       exact ⟨rfl, hs, Kp.refl _⟩
     · have h6' : n ≤ 64 := by omega
       clear h6
       go_enter Tryz.func16, Tryz.ntmps16
       go_wp2_with fail
       refine (ringM_new_not most w hm).mono ?_
       rintro e w1 ⟨rfl, rfl⟩
       clear hm
       go_wp2_with fail
       go_ret
       exact ⟨rfl, hs, Kp.refl _⟩
 · have m0 : 0 ≤ most := by omega
   have m1 : most ≤ 65536 := by omega
   have hn : n < 0 ∨ 64 < n := by omega
   clear h hm
   rcases hn with hn | hn
   · go_enter Tryz.func16, Tryz.ntmps16
     go_wp2_with fail
     refine (ringM_new most w l hs m0 m1).mono ?_
     rintro e w1 ⟨q, rfl, h1, k1⟩
     go_wp2_with fail
     go_ret
     exact ⟨rfl, h1.tail, k1⟩
   · have h0 : 0 ≤ n := by omega
     go_enter Tryz.func16, Tryz.ntmps16
     go_wp2_with fail
     refine (ringM_new most w l hs m0 m1).mono ?_
     rintro e w1 ⟨q, rfl, h1, k1⟩
     go_wp2_with fail
     go_ret
     exact ⟨rfl, h1.tail, k1⟩
end Go.Proofs.YtddglbjhhnipgaaGreatDoor

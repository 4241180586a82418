import Derived.Test.YtkcgbenhnhbhhabDesk4
namespace Go.Proofs.Ytkcgbenhnhbhhab
open Go Go.RowKit
set_option linter.unusedVariables false
set_option linter.unusedSimpArgs false

set_option maxRecDepth 100000 in
set_option maxHeartbeats 1000000 in
/-- Receive, whatever the queue's Take does. -/
theorem desk_receive_of {w : World} {l : List HProp} {d : Nat} {D : DeskD} {m : MsgD} {b : Bool} {msgs' : List MsgD} (hs : Sat w (deskP d D :: l)) (h0 : 0 ≤ D.acc) (h1 : D.acc < 1000000000)
    (htake : ∀ (q : Nat) (w : World) (l : List HProp), Sat w (ringM q D.most D.msgs D.closed :: l) → Calls Try.prog 26 #[.pointer (some ⟨q, 0, none⟩)] w fun e w' => e = .returned (.tuple #[aggM m, .bool b]) ∧ Sat w' (ringM q D.most msgs' D.closed :: l) ∧ Kp w w') :
    Calls Try.prog 16 #[.pointer (some ⟨d, 0, none⟩)] w fun e w' => e = .returned (.tuple #[aggM m, .bool b]) ∧ Sat w' (deskP d { tick D with msgs := msgs' } :: l) ∧ Kp w w' := by
  obtain ⟨vp, vr, q, hv⟩ := deskP_E hs
  have c9 := hv.cell 9
  have c8 := hv.cell 8
  have f9 := hv.free 9
  have hd := hv.lt
  simp [deskC] at c9 c8
  have hB := (hv.set 9 (.int .i64 (D.acc + 1))).alloc (.cells #[.int .i64 0, .int .i64 0, .int .i64 0, .int .i64 0, .int .i64 0, .string ⟨#[]⟩, .slice none 0 0] 50)
  have kB := ((Kp.refl w).setCell ⟨d, 9, none⟩ (.int .i64 (D.acc + 1))).alloc (.cells #[.int .i64 0, .int .i64 0, .int .i64 0, .int .i64 0, .int .i64 0, .string ⟨#[]⟩, .slice none 0 0] 50)
  simp only [World.size_setCell] at hB
  have H := Lib.hid htake
  clear htake
  go_enter Try.func16, Try.ntmps16
  go_wp2_with fail
  generalize hW : (w.setCell _ _).alloc _ = w1 at hB kB ⊢
  clear hW c9 c8 f9 hv hs
  generalize w.heap.size = B at hB hd ⊢
  refine (H.out q _ _ (hB.pull 4)).mono ?_
  rintro e w2 ⟨rfl, h2, k2⟩
  have r0 := (h2.pull 1).cell 0
  have r1 := (h2.pull 1).cell 1
  have r2 := (h2.pull 1).cell 2
  have r3 := (h2.pull 1).cell 3
  have r4 := (h2.pull 1).cell 4
  have r5 := (h2.pull 1).cell 5
  have r6 := (h2.pull 1).cell 6
  have s0 := (h2.pull 1).free 0
  have s1 := (h2.pull 1).free 1
  have s2 := (h2.pull 1).free 2
  have s3 := (h2.pull 1).free 3
  have s4 := (h2.pull 1).free 4
  have s5 := (h2.pull 1).free 5
  have s6 := (h2.pull 1).free 6
  simp at r0 r1 r2 r3 r4 r5 r6
  unfold aggM
  go_wp2
  have hF := ((((((((h2.pull 1).set 0 (.int .i64 m.client)).set 1 (.int .i64 m.call)).set 2 (.int .i64 m.kind)).set 3 (.int .i64 m.node)).set 4 (.int .i64 m.to)).set 5 (.string m.text)).set 6 (.slice m.dao m.dn m.dc))
  have z0 := hF.cell 0
  have z1 := hF.cell 1
  have z2 := hF.cell 2
  have z3 := hF.cell 3
  have z4 := hF.cell 4
  have z5 := hF.cell 5
  have z6 := hF.cell 6
  simp at z0 z1 z2 z3 z4 z5 z6
  have kF := (((((((kB.trans k2).setCell ⟨B, 0, none⟩ (.int .i64 m.client)).setCell ⟨B, 1, none⟩ (.int .i64 m.call)).setCell ⟨B, 2, none⟩ (.int .i64 m.kind)).setCell ⟨B, 3, none⟩ (.int .i64 m.node)).setCell ⟨B, 4, none⟩ (.int .i64 m.to)).setCell ⟨B, 5, none⟩ (.string m.text)).setCell ⟨B, 6, none⟩ (.slice m.dao m.dn m.dc)
  exact bodyPost_ret (v := .tuple #[aggM m, .bool b]) (by simp [results, Try.results16, go_sem, aggM, z0, z1, z2, z3, z4, z5, z6]) rfl ⟨rfl, deskP_I (D := { tick D with msgs := msgs' }) (hF.tail.push 3), kF⟩

theorem desk_receive_none {w : World} {l : List HProp} {d : Nat} {D : DeskD} (hs : Sat w (deskP d D :: l)) (h0 : 0 ≤ D.acc) (h1 : D.acc < 1000000000) (hm : D.msgs = []) :
    Calls Try.prog 16 #[.pointer (some ⟨d, 0, none⟩)] w fun e w' => e = .returned (.tuple #[aggM zeroM, .bool false]) ∧ Sat w' (deskP d (tick D) :: l) ∧ Kp w w' :=
  desk_receive_of (msgs' := D.msgs) hs h0 h1 fun q w l h => by
    rw [hm] at h ⊢
    exact (ringM_take_none h)
theorem desk_receive {w : World} {l : List HProp} {d : Nat} {D : DeskD} {m : MsgD} {ms : List MsgD} (hs : Sat w (deskP d D :: l)) (h0 : 0 ≤ D.acc) (h1 : D.acc < 1000000000) (hm : D.msgs = m :: ms) (hn : ms.length < 65536) :
    Calls Try.prog 16 #[.pointer (some ⟨d, 0, none⟩)] w fun e w' => e = .returned (.tuple #[aggM m, .bool true]) ∧ Sat w' (deskP d { tick D with msgs := ms } :: l) ∧ Kp w w' :=
  desk_receive_of hs h0 h1 fun q w l h => by
    rw [hm] at h
    exact ringM_take h hn

set_option maxRecDepth 100000 in
theorem desk_root {w : World} {l : List HProp} {d : Nat} {D : DeskD} (hs : Sat w (deskP d D :: l)) (h0 : 0 ≤ D.acc) (h1 : D.acc < 1000000000) :
    Calls Try.prog 9 #[.pointer (some ⟨d, 0, none⟩)] w fun e w' => e = .returned (.agg #[.int .i64 D.n, .int .i64 D.ks, .int .i64 D.kg, .int .i64 D.ss, .int .i64 D.sg]) ∧ Sat w' (deskP d (tick D) :: l) ∧ Kp w w' := by
  obtain ⟨vp, vr, q, hv⟩ := deskP_E hs
  have c9 := hv.cell 9
  have c0 := hv.cell 0
  have c1 := hv.cell 1
  have c2 := hv.cell 2
  have c3 := hv.cell 3
  have c4 := hv.cell 4
  have f9 := hv.free 9
  have hd := hv.lt
  simp [deskC] at c9 c0 c1 c2 c3 c4
  go_enter Try.func9, Try.ntmps9
  go_wp2
  exact bodyPost_ret (v := .agg #[.int .i64 D.n, .int .i64 D.ks, .int .i64 D.kg, .int .i64 D.ss, .int .i64 D.sg]) (by simp [results, Try.results9, go_sem]) rfl ⟨rfl, (deskP_I (D := tick D) (hv.set 9 (.int .i64 (D.acc + 1)))).alloc' _, ((Kp.refl w).setCell ⟨d, 9, none⟩ (.int .i64 (D.acc + 1))).alloc _⟩

end Go.Proofs.Ytkcgbenhnhbhhab

import Derived.Test.YtkcgbenhnhbhhabDesk3
import Derived.Deep.RegionWith
namespace Go.Proofs.Ytkcgbenhnhbhhab
open Go Go.RowKit
set_option linter.unusedVariables false
set_option linter.unusedSimpArgs false

set_option maxRecDepth 100000 in
set_option maxHeartbeats 1000000 in
/-- Send, whatever the queue's Put does. -/
theorem desk_send_of {w : World} {l : List HProp} {d : Nat} {D : DeskD} {m : MsgD} {r : Int} {msgs' : List MsgD} (hs : Sat w (deskP d D :: l)) (h0 : 0 ≤ D.acc) (h1 : D.acc < 1000000000)
    (hput : ∀ (q : Nat) (w : World) (l : List HProp), Sat w (ringM q D.most D.msgs D.closed :: l) → Calls Try.prog 25 #[.pointer (some ⟨q, 0, none⟩), aggM m] w fun e w' => e = .returned (.int .i64 r) ∧ Sat w' (ringM q D.most msgs' D.closed :: l) ∧ Kp w w') :
    Calls Try.prog 14 #[.pointer (some ⟨d, 0, none⟩), aggM m] w fun e w' => e = .returned (.int .i64 r) ∧ Sat w' (deskP d { tick D with msgs := msgs' } :: l) ∧ Kp w w' := by
  obtain ⟨vp, vr, q, hv⟩ := deskP_E hs
  have c9 := hv.cell 9
  have c8 := hv.cell 8
  have f9 := hv.free 9
  have hd := hv.lt
  simp [deskC] at c9 c8
  have hB := (hv.set 9 (.int .i64 (D.acc + 1))).alloc (.cells #[.int .i64 m.client, .int .i64 m.call, .int .i64 m.kind, .int .i64 m.node, .int .i64 m.to, .string m.text, .slice m.dao m.dn m.dc] 50)
  have kB := ((Kp.refl w).setCell ⟨d, 9, none⟩ (.int .i64 (D.acc + 1))).alloc (.cells #[.int .i64 m.client, .int .i64 m.call, .int .i64 m.kind, .int .i64 m.node, .int .i64 m.to, .string m.text, .slice m.dao m.dn m.dc] 50)
  simp only [World.size_setCell] at hB
  have H := Lib.hid hput
  clear hput
  unfold aggM
  go_enter Try.func14, Try.ntmps14
  go_wp2_with fail
  generalize hW : (w.setCell _ _).alloc _ = w1 at hB kB ⊢
  clear hW c9 c8 f9 hv hs
  generalize w.heap.size = B at hB hd ⊢
  have c8 := (hB.pull 1).cell 8
  have b0 := hB.cell 0
  have b1 := hB.cell 1
  have b2 := hB.cell 2
  have b3 := hB.cell 3
  have b4 := hB.cell 4
  have b5 := hB.cell 5
  have b6 := hB.cell 6
  simp [deskC] at c8 b0 b1 b2 b3 b4 b5 b6
  go_region_with ((go_at_call 25; refine (H.out q _ _ (hB.drew.pull 4)).mono ?_; rintro e w2 ⟨rfl, h2, k2⟩))
  all_goals
    go_wp2
    go_ret
    exact ⟨rfl, deskP_I (D := { tick D with msgs := msgs' }) ((h2.pull 1).tail.push 3), kB.drew.trans k2⟩

theorem desk_send_closed {w : World} {l : List HProp} {d : Nat} {D : DeskD} {m : MsgD} (hs : Sat w (deskP d D :: l)) (h0 : 0 ≤ D.acc) (h1 : D.acc < 1000000000) (hc : D.closed = true) :
    Calls Try.prog 14 #[.pointer (some ⟨d, 0, none⟩), aggM m] w fun e w' => e = .returned (.int .i64 8) ∧ Sat w' (deskP d (tick D) :: l) ∧ Kp w w' :=
  desk_send_of (msgs' := D.msgs) hs h0 h1 fun q w l h => by rw [hc] at h ⊢; exact ringM_put_closed h
theorem desk_send_full {w : World} {l : List HProp} {d : Nat} {D : DeskD} {m : MsgD} (hs : Sat w (deskP d D :: l)) (h0 : 0 ≤ D.acc) (h1 : D.acc < 1000000000) (hc : D.closed = false) (hf : D.most ≤ D.msgs.length) :
    Calls Try.prog 14 #[.pointer (some ⟨d, 0, none⟩), aggM m] w fun e w' => e = .returned (.int .i64 7) ∧ Sat w' (deskP d (tick D) :: l) ∧ Kp w w' :=
  desk_send_of (msgs' := D.msgs) hs h0 h1 fun q w l h => by rw [hc] at h ⊢; exact ringM_put_full h hf
theorem desk_send {w : World} {l : List HProp} {d : Nat} {D : DeskD} {m : MsgD} (hs : Sat w (deskP d D :: l)) (h0 : 0 ≤ D.acc) (h1 : D.acc < 1000000000) (hc : D.closed = false) (hf : (D.msgs.length : Int) < D.most) (hm : D.most ≤ 65536) :
    Calls Try.prog 14 #[.pointer (some ⟨d, 0, none⟩), aggM m] w fun e w' => e = .returned (.int .i64 0) ∧ Sat w' (deskP d { tick D with msgs := D.msgs ++ [m] } :: l) ∧ Kp w w' :=
  desk_send_of hs h0 h1 fun q w l h => by rw [hc] at h ⊢; exact ringM_put h hf hm

end Go.Proofs.Ytkcgbenhnhbhhab

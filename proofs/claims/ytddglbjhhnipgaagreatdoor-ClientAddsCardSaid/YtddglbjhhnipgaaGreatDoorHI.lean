import Derived.Test.YtddglbjhhnipgaaGreatDoorHH
import Derived.Deep.CutRange
namespace Go.Proofs.YtddglbjhhnipgaaGreatDoor
open Go Go.RowKit
set_option linter.unusedVariables false
set_option linter.unusedSimpArgs false
set_option maxRecDepth 100000
set_option maxHeartbeats 8000000
/-! ### how a read begins; what isn't a call -/
theorem cli_begin_bad {σ : Type} {k : FuncId} {cap : Array Value} {N : σ → HProp} {st : σ → EvD → σ} {ok : σ → Prop} (hN : NoteOk k cap N st ok) {y : σ} {w : World} {l : List HProp} {c d s : Nat} {C : CliD} {x : CallD}
   (hy : ok y) (hy1 : ok (st y ⟨0, C.i, C.at', 0⟩)) (hat : C.at' < 1000000) (hal : C.answers.length ≤ 1000000) (hx : C.calls[C.at']? = some x)
   (hkd : x.kind < 0 ∨ 7 < x.kind)
   (hs : Sat w (cliP c d s (.func (.func k) #[] cap) C :: N y :: l)) :
   Calls Tryz.prog 66 #[.pointer (some ⟨c, 0, none⟩)] w fun e w' => e = .returned (.tuple #[]) ∧ Sat w' (cliP c d s (.func (.func k) #[] cap) { C with answers := C.answers ++ [⟨1, 0, 0, none, 0, 0, none, 0, 0, false⟩], at' := C.at' + 1, next := .begin } :: N (st (st y ⟨0, C.i, C.at', 0⟩) ⟨9, C.i, C.at', 0⟩) :: l) ∧ Kp w w' := by
 have htl := cli_tell hN (what := 0) (ver := 0) hy hs
 have hlt := (List.getElem?_eq_some_iff.1 hx).1
 have hse := fun (W : World) (hW : Sat W (cliP c d s (.func (.func k) #[] cap) C :: N (st y ⟨0, C.i, C.at', 0⟩) :: l)) => cli_end (a := ⟨1, 0, 0, none, 0, 0, none, 0, 0, false⟩) hN hy1 (by omega) hal hW
 have HX := Lib.hid hx
 have HSE := Lib.hid hse
 clear hse hs hx
 go_enter Tryz.func66, Tryz.ntmps66
 go_wp2_with fail
 refine htl.mono ?_
 rintro e w1 ⟨rfl, h1, k1⟩
 clear htl
 obtain ⟨vc, va, h2⟩ := cliP_E h1
 rcases (h2.pull 1).tForm with ⟨rfl, hp⟩ | ⟨g, off, cap', rfl⟩
 · rw [hp] at hlt; simp at hlt
 obtain ⟨n, hn⟩ : ∃ n, C.calls.length = n := ⟨_, rfl⟩
 obtain ⟨s0, s2, s3, s4, x0, x1, x2, x3, x4⟩ := cliS h2 HX.out
 rw [hn] at s3 hlt
 have h0 : (0 : Int) ≤ (C.at' : Int) := by omega
 have hlt2 : (C.at' : Int) < (n : Int) := by omega
 clear h2 hn x1 x2 x3 x4 HX s0 s2
 obtain ⟨kd, hkd2⟩ : ∃ kd, x.kind = kd := ⟨_, rfl⟩
 rw [hkd2] at hkd x0
 go_upto_region 1 with (fail)
 go_quiet (fail)
 have h2 := h1.drewN nq
 have k2 := k1.drewN nq
 generalize w1.drewN nq = w2 at h2 k2 ⊢
 have hse := HSE.out _ h2
 unfold aggA at hse
 clear HSE h1 k1 s3 s4 x0 h2
 have e0 : (kd == 0) = false := by rw [beq_eq_false_iff_ne]; omega
 have e1 : (kd == 1) = false := by rw [beq_eq_false_iff_ne]; omega
 have e2 : (kd == 2) = false := by rw [beq_eq_false_iff_ne]; omega
 have e3 : (kd == 3) = false := by rw [beq_eq_false_iff_ne]; omega
 have e4 : (kd == 4) = false := by rw [beq_eq_false_iff_ne]; omega
 have e5 : (kd == 5) = false := by rw [beq_eq_false_iff_ne]; omega
 have e6 : (kd == 6) = false := by rw [beq_eq_false_iff_ne]; omega
 have e7 : (kd == 7) = false := by rw [beq_eq_false_iff_ne]; omega
 go_wp2_with fail
 refine hse.mono ?_
 rintro e w3 ⟨rfl, h3, k3⟩
 go_wp2_with fail
 go_end0
 exact ⟨rfl, h3, k2.trans k3⟩
theorem cli_begin_read {σ : Type} {k : FuncId} {cap : Array Value} {N : σ → HProp} {st : σ → EvD → σ} {ok : σ → Prop} (hN : NoteOk k cap N st ok) {y : σ} {w : World} {l : List HProp} {c d s : Nat} {C : CliD} {x : CallD} {D : DeskD}
   (hy : ok y) (hat : C.at' < 1000000) (hx : C.calls[C.at']? = some x) (hkd : x.kind = 3 ∨ x.kind = 4) (hD0 : 0 ≤ D.acc) (hD1 : D.acc < 1000000000)
   (hs : Sat w (cliP c d s (.func (.func k) #[] cap) C :: N y :: deskP d D :: l)) :
   Calls Tryz.prog 66 #[.pointer (some ⟨c, 0, none⟩)] w fun e w' => e = .returned (.tuple #[]) ∧ Sat w' (cliP c d s (.func (.func k) #[] cap) { C with epoch := D.epoch, next := .pin } :: N (st y ⟨0, C.i, C.at', 0⟩) :: deskP d (tick D) :: l) ∧ Kp w w' := by
 have htl := cli_tell hN (what := 0) (ver := 0) hy hs
 have hlt := (List.getElem?_eq_some_iff.1 hx).1
 have hmf : ∀ (fn : Fn) (first cap : Array Value) (w : World), (Instr.makeFunc fn first cap).run Tryz.prog w = .ok (.func fn first cap) w := fun _ _ _ _ => rfl
 have HX := Lib.hid hx
 clear hs hx
 go_enter Tryz.func66, Tryz.ntmps66
 go_wp2_with fail
 refine htl.mono ?_
 rintro e w1 ⟨rfl, h1, k1⟩
 clear htl
 obtain ⟨vc, va, h2⟩ := cliP_E h1
 rcases (h2.pull 1).tForm with ⟨rfl, hp⟩ | ⟨g, off, cap', rfl⟩
 · rw [hp] at hlt; simp at hlt
 obtain ⟨n, hn⟩ : ∃ n, C.calls.length = n := ⟨_, rfl⟩
 obtain ⟨s0, s2, s3, s4, x0, x1, x2, x3, x4⟩ := cliS h2 HX.out
 rw [hn] at s3 hlt
 have h0 : (0 : Int) ≤ (C.at' : Int) := by omega
 have hlt2 : (C.at' : Int) < (n : Int) := by omega
 clear hn x1 x2 x3 x4 HX s2 h1
 obtain ⟨kd, hkd2⟩ : ∃ kd, x.kind = kd := ⟨_, rfl⟩
 rw [hkd2] at hkd x0
 go_upto_region 1 with (fail)
 go_quiet (fail)
 have h3 := h2.drewN nq
 have k3 := k1.drewN nq
 generalize w1.drewN nq = w2 at h3 k3 ⊢
 have hep := desk_epoch (h3.pull 4) hD0 hD1
 have c0 := (h3).cell 0
 simp [cliC] at c0
 clear h2 k1 s0 s3 s4 x0 h3
 rcases hkd with rfl | rfl
 all_goals
   go_wp2_with fail
   refine hep.mono ?_
   rintro e w3 ⟨rfl, h4, k4⟩
   have h5 := h4.push 4
   have e6 := (h5).cell 6
   have e8 := (h5).cell 8
   have ef6 := (h5).free 6
   have ef8 := (h5).free 8
   simp [cliC] at e6 e8
   have hcl := h5.lt
   have h6 := (h5.set 8 (.int .i64 D.epoch)).set 6 (.func (.func 96) #[.pointer (some ⟨c, 0, none⟩)] #[])
   have k6 := ((k3.trans k4).setCell ⟨c, 8, none⟩ (.int .i64 D.epoch)).setCell ⟨c, 6, none⟩ (.func (.func 96) #[.pointer (some ⟨c, 0, none⟩)] #[])
   clear hep h4
   go_wp2_with fail
   go_end0
   exact ⟨rfl, cliP_I (C := { C with epoch := D.epoch, next := .pin }) h6, k6⟩
/-! ### a reply is taken; a read's pin, and what it loads -/
theorem cli02 {w : World} {l : List HProp} {c d s : Nat} {note : Value} {C : CliD} {vc va : Value} (hs : Sat w (own c (.cells (cliC c d s note C vc va) 135 (0, 0)) :: l)) : w.cell? ⟨c, 0, none⟩ = some (.pointer (some ⟨d, 0, none⟩)) ∧ w.cell? ⟨c, 2, none⟩ = some (.int .i64 C.i) := ⟨hs.cell 0, hs.cell 2⟩
theorem cli08 {w : World} {l : List HProp} {c d s : Nat} {note : Value} {C : CliD} {vc va : Value} (hs : Sat w (own c (.cells (cliC c d s note C vc va) 135 (0, 0)) :: l)) : w.cell? ⟨c, 0, none⟩ = some (.pointer (some ⟨d, 0, none⟩)) ∧ w.cell? ⟨c, 2, none⟩ = some (.int .i64 C.i) ∧ w.cell? ⟨c, 8, none⟩ = some (.int .i64 C.epoch) := ⟨hs.cell 0, hs.cell 2, hs.cell 8⟩
theorem takeA {w : World} {l : List HProp} {c d s : Nat} {note : Value} {C : CliD} {vc va : Value} {a : RepD} {A N : HProp} (h : Sat w (A :: own c (.cells (cliC c d s note C vc va) 135 (0, 0)) :: rowT fCa vc 24 5 C.calls :: rowT fAn va 28 5 C.answers :: N :: l)) :
   Sat (w.alloc (.cells #[.int .i64 a.e, .int .i64 a.version, .int .i64 a.node, .slice a.kao a.kn a.kc, .slice a.dao a.dn a.dc] 28)) (own w.heap.size (.cells #[.int .i64 a.e, .int .i64 a.version, .int .i64 a.node, .slice a.kao a.kn a.kc, .slice a.dao a.dn a.dc] 28 (0, 0)) :: A :: cliP c d s note C :: N :: l) := (cliP_I (h.push 3)).swap.alloc _
theorem takeB {w : World} {l : List HProp} {c d s B : Nat} {note : Value} {C : CliD} {vc va : Value} {a : RepD} {A N : HProp} (h : Sat w (A :: own B (.cells #[.int .i64 0, .int .i64 0, .int .i64 0, .slice none 0 0, .slice none 0 0] 28 (0, 0)) :: own c (.cells (cliC c d s note C vc va) 135 (0, 0)) :: rowT fCa vc 24 5 C.calls :: rowT fAn va 28 5 C.answers :: N :: l)) :
   Sat (((((w.setCell ⟨B, 0, none⟩ (.int .i64 a.e)).setCell ⟨B, 1, none⟩ (.int .i64 a.version)).setCell ⟨B, 2, none⟩ (.int .i64 a.node)).setCell ⟨B, 3, none⟩ (.slice a.kao a.kn a.kc)).setCell ⟨B, 4, none⟩ (.slice a.dao a.dn a.dc)) (own B (.cells #[.int .i64 a.e, .int .i64 a.version, .int .i64 a.node, .slice a.kao a.kn a.kc, .slice a.dao a.dn a.dc] 28 (0, 0)) :: A :: cliP c d s note C :: N :: l) := by
 have g := (((((h.pull 1).set 0 (.int .i64 a.e)).set 1 (.int .i64 a.version)).set 2 (.int .i64 a.node)).set 3 (.slice a.kao a.kn a.kc)).set 4 (.slice a.dao a.dn a.dc)
 exact (cliP_I ((g.push 4).push 3)).swap.pull 2
theorem cli_take {σ : Type} {k : FuncId} {cap : Array Value} {N : σ → HProp} {st : σ → EvD → σ} {ok : σ → Prop} (hN : NoteOk k cap N st ok) {y : σ} {w : World} {l : List HProp} {c d s : Nat} {C : CliD} {D : DeskD} {a : RepD}
   (hy : ok y) (hat : C.at' < 1000000) (hal : C.answers.length ≤ 1000000) (hr : D.reps[C.i]? = some a) (hl : a.lies = true) (hD0 : 0 ≤ D.acc) (hD1 : D.acc < 1000000000)
   (hs : Sat w (cliP c d s (.func (.func k) #[] cap) C :: N y :: deskP d D :: l)) :
   Calls Tryz.prog 122 #[.pointer (some ⟨c, 0, none⟩)] w fun e w' => e = .returned (.tuple #[]) ∧ Sat w' (cliP c d s (.func (.func k) #[] cap) { C with waits := false, answers := C.answers ++ [a], at' := C.at' + 1, next := .begin } :: N (st y ⟨9, C.i, C.at', a.version⟩) :: deskP d { tick D with reps := D.reps.set C.i zeroR } :: l) ∧ Kp w w' := by
 obtain ⟨vc, va, h1⟩ := cliP_E hs
 have S0 := cli02 h1
 have hre := fun (W : World) (l' : List HProp) (hW : Sat W (deskP d D :: l')) => desk_reply hW hD0 hD1 hr hl
 unfold aggA at hre
 have hp1 := hre _ _ (h1.pull 4).drew
 have hp2 := hre _ _ (((h1.pull 4).alloc (.cells #[.int .i64 0, .int .i64 0, .int .i64 0, .slice none 0 0, .slice none 0 0] 28)).swap.drew)
 have HS0 := Lib.hid S0
 obtain ⟨s0, s2⟩ := S0
 have hcl := h1.lt
 clear hre
 go_enter Tryz.func122, Tryz.ntmps122
 go_wp2_with fail
 go_cut [2, 3] from 4 to 16 (fun bv ov wx => ∃ B : Nat, bv = .pointer (some ⟨B, 0, none⟩) ∧ Sat wx (own B (.cells #[.int .i64 a.e, .int .i64 a.version, .int .i64 a.node, .slice a.kao a.kn a.kc, .slice a.dao a.dn a.dc] 28 (0, 0)) :: deskP d { tick D with reps := D.reps.set C.i zeroR } :: cliP c d s (.func (.func k) #[] cap) C :: N y :: l) ∧ Kp w wx)
 case first =>
   go_region_held3 (fun w' => w'.cell? ⟨c, 0, none⟩ = some (.pointer (some ⟨d, 0, none⟩)) ∧ w'.cell? ⟨c, 2, none⟩ = some (.int .i64 C.i)) (first | with_reducible exact HS0.out | with_reducible exact cli02 h9.tail | with_reducible exact cli02 h9.tail.tail | with_reducible exact cli02 (h9.alloc _).tail.tail | with_reducible exact cli02 ((((((h9.pull 1).set 0 _).set 1 _).set 2 _).set 3 _).set 4 _).tail.tail | go_keep)
     ((first | (go_at_call 148; (with_reducible refine hp1.mono ?_); rintro x w7 ⟨rfl, h9, k9⟩) | (go_at_call 148; (with_reducible refine hp2.mono ?_); rintro x w7 ⟨rfl, h9, k9⟩; have q0 := (h9.pull 1).cell 0; have q1 := (h9.pull 1).cell 1; have q2 := (h9.pull 1).cell 2; have q3 := (h9.pull 1).cell 3; have q4 := (h9.pull 1).cell 4; have qf0 := (h9.pull 1).free 0; have qf1 := (h9.pull 1).free 1; have qf2 := (h9.pull 1).free 2; have qf3 := (h9.pull 1).free 3; have qf4 := (h9.pull 1).free 4; simp at q0 q1 q2 q3 q4)))
   all_goals
     go_wp2_with fail
     go_meet
     case rel =>
       first
       | with_reducible exact ⟨_, rfl, takeA h9, ((Kp.refl w).drew.trans k9).alloc _⟩
       | with_reducible exact ⟨_, rfl, takeB h9, ((((((((Kp.refl w).alloc _).drew.trans k9).setCell _ _).setCell _ _).setCell _ _).setCell _ _).setCell _ _)⟩
 case rest =>
   obtain ⟨B, rfl, h2, k2⟩ := hcut
   clear hp1 hp2 HS0 s0 s2 hcl h1 hs
   have h2 := h2.pull 2
   obtain ⟨vc, va, h3⟩ := cliP_E h2
   have c7 := (h3).cell 7
   have cf7 := (h3).free 7
   simp [cliC] at c7
   have hcl := h3.lt
   have h4 := h3.set 7 (.bool false)
   have h5 := cliP_I (C := { C with waits := false }) h4
   have k5 := k2.setCell ⟨c, 7, none⟩ (.bool false)
   clear h2 k2 h4
   go_upto_region 2 with (fail)
   generalize World.setCell _ _ _ = w5 at h5 k5 ⊢
   have hen := cli_end (a := a) (C := { C with waits := false }) hN hy (by show C.at' < 1000000000; omega) hal (h5.pull 3 |>.pull 1)
   have b0 := (h5.pull 1).cell 0
   have b1 := (h5.pull 1).cell 1
   have b2 := (h5.pull 1).cell 2
   have b3 := (h5.pull 1).cell 3
   have b4 := (h5.pull 1).cell 4
   simp at b0 b1 b2 b3 b4
   unfold aggA at hen
   clear h5 h3 c7 cf7 hcl
   go_wp2_with fail
   refine hen.mono ?_
   rintro e w6 ⟨rfl, h6, k6⟩
   go_wp2_with fail
   go_end0
   exact ⟨rfl, (h6.pull 2).tail, k5.trans k6⟩
theorem cli_pin {w : World} {l : List HProp} {c d s : Nat} {note : Value} {C : CliD} {D : DeskD} (hi : C.i < D.pins.length) (hD0 : 0 ≤ D.acc) (hD1 : D.acc < 1000000000) (he0 : -1000000000 ≤ C.epoch) (he1 : C.epoch ≤ 1000000000)
   (hs : Sat w (cliP c d s note C :: deskP d D :: l)) :
   Calls Tryz.prog 96 #[.pointer (some ⟨c, 0, none⟩)] w fun e w' => e = .returned (.tuple #[]) ∧ Sat w' (cliP c d s note { C with next := .load } :: deskP d { tick D with pins := D.pins.set C.i (C.epoch + 1) } :: l) ∧ Kp w w' := by
 obtain ⟨vc, va, h1⟩ := cliP_E hs
 have S0 := cli08 h1
 have HS0 := Lib.hid S0
 obtain ⟨s0, s2, s8⟩ := S0
 have hmf : ∀ (fn : Fn) (first cap : Array Value) (w : World), (Instr.makeFunc fn first cap).run Tryz.prog w = .ok (.func fn first cap) w := fun _ _ _ _ => rfl
 have hep1 : IntKind.i64.wrap (C.epoch + 1) = C.epoch + 1 := by rw [IntWalk.i64_in _ (by omega)]
 have hp1 := desk_setPin (n := C.epoch + 1) (h1.pull 3).drew hD0 hD1 hi
 clear hs h1
 go_enter Tryz.func96, Tryz.ntmps96
 go_wp2_with fail
 go_region_held3 (fun w' => w'.cell? ⟨c, 0, none⟩ = some (.pointer (some ⟨d, 0, none⟩)) ∧ w'.cell? ⟨c, 2, none⟩ = some (.int .i64 C.i) ∧ w'.cell? ⟨c, 8, none⟩ = some (.int .i64 C.epoch)) (first | with_reducible exact HS0.out | with_reducible exact cli08 h2.tail | go_keep)
     ((go_at_call 53; (with_reducible refine hp1.mono ?_); rintro x w2 ⟨rfl, h2, k2⟩))
 have h3 := h2.push 3
 have k3 := (Kp.refl w).drew.trans k2
 have e6 := (h3).cell 6
 have ef6 := (h3).free 6
 simp [cliC] at e6
 have hcl := h3.lt
 have h4 := h3.set 6 (.func (.func 121) #[.pointer (some ⟨c, 0, none⟩)] #[])
 have k4 := k3.setCell ⟨c, 6, none⟩ (.func (.func 121) #[.pointer (some ⟨c, 0, none⟩)] #[])
 go_wp2_with fail
 go_end0
 exact ⟨rfl, cliP_I (C := { C with next := .load }) h4, k4⟩
end Go.Proofs.YtddglbjhhnipgaaGreatDoor

import Derived.Test.YtddglbjhhnipgaaGreatDoorHK
import Derived.LoopN
namespace Go.Proofs.YtddglbjhhnipgaaGreatDoor
open Go Go.RowKit
set_option linter.unusedVariables false
set_option linter.unusedSimpArgs false
set_option maxRecDepth 100000
set_option maxHeartbeats 8000000
/-! ### steps, one by one -/
section
variable {σ : Type} {k : FuncId} {cap : Array Value} {N : σ → HProp} {st : σ → EvD → σ} {ok : σ → Prop}
theorem rdy_of {C : CliD} {r : RepD} {x : CallD} (hx : C.calls[C.at']? = some x) (hw : C.waits = false) : (decide (C.at' < C.calls.length) && (!C.waits || r.lies)) = true := by
 have := (List.getElem?_eq_some_iff.1 hx).1
 simp [hw, this]
theorem step_of {w : World} {l : List HProp} {c d s : Nat} {note : Value} {C : CliD} {D : DeskD} {r : RepD} {k : FuncId} {fn : Func} {M : HProp} {R : World → Prop} (hs : Sat w (cliP c d s note C :: M :: deskP d D :: l)) (hr : D.reps[C.i]? = some r) (hat : C.at' ≤ 1000000)
   (hrd : (decide (C.at' < C.calls.length) && (!C.waits || r.lies)) = true) (hk : cxV c C.next = .func (.func k) #[.pointer (some ⟨c, 0, none⟩)] #[]) (hf : Tryz.prog.funcs[k]? = some fn) (hname : (fn.name == "runtime.NumGoroutine") = false) (hb : fn.body.isSome = true)
   (hq : ∀ w1, Sat w1 (cliP c d s note C :: M :: deskP d D :: l) → Calls Tryz.prog k #[.pointer (some ⟨c, 0, none⟩)] w1 fun e w' => e = .returned (.tuple #[]) ∧ R w' ∧ Kp w1 w') :
   Calls Tryz.prog 21 #[.pointer (some ⟨c, 0, none⟩)] w fun e w' => e = .returned (.tuple #[]) ∧ R w' ∧ Kp w w' :=
 cli_step (R := fun w' => R w' ∧ Kp w w') ((hs.pull 2).swap) hr hat hrd hk (enters_ofC hf hname hb) fun w1 h1 k1 => (hq w1 ((h1.pull 2).swap)).mono fun e w' ⟨a, b, c⟩ => ⟨a, b, k1.trans c⟩
theorem step_begin_read (hN : NoteOk k cap N st ok) {y : σ} {w : World} {l : List HProp} {c d s : Nat} {C : CliD} {x : CallD} {D : DeskD} {r : RepD}
   (hy : ok y) (hat : C.at' < 1000000) (hx : C.calls[C.at']? = some x) (hkd : x.kind = 3 ∨ x.kind = 4) (hD0 : 0 ≤ D.acc) (hD1 : D.acc < 1000000000) (hr : D.reps[C.i]? = some r) (hw : C.waits = false) (hn : C.next = .begin)
   (hs : Sat w (cliP c d s (.func (.func k) #[] cap) C :: N y :: deskP d D :: l)) :
   Calls Tryz.prog 21 #[.pointer (some ⟨c, 0, none⟩)] w fun e w' => e = .returned (.tuple #[]) ∧ Sat w' (cliP c d s (.func (.func k) #[] cap) { C with epoch := D.epoch, next := .pin } :: N (st y ⟨0, C.i, C.at', 0⟩) :: deskP d (tick D) :: l) ∧ Kp w w' :=
 step_of hs hr (by omega) (rdy_of hx hw) (by rw [hn]; rfl) Tryz.func66 (by kernel_rfl) (by kernel_rfl) fun w1 h1 => cli_begin_read hN hy hat hx hkd hD0 hD1 h1
theorem step_begin_bad (hN : NoteOk k cap N st ok) {y : σ} {w : World} {l : List HProp} {c d s : Nat} {C : CliD} {x : CallD} {D : DeskD} {r : RepD}
   (hy : ok y) (hy1 : ok (st y ⟨0, C.i, C.at', 0⟩)) (hat : C.at' < 1000000) (hal : C.answers.length ≤ 1000000) (hx : C.calls[C.at']? = some x) (hkd : x.kind < 0 ∨ 7 < x.kind) (hr : D.reps[C.i]? = some r) (hw : C.waits = false) (hn : C.next = .begin)
   (hs : Sat w (cliP c d s (.func (.func k) #[] cap) C :: N y :: deskP d D :: l)) :
   Calls Tryz.prog 21 #[.pointer (some ⟨c, 0, none⟩)] w fun e w' => e = .returned (.tuple #[]) ∧ Sat w' (cliP c d s (.func (.func k) #[] cap) { C with answers := C.answers ++ [⟨1, 0, 0, none, 0, 0, none, 0, 0, false⟩], at' := C.at' + 1, next := .begin } :: N (st (st y ⟨0, C.i, C.at', 0⟩) ⟨9, C.i, C.at', 0⟩) :: deskP d D :: l) ∧ Kp w w' :=
 step_of hs hr (by omega) (rdy_of hx hw) (by rw [hn]; rfl) Tryz.func66 (by kernel_rfl) (by kernel_rfl) fun w1 h1 => cli_begin_bad hN hy hy1 hat hal hx hkd h1
theorem step_begin_send (hN : NoteOk k cap N st ok) {y : σ} {w : World} {l : List HProp} {c d s : Nat} {C : CliD} {x : CallD} {D D' : DeskD} {r : RepD} {q : Int}
   (hy : ok y) (hy1 : ok (st y ⟨0, C.i, C.at', 0⟩)) (hy2 : ok (st (st y ⟨0, C.i, C.at', 0⟩) ⟨2, C.i, C.at', 0⟩)) (hat : C.at' < 1000000) (hal : C.answers.length ≤ 1000000) (hx : C.calls[C.at']? = some x)
   (hkd : x.kind = 0 ∨ x.kind = 1 ∨ x.kind = 2 ∨ x.kind = 5 ∨ x.kind = 6 ∨ x.kind = 7) (hr : D.reps[C.i]? = some r) (hw : C.waits = false) (hn : C.next = .begin)
   (hs : Sat w (cliP c d s (.func (.func k) #[] cap) C :: N y :: deskP d D :: l))
   (hsend : ∀ (w : World) (l : List HProp), Sat w (deskP d D :: l) → Calls Tryz.prog 52 #[.pointer (some ⟨d, 0, none⟩), aggM (msgOf C x)] w fun e w' => e = .returned (.int .i64 q) ∧ Sat w' (deskP d D' :: l) ∧ Kp w w') :
   Calls Tryz.prog 21 #[.pointer (some ⟨c, 0, none⟩)] w fun e w' => e = .returned (.tuple #[]) ∧ SendQ k cap N st (st y ⟨0, C.i, C.at', 0⟩) c d s C D' q l w' ∧ Kp w w' :=
 step_of hs hr (by omega) (rdy_of hx hw) (by rw [hn]; rfl) Tryz.func66 (by kernel_rfl) (by kernel_rfl) fun w1 h1 => cli_begin_send hN hy hy1 hy2 hat hal hx hkd h1 hsend
theorem step_pin {M : HProp} {w : World} {l : List HProp} {c d s : Nat} {note : Value} {C : CliD} {D : DeskD} {x : CallD} {r : RepD} (hat : C.at' < 1000000) (hi : C.i < D.pins.length) (hD0 : 0 ≤ D.acc) (hD1 : D.acc < 1000000000) (he0 : -1000000000 ≤ C.epoch) (he1 : C.epoch ≤ 1000000000) (hx : C.calls[C.at']? = some x) (hr : D.reps[C.i]? = some r) (hw : C.waits = false) (hn : C.next = .pin)
   (hs : Sat w (cliP c d s note C :: M :: deskP d D :: l)) :
   Calls Tryz.prog 21 #[.pointer (some ⟨c, 0, none⟩)] w fun e w' => e = .returned (.tuple #[]) ∧ Sat w' (cliP c d s note { C with next := .load } :: M :: deskP d { tick D with pins := D.pins.set C.i (C.epoch + 1) } :: l) ∧ Kp w w' :=
 step_of hs hr (by omega) (rdy_of hx hw) (by rw [hn]; rfl) Tryz.func96 (by kernel_rfl) (by kernel_rfl) fun w1 h1 => (cli_pin hi hD0 hD1 he0 he1 ((h1.pull 2).swap)).mono fun e w' ⟨a, b, c⟩ => ⟨a, (b.pull 2).swap, c⟩
theorem step_load (hN : NoteOk k cap N st ok) {y : σ} {w : World} {l : List HProp} {c d s : Nat} {C : CliD} {D : DeskD} {x : CallD} {Z : HProp} {F : FindD} {r : RepD}
   (hy : ok y) (hat : C.at' < 1000000) (hx : C.calls[C.at']? = some x) (hD0 : 0 ≤ D.acc) (hD1 : D.acc < 1000000000) (hr : D.reps[C.i]? = some r) (hw : C.waits = false) (hn : C.next = .load)
   (hs : Sat w (cliP c d s (.func (.func k) #[] cap) C :: N y :: deskP d D :: Z :: l))
   (hnew : ∀ (W : World) (l' : List HProp), Sat W (Z :: l') → Calls Tryz.prog 33 #[.bool (x.kind == 4), .string x.text, aggV (verOf D)] W fun e w' => ∃ f, e = .returned (.pointer (some ⟨f, 0, none⟩)) ∧ Sat w' (findP f F :: Z :: l') ∧ Kp W w') :
   Calls Tryz.prog 21 #[.pointer (some ⟨c, 0, none⟩)] w fun e w' => e = .returned (.tuple #[]) ∧ (∃ f, Sat w' (cliP c d s (.func (.func k) #[] cap) { C with v := verOf D, reads := true, find := some ⟨f, 0, none⟩, next := .node } :: N (st y ⟨8, C.i, C.at', D.n⟩) :: deskP d (tick D) :: findP f F :: Z :: l)) ∧ Kp w w' :=
 step_of (l := Z :: l) hs hr (by omega) (rdy_of hx hw) (by rw [hn]; rfl) Tryz.func121 (by kernel_rfl) (by kernel_rfl) fun w1 h1 => (cli_load hN hy hat hx hD0 hD1 h1 hnew).mono fun e w' ⟨a, f, b, c⟩ => ⟨a, ⟨f, b⟩, c⟩
theorem step_node_last (hN : NoteOk k cap N st ok) {y : σ} {w : World} {l : List HProp} {c d s f : Nat} {C : CliD} {D : DeskD} {F : FindD} {x : CallD} {r : RepD}
   (hy : ok y) (hat : C.at' < 1000000) (hal : C.answers.length ≤ 1000000) (hfd : C.find = some ⟨f, 0, none⟩) (hn : F.next = .no) (hk : F.kids.length ≤ 1000000) (hi : C.i < D.pins.length) (hD0 : 0 ≤ D.acc) (hD1 : D.acc < 1000000000) (hx : C.calls[C.at']? = some x) (hr : D.reps[C.i]? = some r) (hw : C.waits = false) (hn' : C.next = .node)
   (hs : Sat w (cliP c d s (.func (.func k) #[] cap) C :: N y :: deskP d D :: findP f F :: l)) :
   Calls Tryz.prog 21 #[.pointer (some ⟨c, 0, none⟩)] w fun e w' => e = .returned (.tuple #[]) ∧ (∃ ao m cp, Sat w' (cliP c d s (.func (.func k) #[] cap) { C with v := ⟨0, 0, 0, 0, 0⟩, reads := false, answers := C.answers ++ [⟨F.e, F.ver, F.node, ao, m, cp, none, 0, 0, false⟩], at' := C.at' + 1, next := .begin } :: N (st y ⟨9, C.i, C.at', F.ver⟩) :: deskP d { tick D with pins := D.pins.set C.i 0 } :: rowT fK (.slice ao m cp) 73 3 F.kids :: findP f F :: l)) ∧ Kp w w' :=
 step_of (l := findP f F :: l) hs hr (by omega) (rdy_of hx hw) (by rw [hn']; rfl) Tryz.func147 (by kernel_rfl) (by kernel_rfl) fun w1 h1 => (cli_node_last hN hy hat hal hfd hn hk hi hD0 hD1 h1).mono fun e w' ⟨a, ao, m, cp, b, c⟩ => ⟨a, ⟨ao, m, cp, b⟩, c⟩
theorem step_take (hN : NoteOk k cap N st ok) {y : σ} {w : World} {l : List HProp} {c d s : Nat} {C : CliD} {D : DeskD} {a : RepD} {x : CallD}
   (hy : ok y) (hat : C.at' < 1000000) (hal : C.answers.length ≤ 1000000) (hr : D.reps[C.i]? = some a) (hl : a.lies = true) (hD0 : 0 ≤ D.acc) (hD1 : D.acc < 1000000000) (hx : C.calls[C.at']? = some x) (hn : C.next = .take)
   (hs : Sat w (cliP c d s (.func (.func k) #[] cap) C :: N y :: deskP d D :: l)) :
   Calls Tryz.prog 21 #[.pointer (some ⟨c, 0, none⟩)] w fun e w' => e = .returned (.tuple #[]) ∧ Sat w' (cliP c d s (.func (.func k) #[] cap) { C with waits := false, answers := C.answers ++ [a], at' := C.at' + 1, next := .begin } :: N (st y ⟨9, C.i, C.at', a.version⟩) :: deskP d { tick D with reps := D.reps.set C.i zeroR } :: l) ∧ Kp w w' :=
 step_of hs hr (by omega) (by have := (List.getElem?_eq_some_iff.1 hx).1; simp [hl, this]) (by rw [hn]; rfl) Tryz.func122 (by kernel_rfl) (by kernel_rfl) fun w1 h1 => cli_take hN hy hat hal hr hl hD0 hD1 h1
end
/-- A slice of events as they are written down. -/
theorem rowEv3 {w : World} {l : List HProp} (a b c : EvD) (hs : Sat w l) :
   Sat (w.alloc (.cells #[.int .i64 a.what, .int .i64 a.client, .int .i64 a.call, .int .i64 a.version, .int .i64 b.what, .int .i64 b.client, .int .i64 b.call, .int .i64 b.version, .int .i64 c.what, .int .i64 c.client, .int .i64 c.call, .int .i64 c.version] 41))
     (rowT fEv (.slice (some ⟨w.heap.size, 0, none⟩) 3 3) 41 4 [a, b, c] :: l) := by
 have h := (hs.alloc (.cells #[.int .i64 a.what, .int .i64 a.client, .int .i64 a.call, .int .i64 a.version, .int .i64 b.what, .int .i64 b.client, .int .i64 b.call, .int .i64 b.version, .int .i64 c.what, .int .i64 c.client, .int .i64 c.call, .int .i64 c.version] 41)).rowI (off := 0) (size := 4) (n := 3) (cap := 3) (by omega) (by unfold maxLen; omega) (by simp)
 exact h.tOf [a, b, c] rfl rfl
theorem rowEv2 {w : World} {l : List HProp} (a b : EvD) (hs : Sat w l) :
   Sat (w.alloc (.cells #[.int .i64 a.what, .int .i64 a.client, .int .i64 a.call, .int .i64 a.version, .int .i64 b.what, .int .i64 b.client, .int .i64 b.call, .int .i64 b.version] 41))
     (rowT fEv (.slice (some ⟨w.heap.size, 0, none⟩) 2 2) 41 4 [a, b] :: l) := by
 have h := (hs.alloc (.cells #[.int .i64 a.what, .int .i64 a.client, .int .i64 a.call, .int .i64 a.version, .int .i64 b.what, .int .i64 b.client, .int .i64 b.call, .int .i64 b.version] 41)).rowI (off := 0) (size := 4) (n := 2) (cap := 2) (by omega) (by unfold maxLen; omega) (by simp)
 exact h.tOf [a, b] rfl rfl
theorem rowCa1 {w : World} {l : List HProp} (a : CallD) (hs : Sat w l) :
   Sat (w.alloc (.cells #[.int .i64 a.kind, .int .i64 a.node, .int .i64 a.up, .string a.text, .slice a.dao a.dn a.dc] 24)) (rowT fCa (.slice (some ⟨w.heap.size, 0, none⟩) 1 1) 24 5 [a] :: l) := by
 have h := (hs.alloc (.cells #[.int .i64 a.kind, .int .i64 a.node, .int .i64 a.up, .string a.text, .slice a.dao a.dn a.dc] 24)).rowI (off := 0) (size := 5) (n := 1) (cap := 1) (by omega) (by unfold maxLen; omega) (by simp)
 exact h.tOf [a] rfl rfl
theorem rowCa2 {w : World} {l : List HProp} (a b : CallD) (hs : Sat w l) :
   Sat (w.alloc (.cells #[.int .i64 a.kind, .int .i64 a.node, .int .i64 a.up, .string a.text, .slice a.dao a.dn a.dc, .int .i64 b.kind, .int .i64 b.node, .int .i64 b.up, .string b.text, .slice b.dao b.dn b.dc] 24)) (rowT fCa (.slice (some ⟨w.heap.size, 0, none⟩) 2 2) 24 5 [a, b] :: l) := by
 have h := (hs.alloc (.cells #[.int .i64 a.kind, .int .i64 a.node, .int .i64 a.up, .string a.text, .slice a.dao a.dn a.dc, .int .i64 b.kind, .int .i64 b.node, .int .i64 b.up, .string b.text, .slice b.dao b.dn b.dc] 24)).rowI (off := 0) (size := 5) (n := 2) (cap := 2) (by omega) (by unfold maxLen; omega) (by simp)
 exact h.tOf [a, b] rfl rfl
theorem cli_rdy (b : Bool) {M : HProp} {w : World} {l : List HProp} {c d s : Nat} {note : Value} {C : CliD} {D : DeskD} {r : RepD} (hb : (decide (C.at' < C.calls.length) && (!C.waits || r.lies)) = b) (hs : Sat w (cliP c d s note C :: M :: deskP d D :: l)) (hr : D.reps[C.i]? = some r) (hat : C.at' ≤ 1000000) :
   Calls Tryz.prog 26 #[.pointer (some ⟨c, 0, none⟩)] w fun e w' => e = .returned (.bool b) ∧ Sat w' (cliP c d s note C :: M :: deskP d D :: l) ∧ Kp w w' := by
 subst hb
 exact (cli_ready ((hs.pull 2).swap) hr hat).mono fun e w' ⟨h1, h2, h3⟩ => ⟨h1, (h2.pull 2).swap, h3⟩
def callA : CallD := ⟨3, 0, 0, ⟨#[47]⟩, none, 0, 0⟩
theorem client_awake {w : World} {l : List HProp} (hs : Sat w l) :
   Calls Tryz.prog 13 #[] w fun e w' => e = .returned (.bool true) ∧ Sat w' l ∧ Kp w w' := by
 have hB := (hs.tNil fEv 41 4).alloc (.cells #[.slice none 0 0] 37)
 have kB := (Kp.refl w).alloc (.cells #[.slice none 0 0] 37)
 go_enter Tryz.func13, Tryz.ntmps13
 go_upto_region 2 with (fail)
 generalize World.alloc _ _ = w1 at hB kB ⊢
 generalize w.heap.size = lb at hB ⊢
 have h1 := logP_I hB
 clear hB hs
 go_wp2_with fail
 refine (desk_new 1 1 w1 _ h1 (by omega) (by omega) (by omega)).mono ?_
 rintro e w2 ⟨d, rfl, h2, k2⟩
 have k2 := kB.trans k2
 clear kB h1
 go_wp2_with fail
 refine (view_new (most := 10) h2 (by omega) (by omega)).mono ?_
 rintro e w3 ⟨s, rfl, h3, k3⟩
 have k3 := k2.trans k3
 clear k2 h2
 have h4 := rowCa1 callA h3
 have k4 := k3.alloc (.cells #[.int .i64 callA.kind, .int .i64 callA.node, .int .i64 callA.up, .string callA.text, .slice callA.dao callA.dn callA.dc] 24)
 have hmf : ∀ (fn : Fn) (first cap : Array Value) (w : World), (Instr.makeFunc fn first cap).run Tryz.prog w = .ok (.func fn first cap) w := fun _ _ _ _ => rfl
 go_wp2_with fail
 refine (cli_new (d := d) (s := s) (i := 0) (k := 58) (cap := #[.pointer (some ⟨lb, 0, none⟩)]) h4 (by simp)).mono ?_
 rintro e w5 ⟨c, rfl, h5, k5⟩
 have k5 := k4.trans k5
 clear k4 h4 k3 h3
 have h6 := ((((h5.pull 1).tail.pull 3).swap).pull 3).push 2
 clear h5
 have HN := Lib.hid (note_awake lb)
 go_wp2_with fail
 refine wp_loop_rounds 6 ?_
 rw [rounds_succ]
 go_wp2_with fail
 refine (cli_rdy (r := zeroR) true (by rfl) h6 (by rfl) (by decide : (0 : Nat) ≤ 1000000)).mono ?_
 rintro e wa0 ⟨rfl, ha0, ka0⟩
 have kb0 := k5.trans ka0
 clear h6 k5 ka0
 go_wp2_with fail
 refine (step_begin_read HN.out (x := callA) (r := zeroR) (by decide) (by decide) (by rfl) (.inl rfl) (by decide) (by decide) (by rfl) rfl rfl ha0).mono ?_
 rintro e wb0 ⟨rfl, hb0, kc0⟩
 have kd0 := kb0.trans kc0
 clear kb0 ha0 kc0
 go_wp2_with fail
 rw [rounds_succ]
 go_wp2_with fail
 refine (cli_rdy (r := zeroR) true (by rfl) hb0 (by rfl) (by decide : (0 : Nat) ≤ 1000000)).mono ?_
 rintro e wa1 ⟨rfl, ha1, ka1⟩
 have kb1 := kd0.trans ka1
 clear hb0 kd0 ka1
 go_wp2_with fail
 refine (step_pin (x := callA) (r := zeroR) (by decide) (by decide) (by decide) (by decide) (by decide) (by decide) (by rfl) (by rfl) rfl rfl ha1).mono ?_
 rintro e wb1 ⟨rfl, hb1, kc1⟩
 have kd1 := kb1.trans kc1
 clear kb1 ha1 kc1
 go_wp2_with fail
 rw [rounds_succ]
 go_wp2_with fail
 refine (cli_rdy (r := zeroR) true (by rfl) hb1 (by rfl) (by decide : (0 : Nat) ≤ 1000000)).mono ?_
 rintro e wa2 ⟨rfl, ha2, ka2⟩
 have kb2 := kd1.trans ka2
 clear hb1 kd1 ka2
 go_wp2_with fail
 refine (step_load HN.out (x := callA) (r := zeroR) (by show (_ : Nat) ≤ _; decide) (by decide) (by rfl) (by decide) (by decide) (by rfl) rfl rfl ha2 (fun W l' hW => find_new_root hW)).mono ?_
 rintro e wb2 ⟨rfl, ⟨f, hb2⟩, kc2⟩
 have kd2 := kb2.trans kc2
 clear kb2 ha2 kc2
 go_wp2_with fail
 rw [rounds_succ]
 go_wp2_with fail
 refine (cli_rdy (r := zeroR) true (by rfl) hb2 (by rfl) (by decide : (0 : Nat) ≤ 1000000)).mono ?_
 rintro e wa3 ⟨rfl, ha3, ka3⟩
 have kb3 := kd2.trans ka3
 clear hb2 kd2 ka3
 go_wp2_with fail
 refine (step_node_last HN.out (x := callA) (r := zeroR) (by show (_ : Nat) ≤ _; decide) (by exact (by decide : (0 : Nat) < 1000000)) (by exact (by decide : (0 : Nat) ≤ 1000000)) rfl rfl (by exact (by decide : (0 : Nat) ≤ 1000000)) (by exact (by decide : (0 : Nat) < 1)) (by decide) (by decide) (by rfl) (by rfl) rfl rfl ha3).mono ?_
 rintro e wb3 ⟨rfl, ⟨ao, m, cp, hb3⟩, kc3⟩
 have kd3 := kb3.trans kc3
 clear kb3 ha3 kc3
 go_wp2_with fail
 rw [rounds_succ]
 go_wp2_with fail
 refine (cli_rdy (r := zeroR) false (by rfl) hb3 (by rfl) (by decide : (1 : Nat) ≤ 1000000)).mono ?_
 rintro e wa9 ⟨rfl, ha9, ka9⟩
 have kb9 := kd3.trans ka9
 clear hb3 kd3 ka9
 obtain ⟨v, hl⟩ := logP_E (ha9.pull 1)
 obtain ⟨lo, lc, rfl⟩ := (hl.pull 1).tLen
 have l0 := hl.cell 0
 simp at l0
 go_wp2_with fail
 have hl2 := hl.pull 1
 change Sat wa9 (rowT fEv (.slice lo _ lc) 41 4 [⟨0, 0, 0, 0⟩, ⟨8, 0, 0, 0⟩, ⟨9, 0, 0, 0⟩] :: _) at hl2
 have hv := (rowEv3 ⟨0, 0, 0, 0⟩ ⟨8, 0, 0, 0⟩ ⟨9, 0, 0, 0⟩ hl2).swap
 refine (events_same hv (by decide)).mono ?_
 rintro e we ⟨rfl, he, ke⟩
 clear hv hl2 hl l0 ha9
 go_wp2_with fail
 refine (cli_answers (he.pull 3) (by exact (by decide : (1 : Nat) ≤ 1000000))).mono ?_
 rintro e wf ⟨v, rfl, hf, kf⟩
 obtain ⟨ao', cap', rfl⟩ := hf.tLen
 clear he
 go_wp2_with fail
 go_ret
 exact ⟨rfl, hf.tail.tail.tail.tail.tail.tail.tail.tail.tail, ((kb9.alloc _).trans ke).trans kf⟩
theorem few_one {w : World} {l : List HProp} {g off cp : Nat} {x : CallD} {b : Bool} (hs : Sat w (rowT fCa (.slice (some ⟨g, off, none⟩) 1 cp) 24 5 [x] :: l)) (hb : (decide (x.text.size ≤ 450) && decide (x.dn ≤ 400)) = b) :
   Calls Tryz.prog 14 #[.slice (some ⟨g, off, none⟩) 1 cp] w fun e w' => e = .returned (.bool b) ∧ Sat w' (rowT fCa (.slice (some ⟨g, off, none⟩) 1 cp) 24 5 [x] :: l) ∧ Kp w w' := by
 subst hb
 have x3 := hs.tCell len_fCa 0 3 rfl rfl
 have x4 := hs.tCell len_fCa 0 4 rfl rfl
 simp only [Nat.zero_mul, Nat.add_zero] at x3 x4
 by_cases h1 : x.text.size ≤ 450
 · have h1' : (450 < (x.text.size : Int)) = False := by simp; omega
   by_cases h2 : x.dn ≤ 400
   · have h2' : (400 < (x.dn : Int)) = False := by simp; omega
     have h1'' : ¬ (450 : Int) < (x.text.size : Int) := by omega
     have h2'' : ¬ (400 : Int) < (x.dn : Int) := by omega
     go_enter Tryz.func14, Tryz.ntmps14
     go_wp2_with fail
     refine wp_loop_rounds 3 ?_
     rw [rounds_succ]
     go_wp2_with fail
     rw [rounds_succ]
     go_wp2_with fail
     go_ret
     exact ⟨by simp [h1, h2], hs, Kp.refl w⟩
   · have h1'' : ¬ (450 : Int) < (x.text.size : Int) := by omega
     have h2'' : (400 : Int) < (x.dn : Int) := by omega
     go_enter Tryz.func14, Tryz.ntmps14
     go_wp2_with fail
     refine wp_loop_rounds 3 ?_
     rw [rounds_succ]
     go_wp2_with fail
     go_ret
     exact ⟨by simp [h1, h2], hs, Kp.refl w⟩
 · have h1'' : (450 : Int) < (x.text.size : Int) := by omega
   go_enter Tryz.func14, Tryz.ntmps14
   go_wp2_with fail
   refine wp_loop_rounds 3 ?_
   rw [rounds_succ]
   go_wp2_with fail
   go_ret
   exact ⟨by simp [h1], hs, Kp.refl w⟩
theorem reads_no {w : World} {kd : Int} (h3 : kd ≠ 3) (h4 : kd ≠ 4) : Calls Tryz.prog 15 #[.int .i64 kd] w fun e w' => e = .returned (.bool false) ∧ w = w' := by
 have e3 : (kd == 3) = false := by rw [beq_eq_false_iff_ne]; exact h3
 have e4 : (kd == 4) = false := by rw [beq_eq_false_iff_ne]; exact h4
 go_enter Tryz.func15, Tryz.ntmps15
 go_wp2_with fail
 go_ret
 exact ⟨rfl, rfl⟩
theorem reads_yes {w : World} {kd : Int} (h : kd = 3 ∨ kd = 4) : Calls Tryz.prog 15 #[.int .i64 kd] w fun e w' => e = .returned (.bool true) ∧ w = w' := by
 rcases h with rfl | rfl
 all_goals
   go_enter Tryz.func15, Tryz.ntmps15
   go_wp2_with fail
   go_ret
   exact ⟨rfl, rfl⟩
theorem writes_yes {w : World} {kd : Int} (h : kd = 0 ∨ kd = 1 ∨ kd = 2 ∨ kd = 5 ∨ kd = 6 ∨ kd = 7) : Calls Tryz.prog 24 #[.int .i64 kd] w fun e w' => e = .returned (.bool true) ∧ w = w' := by
 rcases h with rfl | rfl | rfl | rfl | rfl | rfl
 all_goals
   go_enter Tryz.func24, Tryz.ntmps24
   go_wp2_with fail
   go_ret
   exact ⟨rfl, rfl⟩
theorem writes_no {w : World} {kd : Int} (h : kd < 0 ∨ 7 < kd) : Calls Tryz.prog 24 #[.int .i64 kd] w fun e w' => e = .returned (.bool false) ∧ w = w' := by
 rcases h with h | h
 · have h1 : ¬ 0 ≤ kd := by omega
   go_enter Tryz.func24, Tryz.ntmps24
   go_wp2_with fail
   go_ret
   exact ⟨rfl, rfl⟩
 · have h1 : 0 ≤ kd := by omega
   have h2 : ¬ kd ≤ 7 := by omega
   go_enter Tryz.func24, Tryz.ntmps24
   go_wp2_with fail
   go_ret
   exact ⟨rfl, rfl⟩
/-- A slice, without its first elements. -/
theorem Sat.tDrop {α : Type} {f : α → List Value} {w : World} {e : TypeId} {size : Nat} {xs : List α} {l : List HProp} {g off n cap : Nat} (hf : ∀ x, (f x).length = size) (k : Nat) (hk : k ≤ xs.length) (hs : Sat w (rowT f (.slice (some ⟨g, off, none⟩) n cap) e size xs :: l)) :
   Sat w (rowT f (.slice (some ⟨g, off + k * size, none⟩) (n - k) (cap - k)) e size (xs.drop k) :: l) := by
 have hc := hs.tCap
 rcases (Sat.rowE hs).2 with ⟨h, _⟩ | ⟨g', off', cap', cur, h, h1, h2, h3, h4, h5⟩
 · simp at h
 · simp only [Value.slice.injEq, Option.some.injEq, Addr.mk.injEq, and_true] at h
   obtain ⟨⟨rfl, rfl⟩, rfl, rfl⟩ := h
   have e0 : k * size + (cap - k) * size = cap * size := by rw [← Nat.add_mul]; congr 1; omega
   have h6 := (h5.rowI (n := xs.length - k) (off := off + k * size) (cap := cap - k) (size := size) (by omega) (by omega) (by omega))
   refine h6.tOf (xs.drop k) (by simp) ?_
   have hl : ∀ ys : List α, (ys.flatMap f).length = ys.length * size := fun ys => len_flatF hf ys
   have h7 := congrArg (List.drop (k * size)) h4
   rw [List.drop_take, List.drop_drop] at h7
   have e1 : xs.length * size - k * size = (xs.length - k) * size := by rw [Nat.sub_mul]
   rw [e1] at h7
   rw [h7]
   have e2 : xs.flatMap f = (xs.take k).flatMap f ++ (xs.drop k).flatMap f := by rw [← List.flatMap_append, List.take_append_drop]
   rw [e2]
   have e3 : ((xs.take k).flatMap f).length = k * size := by rw [hl, List.length_take, Nat.min_eq_left hk]
   rw [← e3, List.drop_left]
theorem slice2 {g off n cap : Nat} (hn : 2 ≤ n) (hc : n ≤ cap) (h2 : 2 < cap) (W : World) : (Instr.sliceAt 37 (.slice (some ⟨g, off, none⟩) n cap) (some (.int .i64 2)) none none).run Tryz.prog W = .ok (.slice (some ⟨g, off + 2 * 4, none⟩) (n - 2) (cap - 2)) W := by
 have h3 : (2 : Int) ≤ (n : Int) := by omega
 have h4 : ¬ cap = 2 := by omega
 go_simp
end Go.Proofs.YtddglbjhhnipgaaGreatDoor

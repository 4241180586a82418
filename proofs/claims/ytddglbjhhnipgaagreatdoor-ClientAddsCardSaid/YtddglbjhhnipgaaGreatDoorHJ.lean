import Derived.Test.YtddglbjhhnipgaaGreatDoorHI
namespace Go.Proofs.YtddglbjhhnipgaaGreatDoor
open Go Go.RowKit
set_option linter.unusedVariables false
set_option linter.unusedSimpArgs false
set_option maxRecDepth 100000
set_option maxHeartbeats 8000000
/-! ### a client is made; a read's last step -/
def newC (i : Nat) (calls : List CallD) : CliD := ⟨i, calls, 0, .begin, false, 0, ⟨0, 0, 0, 0, 0⟩, false, none, []⟩
theorem cli_new {w : World} {l : List HProp} {d s i : Nat} {k : FuncId} {cap : Array Value} {calls : List CallD} {v : Value} (hs : Sat w (rowT fCa v 24 5 calls :: l)) (hm : calls.length ≤ 1000000) :
   Calls Tryz.prog 19 #[.pointer (some ⟨d, 0, none⟩), .pointer (some ⟨s, 0, none⟩), .int .i64 i, v, .func (.func k) #[] cap] w fun e w' => ∃ c, e = .returned (.pointer (some ⟨c, 0, none⟩)) ∧ Sat w' (cliP c d s (.func (.func k) #[] cap) (newC i calls) :: rowT fCa v 24 5 calls :: l) ∧ Kp w w' := by
 have hf := fun w => run_eql_fn (P := Tryz.prog) w Tryz.underlying42 (.func k) #[] cap
 have hmf : ∀ (fn : Fn) (first cap : Array Value) (w : World), (Instr.makeFunc fn first cap).run Tryz.prog w = .ok (.func fn first cap) w := fun _ _ _ _ => rfl
 have hcl := clone_calls hs hm
 go_enter Tryz.func19, Tryz.ntmps19
 go_wp2_with fail
 refine hcl.mono ?_
 rintro e w1 ⟨vo, rfl, h1, k1⟩
 obtain ⟨ao, cp, rfl⟩ := h1.tLen
 have h2 := (h1.tNil fAn 28 5).alloc (.cells #[.pointer (some ⟨d, 0, none⟩), .pointer (some ⟨s, 0, none⟩), .int .i64 i, .slice ao calls.length cp, .int .i64 0, .func (.func k) #[] cap, .nilFunc, .bool false, .int .i64 0, .int .i64 0, .int .i64 0, .int .i64 0, .int .i64 0, .int .i64 0, .bool false, .pointer none, .slice none 0 0] 135)
 have k2 := k1.alloc (.cells #[.pointer (some ⟨d, 0, none⟩), .pointer (some ⟨s, 0, none⟩), .int .i64 i, .slice ao calls.length cp, .int .i64 0, .func (.func k) #[] cap, .nilFunc, .bool false, .int .i64 0, .int .i64 0, .int .i64 0, .int .i64 0, .int .i64 0, .int .i64 0, .bool false, .pointer none, .slice none 0 0] 135)
 clear hcl h1 k1
 go_upto_region 4 with (fail)
 generalize World.alloc _ _ = w2 at h2 k2 ⊢
 generalize w1.heap.size = c at h2 ⊢
 have c6 := (h2).cell 6
 have cf6 := (h2).free 6
 simp at c6
 have hcl := h2.lt
 have h3 := h2.set 6 (.func (.func 66) #[.pointer (some ⟨c, 0, none⟩)] #[])
 have k3 := k2.setCell ⟨c, 6, none⟩ (.func (.func 66) #[.pointer (some ⟨c, 0, none⟩)] #[])
 go_wp2_with fail
 go_ret
 exact ⟨c, rfl, cliP_I (C := newC i calls) (h3.pull 2 |>.push 1), k3⟩
theorem cli_node_last {σ : Type} {k : FuncId} {cap : Array Value} {N : σ → HProp} {st : σ → EvD → σ} {ok : σ → Prop} (hN : NoteOk k cap N st ok) {y : σ} {w : World} {l : List HProp} {c d s f : Nat} {C : CliD} {D : DeskD} {F : FindD}
   (hy : ok y) (hat : C.at' < 1000000) (hal : C.answers.length ≤ 1000000) (hfd : C.find = some ⟨f, 0, none⟩) (hn : F.next = .no) (hk : F.kids.length ≤ 1000000) (hi : C.i < D.pins.length) (hD0 : 0 ≤ D.acc) (hD1 : D.acc < 1000000000)
   (hs : Sat w (cliP c d s (.func (.func k) #[] cap) C :: N y :: deskP d D :: findP f F :: l)) :
   Calls Tryz.prog 147 #[.pointer (some ⟨c, 0, none⟩)] w fun e w' => e = .returned (.tuple #[]) ∧ ∃ ao m cp, Sat w' (cliP c d s (.func (.func k) #[] cap) { C with v := ⟨0, 0, 0, 0, 0⟩, reads := false, answers := C.answers ++ [⟨F.e, F.ver, F.node, ao, m, cp, none, 0, 0, false⟩], at' := C.at' + 1, next := .begin } :: N (st y ⟨9, C.i, C.at', F.ver⟩) :: deskP d { tick D with pins := D.pins.set C.i 0 } :: rowT fK (.slice ao m cp) 73 3 F.kids :: findP f F :: l) ∧ Kp w w' := by
 obtain ⟨vc, va, h1⟩ := cliP_E hs
 have hw := find_want_no (h1.pull 5) hn
 have c15 := (h1).cell 15
 simp [cliC, hfd] at c15
 clear hs
 go_enter Tryz.func147, Tryz.ntmps147
 go_wp2_with fail
 refine hw.mono ?_
 rintro e w1 ⟨rfl, h2, k2⟩
 have hB := h2.alloc (.cells #[.int .i64 F.want.s, .int .i64 F.want.g] 56)
 have kB := k2.alloc (.cells #[.int .i64 F.want.s, .int .i64 F.want.g] 56)
 clear hw h1 c15 h2 k2
 go_upto_region 4 with (fail)
 generalize World.alloc _ _ = w2 at hB kB ⊢
 generalize w1.heap.size = B at hB ⊢
 have hp1 := desk_setPin (n := 0) (hB.pull 6).drew hD0 hD1 hi
 have S0 := cli02 (hB.pull 2)
 have HS0 := Lib.hid S0
 obtain ⟨s0, s2⟩ := S0
 go_region_held3 (fun w' => w'.cell? ⟨c, 0, none⟩ = some (.pointer (some ⟨d, 0, none⟩)) ∧ w'.cell? ⟨c, 2, none⟩ = some (.int .i64 C.i)) (first | with_reducible exact HS0.out | with_reducible exact cli02 h3.tail.tail.tail | go_keep)
     ((go_at_call 53; (with_reducible refine hp1.mono ?_); rintro x w3 ⟨rfl, h3, k3⟩))
 have k3 := kB.drew.trans k3
 clear hp1 hB kB HS0 s0 s2
 have h4 := h3.pull 3
 have c9 := (h4).cell 9
 have c10 := (h4).cell 10
 have c11 := (h4).cell 11
 have c12 := (h4).cell 12
 have c13 := (h4).cell 13
 have c14 := (h4).cell 14
 have cf9 := (h4).free 9
 have cf10 := (h4).free 10
 have cf11 := (h4).free 11
 have cf12 := (h4).free 12
 have cf13 := (h4).free 13
 have cf14 := (h4).free 14
 simp [cliC] at c9 c10 c11 c12 c13 c14
 have hcl := h4.lt
 have h5 := (((((h4.set 9 (.int .i64 0)).set 10 (.int .i64 0)).set 11 (.int .i64 0)).set 12 (.int .i64 0)).set 13 (.int .i64 0)).set 14 (.bool false)
 have k5 := (((((k3.setCell ⟨c, 9, none⟩ (.int .i64 0)).setCell ⟨c, 10, none⟩ (.int .i64 0)).setCell ⟨c, 11, none⟩ (.int .i64 0)).setCell ⟨c, 12, none⟩ (.int .i64 0)).setCell ⟨c, 13, none⟩ (.int .i64 0)).setCell ⟨c, 14, none⟩ (.bool false)
 have h6 := (((h5.pull 5).pull 5).pull 2)
 clear h3 k3 h5
 go_upto_region 6 with (fail)
 generalize World.setCell _ _ _ = w4 at h6 k5 ⊢
 clear h4 c9 cf9 c10 cf10 c11 cf11 c12 cf12 c13 cf13 c14 cf14 hcl
 have c15 := (h6).cell 15
 simp [cliC, hfd] at c15
 have h7 := cliP_I (C := { C with v := ⟨0, 0, 0, 0, 0⟩, reads := false }) h6
 have han := find_answer (h7.pull 3) hn hk
 have hen := fun (W : World) (a : RepD) (l' : List HProp) (hW : Sat W (cliP c d s (.func (.func k) #[] cap) { C with v := ⟨0, 0, 0, 0, 0⟩, reads := false } :: N y :: l')) => cli_end (a := a) (C := { C with v := ⟨0, 0, 0, 0, 0⟩, reads := false }) hN hy (by show C.at' < 1000000000; omega) hal hW
 have HEN := Lib.hid hen
 clear hen h6 h7
 go_wp2_with fail
 refine han.mono ?_
 rintro e w5 ⟨ao, m, cp, rfl, h8, k8⟩
 have hen := HEN.out _ ⟨F.e, F.ver, F.node, ao, m, cp, none, 0, 0, false⟩ _ ((h8.pull 2).pull 5).swap
 unfold aggA at hen
 clear han HEN h8 c15
 go_wp2_with fail
 refine hen.mono ?_
 rintro e w6 ⟨rfl, h9, k9⟩
 go_wp2_with fail
 go_end0
 exact ⟨rfl, ao, m, cp, ((h9.pull 5).tail.pull 4).push 2, (k5.trans k8).trans k9⟩
/-! ### a read loads the root -/
def verOf (D : DeskD) : VerD := ⟨D.n, D.ks, D.kg, D.ss, D.sg⟩
theorem loadX {w : World} {l : List HProp} {c d s X : Nat} {note : Value} {C : CliD} {vc va : Value} {x : CallD} (hs : Sat w (own X (.cells #[.int .i64 x.kind, .int .i64 x.node, .int .i64 x.up, .string x.text, .slice x.dao x.dn x.dc] 24 (0, 0)) :: own c (.cells (cliC c d s note C vc va) 135 (0, 0)) :: l)) :
   w.cell? ⟨X, 0, none⟩ = some (.int .i64 x.kind) ∧ w.cell? ⟨X, 3, none⟩ = some (.string x.text) ∧ w.cell? ⟨c, 9, none⟩ = some (.int .i64 C.v.n) ∧ w.cell? ⟨c, 10, none⟩ = some (.int .i64 C.v.ks) ∧ w.cell? ⟨c, 11, none⟩ = some (.int .i64 C.v.kg) ∧ w.cell? ⟨c, 12, none⟩ = some (.int .i64 C.v.ss) ∧ w.cell? ⟨c, 13, none⟩ = some (.int .i64 C.v.sg) :=
 ⟨hs.cell 0, hs.cell 3, (hs.pull 1).cell 9, (hs.pull 1).cell 10, (hs.pull 1).cell 11, (hs.pull 1).cell 12, (hs.pull 1).cell 13⟩
theorem cli_load {σ : Type} {k : FuncId} {cap : Array Value} {N : σ → HProp} {st : σ → EvD → σ} {ok : σ → Prop} (hN : NoteOk k cap N st ok) {y : σ} {w : World} {l : List HProp} {c d s : Nat} {C : CliD} {D : DeskD} {x : CallD} {Z : HProp} {F : FindD}
   (hy : ok y) (hat : C.at' < 1000000) (hx : C.calls[C.at']? = some x) (hD0 : 0 ≤ D.acc) (hD1 : D.acc < 1000000000)
   (hs : Sat w (cliP c d s (.func (.func k) #[] cap) C :: N y :: deskP d D :: Z :: l))
   (hnew : ∀ (W : World) (l' : List HProp), Sat W (Z :: l') → Calls Tryz.prog 33 #[.bool (x.kind == 4), .string x.text, aggV (verOf D)] W fun e w' => ∃ f, e = .returned (.pointer (some ⟨f, 0, none⟩)) ∧ Sat w' (findP f F :: Z :: l') ∧ Kp W w') :
   Calls Tryz.prog 121 #[.pointer (some ⟨c, 0, none⟩)] w fun e w' => e = .returned (.tuple #[]) ∧ ∃ f, Sat w' (cliP c d s (.func (.func k) #[] cap) { C with v := verOf D, reads := true, find := some ⟨f, 0, none⟩, next := .node } :: N (st y ⟨8, C.i, C.at', D.n⟩) :: deskP d (tick D) :: findP f F :: Z :: l) ∧ Kp w w' := by
 obtain ⟨vc, va, h1⟩ := cliP_E hs
 have hlt := (List.getElem?_eq_some_iff.1 hx).1
 rcases (h1.pull 1).tForm with ⟨rfl, hp⟩ | ⟨g, off, cap', rfl⟩
 · rw [hp] at hlt; simp at hlt
 obtain ⟨n, hn⟩ : ∃ n, C.calls.length = n := ⟨_, rfl⟩
 have S0 := cliS h1 hx
 rw [hn] at S0 h1 hlt
 obtain ⟨s0, s2, s3, s4, x0, x1, x2, x3, x4⟩ := S0
 have h0 : (0 : Int) ≤ (C.at' : Int) := by omega
 have hlt2 : (C.at' : Int) < (n : Int) := by omega
 have HNEW := Lib.hid hnew
 have hmf : ∀ (fn : Fn) (first cap : Array Value) (w : World), (Instr.makeFunc fn first cap).run Tryz.prog w = .ok (.func fn first cap) w := fun _ _ _ _ => rfl
 clear hnew hx hn s0 s2
 go_enter Tryz.func121, Tryz.ntmps121
 go_wp2_with fail
 go_cut [2] from 3 to 13 (fun bv wx => ∃ X : Nat, bv = .pointer (some ⟨X, 0, none⟩) ∧ Sat wx (own X (.cells #[.int .i64 x.kind, .int .i64 x.node, .int .i64 x.up, .string x.text, .slice x.dao x.dn x.dc] 24 (0, 0)) :: own c (.cells (cliC c d s (.func (.func k) #[] cap) C (.slice (some ⟨g, off, none⟩) n cap') va) 135 (0, 0)) :: rowT fCa (.slice (some ⟨g, off, none⟩) n cap') 24 5 C.calls :: rowT fAn va 28 5 C.answers :: N y :: deskP d D :: Z :: l) ∧ Kp w wx)
 case first =>
   have hcl := h1.lt
   have hgl := (h1.pull 1).rowBlock
   go_region_held3 (fun w' => w'.cell? ⟨c, 3, none⟩ = some (.slice (some ⟨g, off, none⟩) n cap') ∧ w'.cell? ⟨c, 4, none⟩ = some (.int .i64 C.at') ∧
     w'.cell? ⟨g, off + C.at' * 5, none⟩ = some (.int .i64 x.kind) ∧ w'.cell? ⟨g, off + C.at' * 5 + 1, none⟩ = some (.int .i64 x.node) ∧ w'.cell? ⟨g, off + C.at' * 5 + 2, none⟩ = some (.int .i64 x.up) ∧ w'.cell? ⟨g, off + C.at' * 5 + 3, none⟩ = some (.string x.text) ∧ w'.cell? ⟨g, off + C.at' * 5 + 4, none⟩ = some (.slice x.dao x.dn x.dc))
     (first | go_keep | exact ⟨s3, s4, x0, x1, x2, x3, x4⟩) ((fail))
   all_goals
     go_wp2_with fail
     go_meet
     case rel =>
       exact ⟨_, rfl, (h1.drew.alloc (.cells #[.int .i64 x.kind, .int .i64 x.node, .int .i64 x.up, .string x.text, .slice x.dao x.dn x.dc] 24)), (Kp.refl w).drew.alloc _⟩
 case rest =>
   obtain ⟨X, rfl, h2, k2⟩ := hcut
   clear h1 s3 s4 x0 x1 x2 x3 x4 h0 hlt2 hs
   have hro := desk_root (h2.pull 5) hD0 hD1
   have c0 := (h2.pull 1).cell 0
   simp [cliC] at c0
   go_wp2_with fail
   refine hro.mono ?_
   rintro e w3 ⟨rfl, h3, k3⟩
   have k3 := k2.trans k3
   clear hro c0 h2 k2
   have h4 := h3.pull 2
   have c9 := (h4).cell 9
   have c10 := (h4).cell 10
   have c11 := (h4).cell 11
   have c12 := (h4).cell 12
   have c13 := (h4).cell 13
   have c14 := (h4).cell 14
   have cf9 := (h4).free 9
   have cf10 := (h4).free 10
   have cf11 := (h4).free 11
   have cf12 := (h4).free 12
   have cf13 := (h4).free 13
   have cf14 := (h4).free 14
   simp [cliC] at c9 c10 c11 c12 c13 c14
   have hcl := h4.lt
   have h5 := (((((h4.set 9 (.int .i64 D.n)).set 10 (.int .i64 D.ks)).set 11 (.int .i64 D.kg)).set 12 (.int .i64 D.ss)).set 13 (.int .i64 D.sg)).set 14 (.bool true)
   have k5 := (((((k3.setCell ⟨c, 9, none⟩ (.int .i64 D.n)).setCell ⟨c, 10, none⟩ (.int .i64 D.ks)).setCell ⟨c, 11, none⟩ (.int .i64 D.kg)).setCell ⟨c, 12, none⟩ (.int .i64 D.ss)).setCell ⟨c, 13, none⟩ (.int .i64 D.sg)).setCell ⟨c, 14, none⟩ (.bool true)
   clear h3 k3
   go_upto_region 2 with (fail)
   generalize World.setCell _ _ _ = w4 at h5 k5 ⊢
   clear h4 c9 cf9 c10 cf10 c11 cf11 c12 cf12 c13 cf13 c14 cf14 hcl
   have c9 := (h5).cell 9
   simp [cliC] at c9
   have h6 := cliP_I (C := { C with v := verOf D, reads := true }) (((h5.pull 4).pull 4).pull 2)
   have htl := cli_tell hN (what := 8) (ver := D.n) hy (h6.pull 3).swap
   clear h5 h6
   go_wp2_with fail
   refine htl.mono ?_
   rintro e w5 ⟨rfl, h7, k7⟩
   have k7 := k5.trans k7
   clear htl k5 c9
   obtain ⟨vc, va, h8⟩ := cliP_E h7
   have S0 := loadX ((h8.pull 5).pull 1 |>.swap)
   have HS0 := Lib.hid S0
   obtain ⟨q0, q3, q9, q10, q11, q12, q13⟩ := S0
   have hcl := h8.lt
   have hp := HNEW.out _ _ (h8.pull 6).drew
   unfold aggV at hp
   clear HNEW h7
   go_upto_region 3 with (fail)
   go_region_held3 (fun w' => w'.cell? ⟨X, 0, none⟩ = some (.int .i64 x.kind) ∧ w'.cell? ⟨X, 3, none⟩ = some (.string x.text) ∧ w'.cell? ⟨c, 9, none⟩ = some (.int .i64 (verOf D).n) ∧ w'.cell? ⟨c, 10, none⟩ = some (.int .i64 (verOf D).ks) ∧ w'.cell? ⟨c, 11, none⟩ = some (.int .i64 (verOf D).kg) ∧ w'.cell? ⟨c, 12, none⟩ = some (.int .i64 (verOf D).ss) ∧ w'.cell? ⟨c, 13, none⟩ = some (.int .i64 (verOf D).sg))
     (first | with_reducible exact HS0.out | exact loadX ((h9.pull 7).pull 3).swap | exact loadX (C := { C with v := verOf D, reads := true, find := some ⟨f, 0, none⟩ }) ((((h9.pull 7).pull 3).set 15 (.pointer (some ⟨f, 0, none⟩))).swap) | go_keep)
     ((go_at_call 33; (with_reducible refine hp.mono ?_); rintro x2 w6 ⟨f, rfl, h9, k9⟩; have e15 := (h9.pull 2).cell 15; have ef15 := (h9.pull 2).free 15; simp [cliC] at e15))
   all_goals
     have h10 := (h9.pull 2).set 15 (.pointer (some ⟨f, 0, none⟩))
     have k10 := (k7.drew.trans k9).setCell ⟨c, 15, none⟩ (.pointer (some ⟨f, 0, none⟩))
     clear h9 k9 HS0 q0 q3 q9 q10 q11 q12 q13 h8 hp e15 ef15 hcl
     go_upto_region 4 with (fail)
     generalize World.setCell _ _ _ = w7 at h10 k10 ⊢
     have e6 := (h10).cell 6
     have ef6 := (h10).free 6
     simp [cliC] at e6
     have hcl := h10.lt
     have h11 := h10.set 6 (.func (.func 147) #[.pointer (some ⟨c, 0, none⟩)] #[])
     have k11 := k10.setCell ⟨c, 6, none⟩ (.func (.func 147) #[.pointer (some ⟨c, 0, none⟩)] #[])
     go_wp2_with fail
     go_end0
     have h12 := cliP_I (C := { C with v := verOf D, reads := true, find := some ⟨f, 0, none⟩, next := .node }) (((h11.pull 4).pull 4).pull 2)
     exact ⟨rfl, f, (((((h12.pull 5).tail.pull 3).pull 4).pull 2).pull 2).swap, k11⟩
end Go.Proofs.YtddglbjhhnipgaaGreatDoor

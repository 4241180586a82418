import Derived.Test.YtddglbjhhnipgaaGreatDoorHC
import Derived.Test.YtddglbjhhnipgaaGreatDoorIK
namespace Go.Proofs.YtddglbjhhnipgaaGreatDoor
open Go Go.RowKit
set_option linter.unusedVariables false
set_option linter.unusedSimpArgs false
set_option maxRecDepth 100000
set_option maxHeartbeats 8000000
/-! ### one who calls -/
theorem Tryz.infoCall : (Tryz.prog.info? 24).map (fun i => (i.zero, i.size, i.bytes)) = some (some (.agg #[.int .i64 0, .int .i64 0, .int .i64 0, .string ⟨#[]⟩, .slice none 0 0]), 5, 64) := by kernel_rfl
theorem Tryz.infoAns : (Tryz.prog.info? 28).map (fun i => (i.zero, i.size, i.bytes)) = some (some (.agg #[.int .i64 0, .int .i64 0, .int .i64 0, .slice none 0 0, .slice none 0 0]), 5, 72) := by kernel_rfl
theorem Tryz.infoEv : (Tryz.prog.info? 41).map (fun i => (i.zero, i.size, i.bytes)) = some (some (.agg #[.int .i64 0, .int .i64 0, .int .i64 0, .int .i64 0]), 4, 32) := by kernel_rfl
structure CallD where
 kind : Int
 node : Int
 up : Int
 text : ByteArray
 dao : Option Addr
 dn : Nat
 dc : Nat
def fCa (c : CallD) : List Value := [.int .i64 c.kind, .int .i64 c.node, .int .i64 c.up, .string c.text, .slice c.dao c.dn c.dc]
def aggCa (c : CallD) : Value := .agg #[.int .i64 c.kind, .int .i64 c.node, .int .i64 c.up, .string c.text, .slice c.dao c.dn c.dc]
theorem len_fCa (c : CallD) : (fCa c).length = 5 := rfl
/-- An answer's cells. -/
def fAn (r : RepD) : List Value := [.int .i64 r.e, .int .i64 r.version, .int .i64 r.node, .slice r.kao r.kn r.kc, .slice r.dao r.dn r.dc]
theorem len_fAn (r : RepD) : (fAn r).length = 5 := rfl
structure EvD where
 what : Int
 client : Int
 call : Int
 version : Int
def fEv (e : EvD) : List Value := [.int .i64 e.what, .int .i64 e.client, .int .i64 e.call, .int .i64 e.version]
def aggEv (e : EvD) : Value := .agg #[.int .i64 e.what, .int .i64 e.client, .int .i64 e.call, .int .i64 e.version]
theorem len_fEv (e : EvD) : (fEv e).length = 4 := rfl
inductive Cx | begin | pin | load | node | take
def cxV (c : Nat) : Cx → Value
 | .begin => .func (.func 66) #[.pointer (some ⟨c, 0, none⟩)] #[]
 | .pin => .func (.func 96) #[.pointer (some ⟨c, 0, none⟩)] #[]
 | .load => .func (.func 121) #[.pointer (some ⟨c, 0, none⟩)] #[]
 | .node => .func (.func 147) #[.pointer (some ⟨c, 0, none⟩)] #[]
 | .take => .func (.func 122) #[.pointer (some ⟨c, 0, none⟩)] #[]
structure CliD where
 i : Nat
 calls : List CallD
 at' : Nat
 next : Cx
 waits : Bool
 epoch : Int
 v : VerD
 reads : Bool
 find : Option Addr
 answers : List RepD
def cliC (c d s : Nat) (note : Value) (C : CliD) (vc va : Value) : Array Value := #[.pointer (some ⟨d, 0, none⟩), .pointer (some ⟨s, 0, none⟩), .int .i64 C.i, vc, .int .i64 C.at', note, cxV c C.next, .bool C.waits, .int .i64 C.epoch, .int .i64 C.v.n, .int .i64 C.v.ks, .int .i64 C.v.kg, .int .i64 C.v.ss, .int .i64 C.v.sg, .bool C.reads, .pointer C.find, va]
/-- A client at block c: its desk, its store, whom it tells. -/
def cliP (c d s : Nat) (note : Value) (C : CliD) : HProp :=
 ex fun vc => ex fun va => all [own c (.cells (cliC c d s note C vc va) 135 (0, 0)), rowT fCa vc 24 5 C.calls, rowT fAn va 28 5 C.answers]
theorem cliP_I {w : World} {l : List HProp} {c d s : Nat} {note : Value} {C : CliD} {vc va : Value} (hs : Sat w (own c (.cells (cliC c d s note C vc va) 135 (0, 0)) :: rowT fCa vc 24 5 C.calls :: rowT fAn va 28 5 C.answers :: l)) : Sat w (cliP c d s note C :: l) := Sat.exI vc (Sat.exI va (Sat.allI hs))
theorem cliP_E {w : World} {l : List HProp} {c d s : Nat} {note : Value} {C : CliD} (hs : Sat w (cliP c d s note C :: l)) :
   ∃ vc va, Sat w (own c (.cells (cliC c d s note C vc va) 135 (0, 0)) :: rowT fCa vc 24 5 C.calls :: rowT fAn va 28 5 C.answers :: l) := by
 obtain ⟨a, h⟩ := hs.exE
 obtain ⟨b, h⟩ := h.exE
 exact ⟨a, b, h.allE⟩
theorem one_fCa (xs : List CallD) : ∀ u ∈ xs.flatMap fCa, u.oneCell' = true := by
 intro u hu
 obtain ⟨x, _, hx⟩ := List.mem_flatMap.1 hu
 simp only [fCa, List.mem_cons, List.not_mem_nil, or_false] at hx
 rcases hx with rfl | rfl | rfl | rfl | rfl
 all_goals rfl
theorem clone_calls {w : World} {l : List HProp} {ws : List CallD} {v : Value} (hs : Sat w (rowT fCa v 24 5 ws :: l)) (hm : ws.length ≤ 1000000) :
   Calls Tryz.prog 65 #[v] w fun e w' => ∃ vo, e = .returned vo ∧ Sat w' (rowT fCa vo 24 5 ws :: rowT fCa v 24 5 ws :: l) ∧ Kp w w' := by
 obtain ⟨i0, hi, hz0, hz1, hz2⟩ := info_parts Tryz.infoCall
 have hnil : ∀ (W : World) (a : Option Addr) (n c n' c' : Nat), (binOp .eql 31 (.slice a n c) (.slice none n' c')).run Tryz.prog W = .ok (.bool a.isNone) W := fun W a n c n' c' => Lib.run_eql_slice_nil W _ _ a n c n' c' Tryz.underlying31
 rcases hs.tForm with ⟨rfl, rfl⟩ | ⟨g, off, cap, rfl⟩
 · go_enter Tryz.func65, Tryz.ntmps65
   go_wp2_with fail
   go_ret
   exact ⟨_, rfl, hs.tNil _ _ _, Kp.refl w⟩
 · have hE := hs.rowEmpty 24 5
   have hg := hs.rowBlock
   have hy : ∀ j u, (ws.flatMap fCa)[j]? = some u → w.cell? ⟨g, off + j, none⟩ = some u := by
     intro j u hj
     have hlt := (List.getElem?_eq_some_iff.1 hj).1
     rw [len_flatF len_fCa] at hlt
     rw [hs.rowCell j hlt]; exact hj
   go_enter Tryz.func65, Tryz.ntmps65
   go_wp2_with (at_builtin; refine wpList_append_row rfl (.tmp 5) (.tmp 6) 31 rfl 24 i0 _ 5 64 Tryz.underlying31 hi hz0 hz1 hz2 rfl (by decide) _ _ _ _ rfl hE ⟨g, off, none⟩ ws.length cap (ws.flatMap fCa) rfl ?c0 ?c1 ?c2 ?c3 ?c4 ?c5)
   case c0 => rw [len_flatF len_fCa]
   case c1 => intro j u hj; rw [Addr.add_lit, World.cell?_alloc_lt _ _ _ hg]; exact hy j u hj
   case c2 => exact one_fCa _
   case c3 => unfold maxLen; omega
   case c4 => omega
   case c5 =>
     intro v' w1 hs1 hk
     go_wp2_with fail
     go_ret
     exact ⟨_, rfl, hs1.tOf ws (by simp) (by simp), ((Kp.refl w).alloc _).trans hk⟩
theorem one_fAn (xs : List RepD) : ∀ u ∈ xs.flatMap fAn, u.oneCell' = true := by
 intro u hu
 obtain ⟨x, _, hx⟩ := List.mem_flatMap.1 hu
 simp only [fAn, List.mem_cons, List.not_mem_nil, or_false] at hx
 rcases hx with rfl | rfl | rfl | rfl | rfl
 all_goals rfl
theorem clone_answers {w : World} {l : List HProp} {ws : List RepD} {v : Value} (hs : Sat w (rowT fAn v 28 5 ws :: l)) (hm : ws.length ≤ 1000000) :
   Calls Tryz.prog 67 #[v] w fun e w' => ∃ vo, e = .returned vo ∧ Sat w' (rowT fAn vo 28 5 ws :: rowT fAn v 28 5 ws :: l) ∧ Kp w w' := by
 obtain ⟨i0, hi, hz0, hz1, hz2⟩ := info_parts Tryz.infoAns
 have hnil : ∀ (W : World) (a : Option Addr) (n c n' c' : Nat), (binOp .eql 45 (.slice a n c) (.slice none n' c')).run Tryz.prog W = .ok (.bool a.isNone) W := fun W a n c n' c' => Lib.run_eql_slice_nil W _ _ a n c n' c' Tryz.underlying45
 rcases hs.tForm with ⟨rfl, rfl⟩ | ⟨g, off, cap, rfl⟩
 · go_enter Tryz.func67, Tryz.ntmps67
   go_wp2_with fail
   go_ret
   exact ⟨_, rfl, hs.tNil _ _ _, Kp.refl w⟩
 · have hE := hs.rowEmpty 28 5
   have hg := hs.rowBlock
   have hy : ∀ j u, (ws.flatMap fAn)[j]? = some u → w.cell? ⟨g, off + j, none⟩ = some u := by
     intro j u hj
     have hlt := (List.getElem?_eq_some_iff.1 hj).1
     rw [len_flatF len_fAn] at hlt
     rw [hs.rowCell j hlt]; exact hj
   go_enter Tryz.func67, Tryz.ntmps67
   go_wp2_with (at_builtin; refine wpList_append_row rfl (.tmp 5) (.tmp 6) 45 rfl 28 i0 _ 5 72 Tryz.underlying45 hi hz0 hz1 hz2 rfl (by decide) _ _ _ _ rfl hE ⟨g, off, none⟩ ws.length cap (ws.flatMap fAn) rfl ?c0 ?c1 ?c2 ?c3 ?c4 ?c5)
   case c0 => rw [len_flatF len_fAn]
   case c1 => intro j u hj; rw [Addr.add_lit, World.cell?_alloc_lt _ _ _ hg]; exact hy j u hj
   case c2 => exact one_fAn _
   case c3 => unfold maxLen; omega
   case c4 => omega
   case c5 =>
     intro v' w1 hs1 hk
     go_wp2_with fail
     go_ret
     exact ⟨_, rfl, hs1.tOf ws (by simp) (by simp), ((Kp.refl w).alloc _).trans hk⟩
/-- Whom a client tells: a function, what it captured, and what it does with what it was told. -/
structure NoteOk {σ : Type} (k : FuncId) (cap : Array Value) (N : σ → HProp) (st : σ → EvD → σ) (ok : σ → Prop) : Prop where
 ent : ∀ (args : Array Value) (w : World), (callFunc k args).run Tryz.prog w = .ok (.enter k args) w
 call : ∀ (x : σ) (ev : EvD) (w : World) (l : List HProp), ok x → Sat w (N x :: l) → Calls Tryz.prog k (#[aggEv ev] ++ cap) w fun e w' => e = .returned (.tuple #[]) ∧ Sat w' (N (st x ev) :: l) ∧ Kp w w'
theorem cliT {w : World} {l : List HProp} {c d s : Nat} {note : Value} {C : CliD} {vc va : Value} {A : HProp} (hs : Sat w (A :: own c (.cells (cliC c d s note C vc va) 135 (0, 0)) :: l)) : w.cell? ⟨c, 2, none⟩ = some (.int .i64 C.i) ∧ w.cell? ⟨c, 4, none⟩ = some (.int .i64 C.at') ∧ w.cell? ⟨c, 5, none⟩ = some note := ⟨(hs.pull 1).cell 2, (hs.pull 1).cell 4, (hs.pull 1).cell 5⟩
theorem cli_tell {σ : Type} {k : FuncId} {cap : Array Value} {N : σ → HProp} {st : σ → EvD → σ} {ok : σ → Prop} (hN : NoteOk k cap N st ok) {x : σ} {w : World} {l : List HProp} {c d s : Nat} {C : CliD} {what ver : Int} (hx : ok x)
   (hs : Sat w (cliP c d s (.func (.func k) #[] cap) C :: N x :: l)) :
   Calls Tryz.prog 94 #[.pointer (some ⟨c, 0, none⟩), .int .i64 what, .int .i64 ver] w fun e w' => e = .returned (.tuple #[]) ∧ Sat w' (cliP c d s (.func (.func k) #[] cap) C :: N (st x ⟨what, C.i, C.at', ver⟩) :: l) ∧ Kp w w' := by
 obtain ⟨vc, va, h1⟩ := cliP_E hs
 have c2 := (h1).cell 2
 have c4 := (h1).cell 4
 have c5 := (h1).cell 5
 simp [cliC] at c2 c4 c5
 have hent := hN.ent
 have hn := hN.call x ⟨what, C.i, C.at', ver⟩ w.drew _ hx (h1.pull 3).drew
 clear hs h1
 go_enter Tryz.func94, Tryz.ntmps94
 unfold aggEv at hn
 go_region_held3 (fun w' => w'.cell? ⟨c, 2, none⟩ = some (.int .i64 C.i) ∧ w'.cell? ⟨c, 4, none⟩ = some (.int .i64 C.at') ∧ w'.cell? ⟨c, 5, none⟩ = some (.func (.func k) #[] cap)) (first | go_keep | exact ⟨c2, c4, c5⟩ | exact cliT h2) ((with_reducible refine hn.mono ?_; rintro e w1 ⟨rfl, h2, k2⟩))
 go_end0
 have h3 := cliP_I (h2.push 3)
 exact ⟨rfl, h3, (Kp.refl w).drew.trans k2⟩
theorem cli_end {σ : Type} {k : FuncId} {cap : Array Value} {N : σ → HProp} {st : σ → EvD → σ} {ok : σ → Prop} (hN : NoteOk k cap N st ok) {x : σ} {w : World} {l : List HProp} {c d s : Nat} {C : CliD} {a : RepD} (hx : ok x) (hat : C.at' < 1000000000) (hal : C.answers.length ≤ 1000000)
   (hs : Sat w (cliP c d s (.func (.func k) #[] cap) C :: N x :: l)) :
   Calls Tryz.prog 98 #[.pointer (some ⟨c, 0, none⟩), aggA a] w fun e w' => e = .returned (.tuple #[]) ∧ Sat w' (cliP c d s (.func (.func k) #[] cap) { C with answers := C.answers ++ [a], at' := C.at' + 1, next := .begin } :: N (st x ⟨9, C.i, C.at', a.version⟩) :: l) ∧ Kp w w' := by
 obtain ⟨i1, hj, hy0, hy1, hy2⟩ := info_parts Tryz.infoAns
 have hmf : ∀ (fn : Fn) (first cap : Array Value) (w : World), (Instr.makeFunc fn first cap).run Tryz.prog w = .ok (.func fn first cap) w := fun _ _ _ _ => rfl
 have hB := hs.alloc (.cells #[.int .i64 a.e, .int .i64 a.version, .int .i64 a.node, .slice a.kao a.kn a.kc, .slice a.dao a.dn a.dc] 28)
 have kB := (Kp.refl w).alloc (.cells #[.int .i64 a.e, .int .i64 a.version, .int .i64 a.node, .slice a.kao a.kn a.kc, .slice a.dao a.dn a.dc] 28)
 clear hs
 unfold aggA
 go_enter Tryz.func98, Tryz.ntmps98
 go_upto_region 1 with (fail)
 generalize World.alloc _ _ = w1 at hB kB ⊢
 generalize w.heap.size = B at hB ⊢
 have b0 := (hB).cell 0
 have b1 := (hB).cell 1
 have b2 := (hB).cell 2
 have b3 := (hB).cell 3
 have b4 := (hB).cell 4
 simp at b0 b1 b2 b3 b4
 have htl := cli_tell hN (what := 9) (ver := a.version) hx (hB.push 2)
 go_wp2_with fail
 refine htl.mono ?_
 rintro e w2 ⟨rfl, h2, k2⟩
 have k2 := kB.trans k2
 clear htl hB kB b0 b1 b2 b3 b4
 obtain ⟨vc, va, h3⟩ := cliP_E h2
 obtain ⟨vao, vcap, hv0⟩ := (h3.pull 2).tLen
 obtain ⟨n, hnn⟩ : ∃ n, C.answers.length = n := ⟨_, rfl⟩
 rw [hnn] at hv0 hal
 subst hv0
 have HN := Lib.hid hnn
 have e2 : rowT fAn (.slice vao n vcap) 28 5 C.answers = row (.slice vao n vcap) 28 5 n (C.answers.flatMap fAn) := by unfold rowT; rw [hnn]
 rw [e2] at h3
 have c4 := (h3).cell 4
 have c6 := (h3).cell 6
 have c16 := (h3).cell 16
 have cf4 := (h3).free 4
 have cf6 := (h3).free 6
 have cf16 := (h3).free 16
 simp [cliC] at c4 c6 c16
 have b0 := (h3.pull 4).cell 0
 have b1 := (h3.pull 4).cell 1
 have b2 := (h3.pull 4).cell 2
 have b3 := (h3.pull 4).cell 3
 have b4 := (h3.pull 4).cell 4
 simp at b0 b1 b2 b3 b4
 have hcl := h3.lt
 have hbl := (h3.pull 4).lt
 have hat1 : IntKind.i64.wrap ((C.at' : Int) + 1) = (C.at' : Int) + 1 := by rw [IntWalk.i64_in _ (by omega)]
 clear e2 hnn h2
 go_upto_region 2 with (fail)
 go_region_law ((refine step_append_lit (by rfl) (.tmp 12) (.tmp 14) 45 (by rfl) 28 i1 _ 5 72 Tryz.underlying45 hj hy0 hy1 hy2 (by rfl) (by omega) _ _ _ _ _ _ _ (by rfl) (Sat.pull 3 (h3.drew.alloc (.cells #[.int .i64 a.e, .int .i64 a.version, .int .i64 a.node, .slice a.kao a.kn a.kc, .slice a.dao a.dn a.dc] 28))) 0 1 (by rfl) (by rfl) (by rfl) (by unfold maxLen; omega) (by omega) ?_; intro g2 off2 q' cap' w6 h6 k6; have d4 := (h6.pull 2).cell 4; have d6 := (h6.pull 2).cell 6; have d16 := (h6.pull 2).cell 16; have df4 := (h6.pull 2).free 4; have df6 := (h6.pull 2).free 6; have df16 := (h6.pull 2).free 16; simp [cliC] at d4 d6 d16))
 all_goals
   rw [show n + (0 + 1) = C.answers.length + 1 by rw [HN.out]] at h6
   have h7 := Sat.tSnoc (f := fAn) (x := a) h6 rfl
   have h8 := (((h7.pull 2).set 16 (.slice (some ⟨g2, off2, none⟩) q' cap')).set 4 (.int .i64 ((C.at' : Int) + 1))).set 6 (.func (.func 66) #[.pointer (some ⟨c, 0, none⟩)] #[])
   have k8 := (((((k2.drew.alloc _).trans k6).setCell ⟨c, 16, none⟩ (.slice (some ⟨g2, off2, none⟩) q' cap'))).setCell ⟨c, 4, none⟩ (.int .i64 ((C.at' : Int) + 1))).setCell ⟨c, 6, none⟩ (.func (.func 66) #[.pointer (some ⟨c, 0, none⟩)] #[])
   go_wp2_with fail
   go_end0
   have h9 := ((((h8.pull 2).tail.pull 4).tail).pull 2).push 1
   exact ⟨rfl, cliP_I (C := { C with answers := C.answers ++ [a], at' := C.at' + 1, next := .begin }) h9, k8⟩
/-! ### a client's steps -/
theorem cli_ready {w : World} {l : List HProp} {c d s : Nat} {note : Value} {C : CliD} {D : DeskD} {r : RepD} (hs : Sat w (cliP c d s note C :: deskP d D :: l)) (hr : D.reps[C.i]? = some r) (hat : C.at' ≤ 1000000) :
   Calls Tryz.prog 26 #[.pointer (some ⟨c, 0, none⟩)] w fun e w' => e = .returned (.bool (decide (C.at' < C.calls.length) && (!C.waits || r.lies))) ∧ Sat w' (cliP c d s note C :: deskP d D :: l) ∧ Kp w w' := by
 obtain ⟨vc, va, h1⟩ := cliP_E hs
 obtain ⟨ao, cap, hv⟩ := (h1.pull 1).tLen
 obtain ⟨n, hn⟩ : ∃ n, C.calls.length = n := ⟨_, rfl⟩
 rw [hn] at hv ⊢
 subst hv
 have hd := hs.pull 1
 have hhas := fun j => desk_has (hd.drewN j) hr
 by_cases h : C.at' < n
 · have h' : (C.at' : Int) < (n : Int) := by omega
   cases hw : C.waits with
   | false =>
     rw [show (decide (C.at' < n) && (!false || r.lies)) = true by simp [h]]
     have c0 := (h1).cell 0
     have c2 := (h1).cell 2
     have c3 := (h1).cell 3
     have c4 := (h1).cell 4
     have c7 := (h1).cell 7
     simp [cliC, hw] at c0 c2 c3 c4 c7
     clear hhas
     go_enter Tryz.func26, Tryz.ntmps26
     go_wp2_with fail
     go_quiet (fail)
     go_wp2_with fail
     go_ret
     exact ⟨rfl, hs.drewN _, (Kp.refl w).drewN _⟩
   | true =>
     rw [show (decide (C.at' < n) && (!true || r.lies)) = r.lies by simp [h]]
     have c0 := (h1).cell 0
     have c2 := (h1).cell 2
     have c3 := (h1).cell 3
     have c4 := (h1).cell 4
     have c7 := (h1).cell 7
     simp [cliC, hw] at c0 c2 c3 c4 c7
     go_enter Tryz.func26, Tryz.ntmps26
     go_wp2_with fail
     go_quiet ((first | (go_at_call 30; exact quiet_left (hhas _)) | (go_at_call 30; exact quiet_add_left (hhas _))))
     go_wp2_with fail
     go_ret
     exact ⟨rfl, hs.drewN _, (Kp.refl w).drewN _⟩
 · have h' : ¬ (C.at' : Int) < (n : Int) := by omega
   rw [show (decide (C.at' < n) && (!C.waits || r.lies)) = false by simp [h]]
   have c0 := (h1).cell 0
   have c2 := (h1).cell 2
   have c3 := (h1).cell 3
   have c4 := (h1).cell 4
   have c7 := (h1).cell 7
   simp [cliC] at c0 c2 c3 c4 c7
   clear hhas
   go_enter Tryz.func26, Tryz.ntmps26
   go_wp2_with fail
   go_quiet (fail)
   go_wp2_with fail
   go_ret
   exact ⟨rfl, hs.drewN _, (Kp.refl w).drewN _⟩
/-- A step, of one who can. -/
theorem cli_step {w : World} {l : List HProp} {c d s : Nat} {note : Value} {C : CliD} {D : DeskD} {r : RepD} {k : FuncId} {R : World → Prop} (hs : Sat w (cliP c d s note C :: deskP d D :: l)) (hr : D.reps[C.i]? = some r) (hat : C.at' ≤ 1000000)
   (hrd : (decide (C.at' < C.calls.length) && (!C.waits || r.lies)) = true) (hk : cxV c C.next = .func (.func k) #[.pointer (some ⟨c, 0, none⟩)] #[]) (hent : ∀ (args : Array Value) (w : World), (callFunc k args).run Tryz.prog w = .ok (.enter k args) w)
   (hq : ∀ w1, Sat w1 (cliP c d s note C :: deskP d D :: l) → Kp w w1 → Calls Tryz.prog k #[.pointer (some ⟨c, 0, none⟩)] w1 fun e w' => e = .returned (.tuple #[]) ∧ R w') :
   Calls Tryz.prog 21 #[.pointer (some ⟨c, 0, none⟩)] w fun e w' => e = .returned (.tuple #[]) ∧ R w' := by
 have hrdy := cli_ready hs hr hat
 rw [hrd] at hrdy
 go_enter Tryz.func21, Tryz.ntmps21
 go_wp2_with fail
 refine hrdy.mono ?_
 rintro e w1 ⟨rfl, h1, k1⟩
 obtain ⟨vc, va, h2⟩ := cliP_E h1
 have c6 := (h2).cell 6
 simp [cliC, hk] at c6
 have hq1 := hq w1 h1 k1
 go_wp2_with fail
 refine hq1.mono ?_
 rintro e w2 ⟨rfl, h3⟩
 go_wp2_with fail
 go_end0
 exact ⟨rfl, h3⟩
/-- A step, of one who can't. -/
theorem cli_step_not {w : World} {l : List HProp} {c d s : Nat} {note : Value} {C : CliD} {D : DeskD} {r : RepD} (hs : Sat w (cliP c d s note C :: deskP d D :: l)) (hr : D.reps[C.i]? = some r) (hat : C.at' ≤ 1000000)
   (hrd : (decide (C.at' < C.calls.length) && (!C.waits || r.lies)) = false) :
   Calls Tryz.prog 21 #[.pointer (some ⟨c, 0, none⟩)] w fun e w' => e = .returned (.tuple #[]) ∧ Sat w' (cliP c d s note C :: deskP d D :: l) ∧ Kp w w' := by
 have hrdy := cli_ready hs hr hat
 rw [hrd] at hrdy
 go_enter Tryz.func21, Tryz.ntmps21
 go_wp2_with fail
 refine hrdy.mono ?_
 rintro e w1 ⟨rfl, h1, k1⟩
 go_wp2_with fail
 go_end0
 exact ⟨rfl, h1, k1⟩
theorem cli_answers {w : World} {l : List HProp} {c d s : Nat} {note : Value} {C : CliD} (hs : Sat w (cliP c d s note C :: l)) (hal : C.answers.length ≤ 1000000) :
   Calls Tryz.prog 25 #[.pointer (some ⟨c, 0, none⟩)] w fun e w' => ∃ v, e = .returned v ∧ Sat w' (rowT fAn v 28 5 C.answers :: cliP c d s note C :: l) ∧ Kp w w' := by
 obtain ⟨vc, va, h1⟩ := cliP_E hs
 have c16 := (h1).cell 16
 simp [cliC] at c16
 have hcl := clone_answers (h1.pull 2) hal
 go_enter Tryz.func25, Tryz.ntmps25
 go_wp2_with fail
 refine hcl.mono ?_
 rintro e w1 ⟨v, rfl, h2, k2⟩
 go_wp2_with fail
 go_ret
 exact ⟨v, rfl, (cliP_I ((h2.push 3).push 2)).swap, k2⟩
/-! ### how a call begins; what is sent -/
/-- A client's cells that a call's first step looks at. -/
def CliS (c d i at' g off n cap : Nat) (x : CallD) (w : World) : Prop :=
 w.cell? ⟨c, 0, none⟩ = some (.pointer (some ⟨d, 0, none⟩)) ∧ w.cell? ⟨c, 2, none⟩ = some (.int .i64 i) ∧ w.cell? ⟨c, 3, none⟩ = some (.slice (some ⟨g, off, none⟩) n cap) ∧ w.cell? ⟨c, 4, none⟩ = some (.int .i64 at') ∧
 w.cell? ⟨g, off + at' * 5, none⟩ = some (.int .i64 x.kind) ∧ w.cell? ⟨g, off + at' * 5 + 1, none⟩ = some (.int .i64 x.node) ∧ w.cell? ⟨g, off + at' * 5 + 2, none⟩ = some (.int .i64 x.up) ∧ w.cell? ⟨g, off + at' * 5 + 3, none⟩ = some (.string x.text) ∧ w.cell? ⟨g, off + at' * 5 + 4, none⟩ = some (.slice x.dao x.dn x.dc)
theorem cliS {w : World} {l : List HProp} {c d s g off n cap : Nat} {note : Value} {C : CliD} {va : Value} {x : CallD} (hs : Sat w (own c (.cells (cliC c d s note C (.slice (some ⟨g, off, none⟩) n cap) va) 135 (0, 0)) :: rowT fCa (.slice (some ⟨g, off, none⟩) n cap) 24 5 C.calls :: l)) (hx : C.calls[C.at']? = some x) :
   CliS c d C.i C.at' g off n cap x w := by
 have h1 := hs.pull 1
 exact ⟨hs.cell 0, hs.cell 2, hs.cell 3, hs.cell 4, h1.tCell len_fCa C.at' 0 hx rfl, h1.tCell len_fCa C.at' 1 hx rfl, h1.tCell len_fCa C.at' 2 hx rfl, h1.tCell len_fCa C.at' 3 hx rfl, h1.tCell len_fCa C.at' 4 hx rfl⟩
/-- What sending comes to. -/
def SendQ {σ : Type} (k : FuncId) (cap : Array Value) (N : σ → HProp) (st : σ → EvD → σ) (y : σ) (c d s : Nat) (C : CliD) (D' : DeskD) (r : Int) (l : List HProp) (w' : World) : Prop :=
 if r = 0
 then Sat w' (cliP c d s (.func (.func k) #[] cap) { C with waits := true, next := .take } :: N (st y ⟨1, C.i, C.at', 0⟩) :: deskP d D' :: l)
 else Sat w' (cliP c d s (.func (.func k) #[] cap) { C with answers := C.answers ++ [⟨r, 0, 0, none, 0, 0, none, 0, 0, false⟩], at' := C.at' + 1, next := .begin } :: N (st (st y ⟨2, C.i, C.at', 0⟩) ⟨9, C.i, C.at', 0⟩) :: deskP d D' :: l)
def msgOf (C : CliD) (x : CallD) : MsgD := ⟨C.i, C.at', x.kind, x.node, x.up, x.text, x.dao, x.dn, x.dc⟩
theorem cli_send {σ : Type} {k : FuncId} {cap : Array Value} {N : σ → HProp} {st : σ → EvD → σ} {ok : σ → Prop} (hN : NoteOk k cap N st ok) {y : σ} {w : World} {l : List HProp} {c d s : Nat} {C : CliD} {x : CallD} {D D' : DeskD} {r : Int}
   (hy : ok y) (hy2 : ok (st y ⟨2, C.i, C.at', 0⟩)) (hat : C.at' < 1000000) (hal : C.answers.length ≤ 1000000) (hx : C.calls[C.at']? = some x)
   (hs : Sat w (cliP c d s (.func (.func k) #[] cap) C :: N y :: deskP d D :: l))
   (hsend : ∀ (w : World) (l : List HProp), Sat w (deskP d D :: l) → Calls Tryz.prog 52 #[.pointer (some ⟨d, 0, none⟩), aggM (msgOf C x)] w fun e w' => e = .returned (.int .i64 r) ∧ Sat w' (deskP d D' :: l) ∧ Kp w w') :
   Calls Tryz.prog 97 #[.pointer (some ⟨c, 0, none⟩)] w fun e w' => e = .returned (.tuple #[]) ∧ SendQ k cap N st y c d s C D' r l w' ∧ Kp w w' := by
 obtain ⟨vc, va, h1⟩ := cliP_E hs
 rcases (h1.pull 1).tForm with ⟨rfl, hp⟩ | ⟨g, off, cap', rfl⟩
 · rw [hp] at hx; simp at hx
 have S0 := cliS h1 hx
 have HS0 := Lib.hid S0
 have HX := Lib.hid hx
 have hlt := (List.getElem?_eq_some_iff.1 hx).1
 have h0 : (0 : Int) ≤ (C.at' : Int) := by omega
 obtain ⟨n, hn⟩ : ∃ n, C.calls.length = n := ⟨_, rfl⟩
 have hgen : ∀ (w : World) (l : List HProp), Sat w (own c (.cells (cliC c d s (.func (.func k) #[] cap) C (.slice (some ⟨g, off, none⟩) n cap') va) 135 (0, 0)) :: rowT fCa (.slice (some ⟨g, off, none⟩) n cap') 24 5 C.calls :: l) → CliS c d C.i C.at' g off n cap' x w := fun w l h => cliS h HX.out
 have HG := Lib.hid hgen
 rw [hn] at S0 h1 hlt
 have hlt2 : (C.at' : Int) < (n : Int) := by omega
 clear HS0 hgen
 have HS0 := Lib.hid S0
 have hse := hsend _ _ ((h1.pull 4).drew)
 unfold aggM msgOf at hse
 obtain ⟨s0, s2, s3, s4, x0, x1, x2, x3, x4⟩ := S0
 go_enter Tryz.func97, Tryz.ntmps97
 go_wp2_with fail
 go_region_held3 (fun w' => w'.cell? ⟨c, 0, none⟩ = some (.pointer (some ⟨d, 0, none⟩)) ∧ w'.cell? ⟨c, 2, none⟩ = some (.int .i64 C.i) ∧ w'.cell? ⟨c, 3, none⟩ = some (.slice (some ⟨g, off, none⟩) n cap') ∧ w'.cell? ⟨c, 4, none⟩ = some (.int .i64 C.at') ∧
   w'.cell? ⟨g, off + C.at' * 5, none⟩ = some (.int .i64 x.kind) ∧ w'.cell? ⟨g, off + C.at' * 5 + 1, none⟩ = some (.int .i64 x.node) ∧ w'.cell? ⟨g, off + C.at' * 5 + 2, none⟩ = some (.int .i64 x.up) ∧ w'.cell? ⟨g, off + C.at' * 5 + 3, none⟩ = some (.string x.text) ∧ w'.cell? ⟨g, off + C.at' * 5 + 4, none⟩ = some (.slice x.dao x.dn x.dc))
   (first | go_keep | exact HS0.out | exact HG.out _ _ h2.tail) ((go_at_call 52; (with_reducible refine hse.mono ?_); rintro e w1 ⟨rfl, h2, k2⟩))
 have h3 := cliP_I (h2.push 4)
 have k3 := (Kp.refl w).drew.trans k2
 clear hse HS0 HG h2 k2 hs h1 s0 s2 s3 s4 x0 x1 x2 x3 x4 hsend
 by_cases hr0 : r = 0
 · subst hr0
   have htl := cli_tell hN (what := 1) (ver := 0) hy h3
   clear h3
   go_wp2_with fail
   refine htl.mono ?_
   rintro e w2 ⟨rfl, h4, k4⟩
   obtain ⟨vc, va, h5⟩ := cliP_E h4
   have c6 := (h5).cell 6
   have c7 := (h5).cell 7
   have cf6 := (h5).free 6
   have cf7 := (h5).free 7
   simp [cliC] at c6 c7
   have hcl := h5.lt
   have hmf : ∀ (fn : Fn) (first cap : Array Value) (w : World), (Instr.makeFunc fn first cap).run Tryz.prog w = .ok (.func fn first cap) w := fun _ _ _ _ => rfl
   have h6 := (h5.set 7 (.bool true)).set 6 (.func (.func 122) #[.pointer (some ⟨c, 0, none⟩)] #[])
   have k6 := ((k3.trans k4).setCell ⟨c, 7, none⟩ (.bool true)).setCell ⟨c, 6, none⟩ (.func (.func 122) #[.pointer (some ⟨c, 0, none⟩)] #[])
   clear htl
   go_wp2_with fail
   go_end0
   exact ⟨rfl, by unfold SendQ; rw [if_pos rfl]; exact cliP_I (C := { C with waits := true, next := .take }) h6, k6⟩
 · have htl := cli_tell hN (what := 2) (ver := 0) hy h3
   have hen := fun (W : World) (hW : Sat W (cliP c d s (.func (.func k) #[] cap) C :: N (st y ⟨2, C.i, C.at', 0⟩) :: deskP d D' :: l)) => cli_end (a := ⟨r, 0, 0, none, 0, 0, none, 0, 0, false⟩) hN hy2 (by omega) hal hW
   have HEN := Lib.hid hen
   clear h3 hen
   go_wp2_with fail
   refine htl.mono ?_
   rintro e w2 ⟨rfl, h4, k4⟩
   have hen := HEN.out _ h4
   clear HEN h4
   unfold aggA at hen
   go_wp2_with fail
   refine hen.mono ?_
   rintro e w3 ⟨rfl, h5, k5⟩
   go_wp2_with fail
   exact bodyPost_ret (v := .tuple #[]) (by simp [results, Tryz.results97, go_sem]) rfl ⟨rfl, by unfold SendQ; rw [if_neg hr0]; exact h5, (k3.trans k4).trans k5⟩
theorem cli_begin_send {σ : Type} {k : FuncId} {cap : Array Value} {N : σ → HProp} {st : σ → EvD → σ} {ok : σ → Prop} (hN : NoteOk k cap N st ok) {y : σ} {w : World} {l : List HProp} {c d s : Nat} {C : CliD} {x : CallD} {D D' : DeskD} {r : Int}
   (hy : ok y) (hy1 : ok (st y ⟨0, C.i, C.at', 0⟩)) (hy2 : ok (st (st y ⟨0, C.i, C.at', 0⟩) ⟨2, C.i, C.at', 0⟩)) (hat : C.at' < 1000000) (hal : C.answers.length ≤ 1000000) (hx : C.calls[C.at']? = some x)
   (hkd : x.kind = 0 ∨ x.kind = 1 ∨ x.kind = 2 ∨ x.kind = 5 ∨ x.kind = 6 ∨ x.kind = 7)
   (hs : Sat w (cliP c d s (.func (.func k) #[] cap) C :: N y :: deskP d D :: l))
   (hsend : ∀ (w : World) (l : List HProp), Sat w (deskP d D :: l) → Calls Tryz.prog 52 #[.pointer (some ⟨d, 0, none⟩), aggM (msgOf C x)] w fun e w' => e = .returned (.int .i64 r) ∧ Sat w' (deskP d D' :: l) ∧ Kp w w') :
   Calls Tryz.prog 66 #[.pointer (some ⟨c, 0, none⟩)] w fun e w' => e = .returned (.tuple #[]) ∧ SendQ k cap N st (st y ⟨0, C.i, C.at', 0⟩) c d s C D' r l w' ∧ Kp w w' := by
 have htl := cli_tell hN (what := 0) (ver := 0) hy hs
 have hlt := (List.getElem?_eq_some_iff.1 hx).1
 have hse := fun (W : World) (hW : Sat W (cliP c d s (.func (.func k) #[] cap) C :: N (st y ⟨0, C.i, C.at', 0⟩) :: deskP d D :: l)) => cli_send hN hy1 hy2 hat hal hx hW hsend
 have HX := Lib.hid hx
 have HSE := Lib.hid hse
 clear hse hsend hs hx
 go_enter Tryz.func66, Tryz.ntmps66
 go_wp2_with fail
 refine htl.mono ?_
 rintro e w1 ⟨rfl, h1, k1⟩
 clear htl
 obtain ⟨vc, va, h2⟩ := cliP_E h1
 rcases (h2.pull 1).tForm with ⟨rfl, hp⟩ | ⟨g, off, cap', rfl⟩
 · rw [hp] at hlt; simp at hlt
 obtain ⟨n, hn⟩ : ∃ n, C.calls.length = n := ⟨_, rfl⟩
 obtain ⟨s0, s2, s3, s4, x0, x1, x2, x3, x4⟩ := cliS h2 HX.out
 rw [hn] at s3 hlt
 have h0 : (0 : Int) ≤ (C.at' : Int) := by omega
 have hlt2 : (C.at' : Int) < (n : Int) := by omega
 clear h2 hn x1 x2 x3 x4 HX s0 s2
 obtain ⟨kd, hkd2⟩ : ∃ kd, x.kind = kd := ⟨_, rfl⟩
 rw [hkd2] at hkd x0
 go_upto_region 1 with (fail)
 go_quiet (fail)
 have h2 := h1.drewN nq
 have k2 := k1.drewN nq
 generalize w1.drewN nq = w2 at h2 k2 ⊢
 have hse := HSE.out _ h2
 clear HSE h1 k1 s3 s4 x0 h2
 rcases hkd with rfl | rfl | rfl | rfl | rfl | rfl
 all_goals
   go_wp2_with fail
   refine hse.mono ?_
   rintro e w3 ⟨rfl, h3, k3⟩
   go_wp2_with fail
   go_end0
   exact ⟨rfl, h3, k2.trans k3⟩
end Go.Proofs.YtddglbjhhnipgaaGreatDoor

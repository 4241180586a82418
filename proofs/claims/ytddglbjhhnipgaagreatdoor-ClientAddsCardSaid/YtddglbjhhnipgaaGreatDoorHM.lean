import Derived.Test.YtddglbjhhnipgaaGreatDoorHK
import Derived.Test.YtddglbjhhnipgaaGreatDoorIS
import Derived.Test.YtddglbjhhnipgaaGreatDoorGJ
import Derived.Test.YtddglbjhhnipgaaGreatDoorGH
namespace Go.Proofs.YtddglbjhhnipgaaGreatDoor
open Go Go.RowKit
set_option linter.unusedVariables false
set_option linter.unusedSimpArgs false
set_option maxRecDepth 100000
set_option maxHeartbeats 8000000
/-! ### a read's step that loads a node -/
theorem cli_node_more {w : World} {l : List HProp} {c d s mk ms fb : Nat} {note : Value} {C : CliD} {F : FindD} {most : Int} {AK : List SlotK} {FK : List Int} {sl : SlotK}
   (hfd : C.find = some ⟨fb, 0, none⟩) (hne : F.next ≠ .no) (hdn : F.next = .down → ∃ x r, F.names = x :: r) (hS : F.stack.length ≤ 990) (hK : F.kids.length ≤ 11) (l0 : 0 ≤ F.loads) (l1 : F.loads ≤ 1000) (hin : InA AK F.want sl)
   (hs : Sat w (cliP c d s note C :: findP fb F :: own s (.cells (stoC mk ms) 80 (0, 0)) :: mapK mk most AK FK :: l)) :
   Calls Tryz.prog 147 #[.pointer (some ⟨c, 0, none⟩)] w fun e w' => e = .returned (.tuple #[]) ∧ Sat w' (cliP c d s note C :: findP fb (giveF sl.k sl.lh sl.rh F) :: own s (.cells (stoC mk ms) 80 (0, 0)) :: mapK mk most AK FK :: l) ∧ Kp w w' := by
 obtain ⟨vc, va, h1⟩ := cliP_E hs
 have hwa := find_want (h1.pull 3)
 have hmo : moreF F = true := by
   rcases moreF_iff F with ⟨h, _⟩ | ⟨_, h⟩
   · exact h
   · exact absurd h hne
 rw [hmo] at hwa
 have HIN := Lib.hid hin
 have HG := Lib.hid (And.intro hne (And.intro hdn (And.intro hS (And.intro hK (And.intro l0 l1)))))
 have HFD := Lib.hid hfd
 have c15 := (h1).cell 15
 simp [cliC, hfd] at c15
 clear hs h1 hmo hin hne hdn hS hK l0 l1 hfd
 go_enter Tryz.func147, Tryz.ntmps147
 go_wp2_with fail
 refine hwa.mono ?_
 rintro x w2 ⟨rfl, h2, k2⟩
 clear hwa c15
 have h3 := h2.alloc (.cells #[.int .i64 F.want.s, .int .i64 F.want.g] 56)
 have k3 := k2.alloc (.cells #[.int .i64 F.want.s, .int .i64 F.want.g] 56)
 clear h2 k2
 go_upto_region 2 with (fail)
 generalize World.alloc _ _ = w3 at h3 k3 ⊢
 generalize w2.heap.size = B at h3 ⊢
 have b0 := (h3).cell 0
 have b1 := (h3).cell 1
 simp at b0 b1
 have c1 := (h3.pull 2).cell 1
 simp [cliC] at c1
 have s0 := (h3.pull 5).cell 0
 simp [stoC] at s0
 have hbl := h3.lt
 have hcl := (h3.pull 2).lt
 have hsl := (h3.pull 5).lt
 have hL1 := mapK_load ((h3.pull 6).drew) HIN.out
 have hL2 := mapK_load ((((h3.pull 6).alloc (.cells #[.int .i64 0, .string ⟨#[]⟩, .int .i64 0, .bool false, .int .i64 0, .int .i64 0, .int .i64 0, .int .i64 0, .int .i64 0] 75)).swap).drew) HIN.out
 go_cut [4, 5] from 15 (fun nv ov wx => ∃ Q : Nat, nv = .pointer (some ⟨Q, 0, none⟩) ∧ ov = .bool true ∧ Sat wx (own Q (.cells (nodC sl.k sl.v sl.lh sl.rh sl.hi) 75 (0, 0)) :: mapK mk most AK FK :: own B (.cells #[.int .i64 F.want.s, .int .i64 F.want.g] 56 (0, 0)) :: findP fb F :: own c (.cells (cliC c d s note C vc va) 135 (0, 0)) :: rowT fCa vc 24 5 C.calls :: rowT fAn va 28 5 C.answers :: own s (.cells (stoC mk ms) 80 (0, 0)) :: l) ∧ Kp w wx)
 case first =>
   go_region_with ((first | (go_at_call 40; (with_reducible refine hL1.mono ?_); rintro x w5 ⟨rfl, h5, k5⟩) | (go_at_call 40; (with_reducible refine hL2.mono ?_); rintro x w5 ⟨rfl, h5, k5⟩; have q0 := (h5.pull 1).cell 0; have q1 := (h5.pull 1).cell 1; have q2 := (h5.pull 1).cell 2; have q3 := (h5.pull 1).cell 3; have q4 := (h5.pull 1).cell 4; have q5 := (h5.pull 1).cell 5; have q6 := (h5.pull 1).cell 6; have q7 := (h5.pull 1).cell 7; have q8 := (h5.pull 1).cell 8; have qf0 := (h5.pull 1).free 0; have qf1 := (h5.pull 1).free 1; have qf2 := (h5.pull 1).free 2; have qf3 := (h5.pull 1).free 3; have qf4 := (h5.pull 1).free 4; have qf5 := (h5.pull 1).free 5; have qf6 := (h5.pull 1).free 6; have qf7 := (h5.pull 1).free 7; have qf8 := (h5.pull 1).free 8; simp at q0 q1 q2 q3 q4 q5 q6 q7 q8; have qf0 := (h5.pull 1).free 0; have qf1 := (h5.pull 1).free 1; have qf2 := (h5.pull 1).free 2; have qf3 := (h5.pull 1).free 3; have qf4 := (h5.pull 1).free 4; have qf5 := (h5.pull 1).free 5; have qf6 := (h5.pull 1).free 6; have qf7 := (h5.pull 1).free 7; have qf8 := (h5.pull 1).free 8)))
   all_goals
     go_wp2_with fail
     go_meet
     case rel =>
       first
       | (have hq := qf8
          exact ⟨_, rfl, rfl, load2 h5, Kp.putCells [.int .i64 sl.k.up, .string sl.k.name, .int .i64 sl.k.node, .bool sl.v, .int .i64 sl.lh.s, .int .i64 sl.lh.g, .int .i64 sl.rh.s, .int .i64 sl.rh.g, .int .i64 sl.hi] 0 (((k3.alloc _).drew).trans k5)⟩)
       | exact ⟨_, rfl, rfl, load1 h5, (k3.drew.trans k5).alloc _⟩
 case rest =>
   clear hL1 hL2 b0 b1 c1 s0 hbl hsl hcl h3 k3
   obtain ⟨Q, rfl, rfl, h5, k5⟩ := hcut
   have hfd := HFD.out
   have q0 := (h5).cell 0
   have q1 := (h5).cell 1
   have q2 := (h5).cell 2
   have q3 := (h5).cell 3
   have q4 := (h5).cell 4
   have q5 := (h5).cell 5
   have q6 := (h5).cell 6
   have q7 := (h5).cell 7
   have q8 := (h5).cell 8
   simp [nodC] at q0 q1 q2 q3 q4 q5 q6 q7 q8
   have c15 := (h5.pull 4).cell 15
   simp [cliC, hfd] at c15
   have hgi := find_give (k := sl.k) (b := sl.v) (lh := sl.lh) (rh := sl.rh) (hi := sl.hi) ((h5.pull 3).drew) HG.out.1 HG.out.2.1 HG.out.2.2.1 HG.out.2.2.2.1 HG.out.2.2.2.2.1 HG.out.2.2.2.2.2
   unfold nodC at hgi
   clear h5 hfd
   go_upto_region 3 with (fail)
   go_region_with ((go_at_call 41; (with_reducible refine hgi.mono ?_); rintro x w6 ⟨rfl, h6, k6⟩))
   all_goals
     go_wp2_with fail
     exact bodyPost_ret (v := .tuple #[]) (by simp [results, Tryz.results147, go_sem]) rfl ⟨rfl, ((cliP_I ((((((h6.pull 1).tail.pull 2).tail.pull 4).pull 4).pull 4))).pull 3).push 2, k5.drew.trans k6⟩
theorem step_node_more {M : HProp} {w : World} {l : List HProp} {c d s mk ms fb : Nat} {note : Value} {C : CliD} {D : DeskD} {F : FindD} {x : CallD} {r : RepD} {most : Int} {AK : List SlotK} {FK : List Int} {sl : SlotK}
   (hat : C.at' < 1000000) (hx : C.calls[C.at']? = some x) (hr : D.reps[C.i]? = some r) (hw : C.waits = false) (hn' : C.next = .node)
   (hfd : C.find = some ⟨fb, 0, none⟩) (hne : F.next ≠ .no) (hdn : F.next = .down → ∃ x r, F.names = x :: r) (hS : F.stack.length ≤ 990) (hK : F.kids.length ≤ 11) (l0 : 0 ≤ F.loads) (l1 : F.loads ≤ 1000) (hin : InA AK F.want sl)
   (hs : Sat w (cliP c d s note C :: M :: deskP d D :: findP fb F :: own s (.cells (stoC mk ms) 80 (0, 0)) :: mapK mk most AK FK :: l)) :
   Calls Tryz.prog 21 #[.pointer (some ⟨c, 0, none⟩)] w fun e w' => e = .returned (.tuple #[]) ∧ Sat w' (cliP c d s note C :: M :: deskP d D :: findP fb (giveF sl.k sl.lh sl.rh F) :: own s (.cells (stoC mk ms) 80 (0, 0)) :: mapK mk most AK FK :: l) ∧ Kp w w' :=
 step_of (l := findP fb F :: own s (.cells (stoC mk ms) 80 (0, 0)) :: mapK mk most AK FK :: l) hs hr (by omega) (rdy_of hx hw) (by rw [hn']; rfl) Tryz.func147 (by kernel_rfl) (by kernel_rfl) fun w1 h1 => (cli_node_more hfd hne hdn hS hK l0 l1 hin ((((h1.pull 1).push 5).pull 1).push 5)).mono fun e w' ⟨a, b, c⟩ => ⟨a, ((b.pull 5).pull 5).pull 2, c⟩
/-! ### a client's read, step by step, in any phase -/
inductive RdPh | begin | pin | load | node (fb : Nat) (F : FindD) | done (fb : Nat) (F : FindD) (ao : Option Addr) (m cp : Nat)
def rdPiece : RdPh → HProp
 | .begin => emp
 | .pin => emp
 | .load => emp
 | .node fb F => findP fb F
 | .done fb F ao m cp => all [rowT fK (.slice ao m cp) 73 3 F.kids, findP fb F]
structure RdC (i : Nat) (x : CallD) (C : CliD) (at' : Nat) (nx : Cx) (ans : List RepD) (reads : Bool) : Prop where
 calls : C.calls = [x]
 i : C.i = i
 at0 : C.at' = at'
 next : C.next = nx
 waits : C.waits = false
 ans : C.answers = ans
 reads : C.reads = reads
/-- As far as a read is. -/
def RdOk (f : Int → Option Loc) (L : List KidD) (A : List SlotK) (T : HTK) (list : Bool) (v : VerD) (N : Nat) (a e : Int) (i : Nat) (x : CallD) (ph : RdPh) (C : CliD) : Prop := match ph with
 | .begin => RdC i x C 0 .begin [] false
 | .pin => RdC i x C 0 .pin [] false ∧ -1000000000 ≤ C.epoch ∧ C.epoch ≤ 1000000000
 | .load => RdC i x C 0 .load [] false
 | .node fb F => RdC i x C 0 .node [] true ∧ C.find = some ⟨fb, 0, none⟩ ∧ C.v = v ∧ StepI f L A T list v N a e F
 | .done fb F ao m cp => RdC i x C 1 .begin [⟨F.e, F.ver, F.node, ao, m, cp, none, 0, 0, false⟩] false ∧ FinD L T list v N a e F
def RdNext {σ : Type} (st : σ → EvD → σ) (list : Bool) (v : VerD) (path : ByteArray) (i : Nat) (ph : RdPh) (C : CliD) (D : DeskD) (y : σ) (ph' : RdPh) (C' : CliD) (D' : DeskD) (y' : σ) : Prop := match ph with
 | .begin => ph' = .pin ∧ C'.epoch = D.epoch ∧ D' = tick D ∧ y' = st y ⟨0, i, 0, 0⟩
 | .pin => ph' = .load ∧ C'.epoch = C.epoch ∧ D' = { tick D with pins := D.pins.set i (C.epoch + 1) } ∧ y' = y
 | .load => ∃ fb, ph' = .node fb (newFD v list path) ∧ C'.epoch = C.epoch ∧ D' = tick D ∧ y' = st y ⟨8, i, 0, D.n⟩
 | .node fb F => (F.next ≠ .no ∧ ∃ F', ph' = .node fb F' ∧ F'.loads = F.loads + 1 ∧ C' = C ∧ D' = D ∧ y' = y) ∨ (F.next = .no ∧ ∃ ao m cp, ph' = .done fb F ao m cp ∧ D' = { tick D with pins := D.pins.set i 0 } ∧ y' = st y ⟨9, i, 0, F.ver⟩)
 | .done _ _ _ _ _ => False
theorem read_step {σ : Type} {k : FuncId} {cap : Array Value} {N : σ → HProp} {st : σ → EvD → σ} {ok : σ → Prop} (hN : NoteOk k cap N st ok) {y : σ} {W w : World} {l : List HProp} {c d s mk ms : Nat} {most : Int} {AK : List SlotK} {FK : List Int}
   {f : Int → Option Loc} {L : List KidD} {T : HTK} {list : Bool} {v : VerD} {Nn : Nat} {a e : Int} {path : ByteArray} {i : Nat} {x : CallD} {ph : RdPh} {C : CliD} {D : DeskD} {r : RepD}
   (hT : Lib.Utf8Tabs (validS_ren.g 3) (validS_ren.g 4) W) (hB : BaseV f L AK T v) (hL : L.length ≤ 8) (hT8 : T.size ≤ 8) (hnew : ∃ N', N' = Nn ∧ StepI f L AK T list v Nn a e (newFD v list path))
   (hy : ok y) (hkd : x.kind = if list then 4 else 3) (htx : x.text = path) (hr : D.reps[i]? = some r) (hi : i < D.pins.length) (hD0 : 0 ≤ D.acc) (hD1 : D.acc < 1000000000) (he0 : -1000000000 ≤ D.epoch) (he1 : D.epoch ≤ 1000000000)
   (hroot : ph = .load → verOf D = v) (hok : RdOk f L AK T list v Nn a e i x ph C) (hnd : ∀ fb F ao m cp, ph ≠ .done fb F ao m cp)
   (hs : Sat w (cliP c d s (.func (.func k) #[] cap) C :: N y :: deskP d D :: rdPiece ph :: oldH W :: own s (.cells (stoC mk ms) 80 (0, 0)) :: mapK mk most AK FK :: l)) :
   Calls Tryz.prog 21 #[.pointer (some ⟨c, 0, none⟩)] w fun z w' => z = .returned (.tuple #[]) ∧ (∃ ph' C' D' y', RdOk f L AK T list v Nn a e i x ph' C' ∧ RdNext st list v path i ph C D y ph' C' D' y' ∧
     Sat w' (cliP c d s (.func (.func k) #[] cap) C' :: N y' :: deskP d D' :: rdPiece ph' :: oldH W :: own s (.cells (stoC mk ms) 80 (0, 0)) :: mapK mk most AK FK :: l)) ∧ Kp w w' := by
 have hk34 : x.kind = 3 ∨ x.kind = 4 := by cases list <;> simp_all
 have hkl : (x.kind == 4) = list := by cases list <;> simp_all
 cases ph with
 | begin =>
   have hc : RdC i x C 0 .begin [] false := hok
   have hx : C.calls[C.at']? = some x := by rw [hc.calls, hc.at0]; rfl
   have hr' : D.reps[C.i]? = some r := by rw [hc.i]; exact hr
   refine (step_begin_read hN hy (by rw [hc.at0]; decide) hx hk34 hD0 hD1 hr' hc.waits hc.next hs).mono ?_
   rintro z w1 ⟨rfl, h1, k1⟩
   refine ⟨rfl, ⟨.pin, _, _, _, ?_, ?_, h1⟩, k1⟩
   · exact ⟨⟨hc.calls, hc.i, hc.at0, rfl, hc.waits, hc.ans, hc.reads⟩, he0, he1⟩
   · refine ⟨rfl, rfl, rfl, ?_⟩
     rw [hc.i, hc.at0]
     rfl
 | pin =>
   obtain ⟨hc, e0, e1⟩ := hok
   have hx : C.calls[C.at']? = some x := by rw [hc.calls, hc.at0]; rfl
   have hr' : D.reps[C.i]? = some r := by rw [hc.i]; exact hr
   refine (step_pin (by rw [hc.at0]; decide) (by rw [hc.i]; exact hi) hD0 hD1 e0 e1 hx hr' hc.waits hc.next hs).mono ?_
   rintro z w1 ⟨rfl, h1, k1⟩
   refine ⟨rfl, ⟨.load, _, _, _, ?_, ?_, h1⟩, k1⟩
   · exact ⟨hc.calls, hc.i, hc.at0, rfl, hc.waits, hc.ans, hc.reads⟩
   · refine ⟨rfl, rfl, ?_, rfl⟩
     rw [hc.i]
 | load =>
   have hc : RdC i x C 0 .load [] false := hok
   have hx : C.calls[C.at']? = some x := by rw [hc.calls, hc.at0]; rfl
   have hr' : D.reps[C.i]? = some r := by rw [hc.i]; exact hr
   have hv := hroot rfl
   obtain ⟨_, _, hst⟩ := hnew
   refine (step_load hN hy (by rw [hc.at0]; decide) hx hD0 hD1 hr' hc.waits hc.next (F := newFD v list path) ((hs.pull 3).tail) ?_).mono ?_
   · intro W' l' hW'
     rw [hkl, htx, hv]
     exact find_new hT hW'
   rintro z w1 ⟨rfl, ⟨fb, h1⟩, k1⟩
   refine ⟨rfl, ⟨.node fb (newFD v list path), _, _, _, ?_, ?_, h1⟩, k1⟩
   · exact ⟨⟨hc.calls, hc.i, hc.at0, rfl, hc.waits, hc.ans, rfl⟩, rfl, hv, hst⟩
   · refine ⟨fb, rfl, rfl, rfl, ?_⟩
     rw [hc.i, hc.at0]
     rfl
 | node fb F =>
   obtain ⟨hc, hfd, hcv, hI⟩ := hok
   have hx : C.calls[C.at']? = some x := by rw [hc.calls, hc.at0]; rfl
   have hr' : D.reps[C.i]? = some r := by rw [hc.i]; exact hr
   rcases moreF_iff F with ⟨_, hne⟩ | ⟨_, hno⟩
   · obtain ⟨b1, b2, b3, sl, g1, g2, g3, g4⟩ := step_fin hB hL hT8 hI hne
     refine (step_node_more (by rw [hc.at0]; decide) hx hr' hc.waits hc.next hfd hne g2 b2 b3 hI.l0 (by omega) g1 ((hs.pull 4).push 6)).mono ?_
     rintro z w1 ⟨rfl, h1, k1⟩
     exact ⟨rfl, ⟨.node fb (giveF sl.k sl.lh sl.rh F), C, D, y, ⟨hc, hfd, hcv, g3⟩, .inl ⟨hne, _, rfl, g4, rfl, rfl, rfl⟩, (h1.pull 6).push 4⟩, k1⟩
   · have hD := hI.end hno
     have hkk := hI.fin.kids_len
     refine (step_node_last hN hy (by rw [hc.at0]; decide) (by rw [hc.ans]; simp) hfd hno (by omega) (by rw [hc.i]; exact hi) hD0 hD1 hx hr' hc.waits hc.next hs).mono ?_
     rintro z w1 ⟨rfl, ⟨ao, m, cp, h1⟩, k1⟩
     refine ⟨rfl, ⟨.done fb F ao m cp, _, _, _, ?_, ?_, (Sat.allI (l := [_, _]) ((h1.pull 4).pull 4)).push 3⟩, k1⟩
     · refine ⟨⟨hc.calls, hc.i, ?_, rfl, hc.waits, ?_, rfl⟩, hD⟩
       · show C.at' + 1 = 1
         rw [hc.at0]
       · show C.answers ++ _ = _
         rw [hc.ans]
         rfl
     · refine .inr ⟨hno, ao, m, cp, rfl, ?_, ?_⟩
       · rw [hc.i]
       · rw [hc.i, hc.at0]
         rfl
 | done fb F ao m cp => exact absurd rfl (hnd fb F ao m cp)
/-! ### a read's steps, counted; its pin -/
def RdK (k : Nat) : RdPh → Prop
 | .begin => k = 0
 | .pin => k = 1
 | .load => k = 2
 | .node _ F => (k : Int) = 3 + F.loads ∧ 0 ≤ F.loads ∧ F.loads ≤ 81
 | .done _ F _ _ _ => (k : Int) = 4 + F.loads ∧ 0 ≤ F.loads ∧ F.loads ≤ 81
theorem RdK.le {k : Nat} {ph : RdPh} (h : RdK k ph) : k ≤ 85 := by
 cases ph with
 | begin => have : k = 0 := h; omega
 | pin => have : k = 1 := h; omega
 | load => have : k = 2 := h; omega
 | node fb F => obtain ⟨a, b, c⟩ := h; omega
 | done fb F ao m cp => obtain ⟨a, b, c⟩ := h; omega
def isDone : RdPh → Bool | .done _ _ _ _ _ => true | _ => false
def pinOf (first : Int) : RdPh → Int | .begin => 0 | .pin => 0 | .load => first + 1 | .node _ _ => first + 1 | .done _ _ _ _ _ => 0
theorem rdk_next {σ : Type} {st : σ → EvD → σ} {f : Int → Option Loc} {L : List KidD} {A : List SlotK} {T : HTK} {list : Bool} {v : VerD} {N : Nat} {a e : Int} {path : ByteArray} {i k : Nat} {x : CallD} {ph ph' : RdPh} {C C' : CliD} {D D' : DeskD} {y y' : σ}
   (hB : BaseV f L A T v) (hL : L.length ≤ 8) (hT : T.size ≤ 8) (hok : RdOk f L A T list v N a e i x ph C) (hk : RdK k ph) (hn : RdNext st list v path i ph C D y ph' C' D' y') : RdK (k + 1) ph' := by
 cases ph with
 | begin => obtain ⟨rfl, _⟩ := hn; have h : k = 0 := hk; show k + 1 = 1; omega
 | pin => obtain ⟨rfl, _⟩ := hn; have h : k = 1 := hk; show k + 1 = 2; omega
 | load =>
   obtain ⟨fb, rfl, _⟩ := hn
   have h : k = 2 := hk
   have := newFD_loads v list path
   show ((k + 1 : Nat) : Int) = 3 + (newFD v list path).loads ∧ _
   omega
 | node fb F =>
   obtain ⟨a1, a2, a3⟩ := hk
   rcases hn with ⟨hne, F', rfl, hl, _⟩ | ⟨hno, ao, m, cp, rfl, _⟩
   · obtain ⟨_, _, _, hI⟩ := hok
     obtain ⟨b1, _⟩ := step_fin hB hL hT hI hne
     show ((k + 1 : Nat) : Int) = 3 + F'.loads ∧ 0 ≤ F'.loads ∧ F'.loads ≤ 81
     push_cast
     omega
   · show ((k + 1 : Nat) : Int) = 4 + F.loads ∧ _
     push_cast
     omega
 | done fb F ao m cp => exact hn.elim
/-- What a step does to the desk: no more than the clock, and its own pin. -/
theorem rd_desk {σ : Type} {st : σ → EvD → σ} {list : Bool} {v : VerD} {path : ByteArray} {i : Nat} {ph ph' : RdPh} {C C' : CliD} {D D' : DeskD} {y y' : σ}
   (hn : RdNext st list v path i ph C D y ph' C' D' y') : verOf D' = verOf D ∧ D'.reps = D.reps ∧ D'.epoch = D.epoch ∧ D'.most = D.most ∧ D'.msgs = D.msgs ∧ D'.closed = D.closed ∧ D'.pins.length = D.pins.length ∧ (∀ j, j ≠ i → D'.pins[j]? = D.pins[j]?) ∧ D.acc ≤ D'.acc ∧ D'.acc ≤ D.acc + 1 := by
 cases ph with
 | begin => obtain ⟨_, _, rfl, _⟩ := hn; exact ⟨rfl, rfl, rfl, rfl, rfl, rfl, rfl, fun _ _ => rfl, by show D.acc ≤ D.acc + 1; omega, Int.le_refl _⟩
 | pin => obtain ⟨_, _, rfl, _⟩ := hn; exact ⟨rfl, rfl, rfl, rfl, rfl, rfl, by simp [tick], fun j hj => by simp [tick, List.getElem?_set, Ne.symm hj], by show D.acc ≤ D.acc + 1; omega, Int.le_refl _⟩
 | load => obtain ⟨fb, _, _, rfl, _⟩ := hn; exact ⟨rfl, rfl, rfl, rfl, rfl, rfl, rfl, fun _ _ => rfl, by show D.acc ≤ D.acc + 1; omega, Int.le_refl _⟩
 | node fb F =>
   rcases hn with ⟨_, _, _, _, _, rfl, _⟩ | ⟨_, ao, m, cp, _, rfl, _⟩
   · exact ⟨rfl, rfl, rfl, rfl, rfl, rfl, rfl, fun _ _ => rfl, Int.le_refl _, by omega⟩
   · exact ⟨rfl, rfl, rfl, rfl, rfl, rfl, by simp [tick], fun j hj => by simp [tick, List.getElem?_set, Ne.symm hj], by show D.acc ≤ D.acc + 1; omega, Int.le_refl _⟩
 | done fb F ao m cp => exact hn.elim
/-- The read's own pin, and its epoch. -/
structure PinI (i : Nat) (first : Int) (ph : RdPh) (C : CliD) (D : DeskD) : Prop where
 pin : D.pins[i]? = some (pinOf first ph)
 ep : ph = .pin → C.epoch = first
theorem PinI.next {σ : Type} {st : σ → EvD → σ} {list : Bool} {v : VerD} {path : ByteArray} {i : Nat} {first first' : Int} {ph ph' : RdPh} {C C' : CliD} {D D' : DeskD} {y y' : σ}
   (h : PinI i first ph C D) (hf : ph = .begin → first' = D.epoch) (hf2 : ph ≠ .begin → first' = first) (hn : RdNext st list v path i ph C D y ph' C' D' y') : PinI i first' ph' C' D' := by
 obtain ⟨hp, he⟩ := h
 have hi : i < D.pins.length := (List.getElem?_eq_some_iff.1 hp).1
 cases ph with
 | begin =>
   obtain ⟨rfl, h1, rfl, _⟩ := hn
   exact ⟨hp, fun _ => by rw [h1, hf rfl]⟩
 | pin =>
   obtain ⟨rfl, h1, rfl, _⟩ := hn
   refine ⟨?_, fun h => by cases h⟩
   show (D.pins.set i (C.epoch + 1))[i]? = some (first' + 1)
   rw [List.getElem?_set_self hi, he rfl, hf2 (by simp)]
 | load =>
   obtain ⟨fb, rfl, _, rfl, _⟩ := hn
   refine ⟨?_, fun h => by cases h⟩
   rw [show first' = first from hf2 (by simp)]
   exact hp
 | node fb F =>
   rcases hn with ⟨_, F', rfl, _, _, rfl, _⟩ | ⟨_, ao, m, cp, rfl, rfl, _⟩
   · refine ⟨?_, fun h => by cases h⟩
     rw [show first' = first from hf2 (by simp)]
     exact hp
   · refine ⟨?_, fun h => by cases h⟩
     show (D.pins.set i 0)[i]? = some 0
     rw [List.getElem?_set_self hi]
 | done fb F ao m cp => exact hn.elim
theorem rdk_zero {k : Nat} {ph : RdPh} (h : RdK k ph) : k = 0 ↔ ph = .begin := by
 cases ph with
 | begin => exact ⟨fun _ => rfl, fun _ => h⟩
 | pin => have : k = 1 := h; exact ⟨fun e => by omega, fun e => by cases e⟩
 | load => have : k = 2 := h; exact ⟨fun e => by omega, fun e => by cases e⟩
 | node fb F => obtain ⟨a, b, c⟩ := h; exact ⟨fun e => by omega, fun e => by cases e⟩
 | done fb F ao m cp => obtain ⟨a, b, c⟩ := h; exact ⟨fun e => by omega, fun e => by cases e⟩
theorem rd_case {σ : Type} {st : σ → EvD → σ} {list : Bool} {v : VerD} {path : ByteArray} {i k : Nat} {ph ph' : RdPh} {C C' : CliD} {D D' : DeskD} {y y' : σ} (hk : RdK k ph) (hn : RdNext st list v path i ph C D y ph' C' D' y') (first : Int) :
   (k = 0 ∧ isDone ph' = false ∧ pinOf first ph' = 0) ∨ (0 < k ∧ isDone ph' = false ∧ pinOf first ph' = first + 1) ∨ (0 < k ∧ isDone ph' = true ∧ pinOf first ph' = 0) := by
 cases ph with
 | begin => obtain ⟨rfl, _⟩ := hn; exact .inl ⟨hk, rfl, rfl⟩
 | pin => obtain ⟨rfl, _⟩ := hn; have : k = 1 := hk; exact .inr (.inl ⟨by omega, rfl, rfl⟩)
 | load => obtain ⟨fb, rfl, _⟩ := hn; have : k = 2 := hk; exact .inr (.inl ⟨by omega, rfl, rfl⟩)
 | node fb F =>
   obtain ⟨a, b, c⟩ := hk
   rcases hn with ⟨_, F', rfl, _⟩ | ⟨_, ao, m, cp, rfl, _⟩
   · exact .inr (.inl ⟨by omega, rfl, rfl⟩)
   · exact .inr (.inr ⟨by omega, rfl, rfl⟩)
 | done fb F ao m cp => exact hn.elim
theorem RdOk.rdc {f : Int → Option Loc} {L : List KidD} {A : List SlotK} {T : HTK} {list : Bool} {v : VerD} {N : Nat} {a e : Int} {i : Nat} {x : CallD} {ph : RdPh} {C : CliD} (h : RdOk f L A T list v N a e i x ph C) :
   C.calls = [x] ∧ C.i = i ∧ C.at' = (if isDone ph = true then 1 else 0) ∧ C.waits = false ∧ C.answers.length = (if isDone ph = true then 1 else 0) := by
 cases ph with
 | begin => have h : RdC i x C 0 .begin [] false := h; exact ⟨h.calls, h.i, h.at0, h.waits, by rw [h.ans]; rfl⟩
 | pin => have h : RdC i x C 0 .pin [] false := h.1; exact ⟨h.calls, h.i, h.at0, h.waits, by rw [h.ans]; rfl⟩
 | load => have h : RdC i x C 0 .load [] false := h; exact ⟨h.calls, h.i, h.at0, h.waits, by rw [h.ans]; rfl⟩
 | node fb F => have h : RdC i x C 0 .node [] true := h.1; exact ⟨h.calls, h.i, h.at0, h.waits, by rw [h.ans]; rfl⟩
 | done fb F ao m cp => have h := h.1; exact ⟨h.calls, h.i, h.at0, h.waits, by rw [h.ans]; rfl⟩
theorem rd_ready {f : Int → Option Loc} {L : List KidD} {A : List SlotK} {T : HTK} {list : Bool} {v : VerD} {N : Nat} {a e : Int} {i : Nat} {x : CallD} {ph : RdPh} {C : CliD} {r : RepD} (h : RdOk f L A T list v N a e i x ph C) :
   (decide (C.at' < C.calls.length) && (!C.waits || r.lies)) = !isDone ph := by
 obtain ⟨a1, a2, a3, a4, a5⟩ := h.rdc
 rw [a1, a3, a4]
 cases isDone ph <;> rfl
theorem rd_begin {f : Int → Option Loc} {L : List KidD} {A : List SlotK} {T : HTK} {list : Bool} {v : VerD} {N : Nat} {a e : Int} (i : Nat) (x : CallD) : RdOk f L A T list v N a e i x .begin (newC i [x]) := ⟨rfl, rfl, rfl, rfl, rfl, rfl, rfl⟩
/-! ### one who is told, and does nothing -/
theorem note_pins : NoteOk 54 #[] (fun _ : Unit => emp) (fun _ _ => ()) (fun _ => True) where
 ent := enters_ofC Tryz.func54 (by kernel_rfl) (by kernel_rfl)
 call := by
   intro x ev w l _ hs
   have hB := hs.alloc (.cells #[.int .i64 ev.what, .int .i64 ev.client, .int .i64 ev.call, .int .i64 ev.version] 41)
   have kB := (Kp.refl w).alloc (.cells #[.int .i64 ev.what, .int .i64 ev.client, .int .i64 ev.call, .int .i64 ev.version] 41)
   clear hs
   unfold aggEv
   go_enter Tryz.func54, Tryz.ntmps54
   go_wp2_with fail
   go_end0
   exact ⟨rfl, hB.tail, kB⟩
theorem note_bound : NoteOk 48 #[] (fun _ : Unit => emp) (fun _ _ => ()) (fun _ => True) where
 ent := enters_ofC Tryz.func48 (by kernel_rfl) (by kernel_rfl)
 call := by
   intro x ev w l _ hs
   have hB := hs.alloc (.cells #[.int .i64 ev.what, .int .i64 ev.client, .int .i64 ev.call, .int .i64 ev.version] 41)
   have kB := (Kp.refl w).alloc (.cells #[.int .i64 ev.what, .int .i64 ev.client, .int .i64 ev.call, .int .i64 ev.version] 41)
   clear hs
   unfold aggEv
   go_enter Tryz.func48, Tryz.ntmps48
   go_wp2_with fail
   go_end0
   exact ⟨rfl, hB.tail, kB⟩
/-! ### how many names a path has, by its strokes -/
def namesC (path : ByteArray) (i : Nat) : Nat := if path = ⟨#[47]⟩ then 0 else (path.data.toList.take i).count 47
theorem namesC_zero (path : ByteArray) : namesC path 0 = 0 := by unfold namesC; split <;> simp
theorem namesC_succ {path : ByteArray} {i : Nat} (h : i < path.size) : namesC path (i + 1) = namesC path i + (if path.get! i = 47 ∧ path ≠ ⟨#[47]⟩ then 1 else 0) := by
 unfold namesC
 by_cases hp : path = ⟨#[47]⟩
 · simp [hp]
 · have hb := byte_at path i h
   rw [List.take_add_one, hb]
   by_cases h47 : path.get! i = 47
   · simp [hp, h47]
   · simp [hp, h47]
theorem namesC_le (path : ByteArray) (i : Nat) : namesC path i ≤ i := by
 unfold namesC
 split
 · exact Nat.zero_le _
 · exact Nat.le_trans List.count_le_length (by rw [List.length_take]; omega)
theorem namesC_path {path : ByteArray} {nms : List ByteArray} (h : pathL path = some nms) : nms.length ≤ namesC path path.size := by
 unfold pathL at h
 split at h
 · cases h
 · split at h
   · cases h
   · rename_i b r hd
     split at h
     · cases h
     · rename_i hb
       have hb : b = 47 := by simpa using hb
       split at h
       · cases h; exact Nat.zero_le _
       · rename_i hr
         split at h
         · cases h
           have hp : path ≠ ⟨#[47]⟩ := fun e => by
             rw [e] at hd
             have hd : [(47 : UInt8)] = b :: r := hd
             rw [List.cons.injEq] at hd
             exact hr hd.2.symm
           unfold namesC
           rw [if_neg hp]
           have hz : path.size = path.data.toList.length := (list_size path).symm
           rw [hz, List.take_length, hd, List.length_map, splitS_len, hb]
           show Lib.countByte r 47 + 1 ≤ _
           rw [List.count_cons_self]
           exact Nat.le_refl _
         · cases h
theorem isDone_ex {ph : RdPh} (h : isDone ph = true) : ∃ fb F ao m cp, ph = .done fb F ao m cp := by
 cases ph with
 | done fb F ao m cp => exact ⟨fb, F, ao, m, cp, rfl⟩
 | begin => cases h
 | pin => cases h
 | load => cases h
 | node fb F => cases h
theorem cliLo {w : World} {l : List HProp} {c d s : Nat} {note : Value} {C : CliD} {vc va : Value} (hs : Sat w (own c (.cells (cliC c d s note C vc va) 135 (0, 0)) :: l)) : w.cell? ⟨c, 9, none⟩ = some (.int .i64 C.v.n) ∧ w.cell? ⟨c, 10, none⟩ = some (.int .i64 C.v.ks) ∧ w.cell? ⟨c, 11, none⟩ = some (.int .i64 C.v.kg) ∧ w.cell? ⟨c, 12, none⟩ = some (.int .i64 C.v.ss) ∧ w.cell? ⟨c, 13, none⟩ = some (.int .i64 C.v.sg) ∧ w.cell? ⟨c, 14, none⟩ = some (.bool C.reads) := ⟨hs.cell 9, hs.cell 10, hs.cell 11, hs.cell 12, hs.cell 13, hs.cell 14⟩
theorem cli_loaded {w : World} {l : List HProp} {c d s : Nat} {note : Value} {C : CliD} (hs : Sat w (cliP c d s note C :: l)) :
   Calls Tryz.prog 57 #[.pointer (some ⟨c, 0, none⟩)] w fun e w' => e = .returned (.tuple #[aggV C.v, .bool C.reads]) ∧ Sat w' (cliP c d s note C :: l) ∧ Kp w w' := by
 obtain ⟨vc, va, h1⟩ := cliP_E hs
 have hB := h1.alloc (.cells #[.int .i64 0, .int .i64 0, .int .i64 0, .int .i64 0, .int .i64 0] 58)
 have kB := (Kp.refl w).alloc (.cells #[.int .i64 0, .int .i64 0, .int .i64 0, .int .i64 0, .int .i64 0] 58)
 have hcl := h1.lt
 clear hs h1
 unfold aggV
 go_enter Tryz.func57, Tryz.ntmps57
 go_upto_region 1 with (fail)
 generalize World.alloc _ _ = w1 at hB kB ⊢
 generalize w.heap.size = B at hB hcl ⊢
 have hcl2 := (hB.pull 1).lt
 have b0 := (hB).cell 0
 have b1 := (hB).cell 1
 have b2 := (hB).cell 2
 have b3 := (hB).cell 3
 have b4 := (hB).cell 4
 have bf0 := (hB).free 0
 have bf1 := (hB).free 1
 have bf2 := (hB).free 2
 have bf3 := (hB).free 3
 have bf4 := (hB).free 4
 simp at b0 b1 b2 b3 b4
 have hne := hB.ne
 have hne' := hne.symm
 have S0 := cliLo (hB.pull 1)
 have HS0 := Lib.hid S0
 have SH := cliLo (hB.pull 1).drew
 have SG := fun (x0 x1 x2 x3 x4 : Value) => cliLo ((((((hB.set 0 x0).set 1 x1).set 2 x2).set 3 x3).set 4 x4).pull 1)
 have SG2 := fun (x0 x1 x2 x3 x4 : Value) => cliLo ((((((hB.set 0 x0).set 1 x1).set 2 x2).set 3 x3).set 4 x4).pull 1).drew
 have g1 := (((((hB.set 0 (.int .i64 C.v.n)).set 1 (.int .i64 C.v.ks)).set 2 (.int .i64 C.v.kg)).set 3 (.int .i64 C.v.ss)).set 4 (.int .i64 C.v.sg)).drew
 have q1 := (((((kB.setCell ⟨B, 0, none⟩ (.int .i64 C.v.n)).setCell ⟨B, 1, none⟩ (.int .i64 C.v.ks)).setCell ⟨B, 2, none⟩ (.int .i64 C.v.kg)).setCell ⟨B, 3, none⟩ (.int .i64 C.v.ss)).setCell ⟨B, 4, none⟩ (.int .i64 C.v.sg)).drew
 clear S0
 go_region_held3 (fun w' => w'.cell? ⟨c, 9, none⟩ = some (.int .i64 C.v.n) ∧ w'.cell? ⟨c, 10, none⟩ = some (.int .i64 C.v.ks) ∧ w'.cell? ⟨c, 11, none⟩ = some (.int .i64 C.v.kg) ∧ w'.cell? ⟨c, 12, none⟩ = some (.int .i64 C.v.ss) ∧ w'.cell? ⟨c, 13, none⟩ = some (.int .i64 C.v.sg) ∧ w'.cell? ⟨c, 14, none⟩ = some (.bool C.reads)) (first | with_reducible exact HS0.out | with_reducible exact SH | with_reducible exact SG _ _ _ _ _ | with_reducible exact SG2 _ _ _ _ _ | fail) ((fail))
 all_goals
   clear SH SG SG2 HS0 b0 bf0 b1 bf1 b2 bf2 b3 bf3 b4 bf4
   generalize World.drew _ = w2 at g1 q1 ⊢
   have b0 := (g1).cell 0
   have b1 := (g1).cell 1
   have b2 := (g1).cell 2
   have b3 := (g1).cell 3
   have b4 := (g1).cell 4
   simp at b0 b1 b2 b3 b4
   have HG := Lib.hid (cliP_I g1.tail)
   clear g1
   go_wp2_with fail
   refine bodyPost_ret (v := .tuple #[.agg #[.int .i64 C.v.n, .int .i64 C.v.ks, .int .i64 C.v.kg, .int .i64 C.v.ss, .int .i64 C.v.sg], .bool C.reads]) (by simp [results, Tryz.results57, go_sem, b0, b1, b2, b3, b4]) rfl ?_
   exact ⟨rfl, HG.out, q1⟩
/-! ### what a read does, step by step -/
theorem rd_acts {σ : Type} {st : σ → EvD → σ} {f : Int → Option Loc} {L : List KidD} {A : List SlotK} {T : HTK} {list : Bool} {v : VerD} {N : Nat} {a e : Int} {path : ByteArray} {i k : Nat} {x : CallD} {ph ph' : RdPh} {C C' : CliD} {D D' : DeskD} {y y' : σ}
   (hk : RdK k ph) (hok' : RdOk f L A T list v N a e i x ph' C') (hn : RdNext st list v path i ph C D y ph' C' D' y') (first : Int) :
   (k = 0 ∧ D'.acc = D.acc + 1 ∧ pinOf first ph' = 0 ∧ C'.reads = false) ∨ (k = 1 ∧ D'.acc = D.acc + 1 ∧ pinOf first ph' = first + 1 ∧ C'.reads = false) ∨
   (k = 2 ∧ D'.acc = D.acc + 1 ∧ pinOf first ph' = first + 1 ∧ C'.reads = true ∧ C'.v = v ∧ isDone ph' = false) ∨
   (3 ≤ k ∧ D'.acc = D.acc ∧ pinOf first ph' = first + 1 ∧ C'.reads = true ∧ C'.v = v ∧ isDone ph' = false) ∨
   (3 ≤ k ∧ D'.acc = D.acc + 1 ∧ pinOf first ph' = 0 ∧ C'.reads = false ∧ isDone ph' = true) := by
 cases ph with
 | begin => obtain ⟨rfl, _, rfl, _⟩ := hn; exact .inl ⟨hk, rfl, rfl, hok'.1.reads⟩
 | pin =>
   obtain ⟨rfl, _, rfl, _⟩ := hn
   have h : RdC i x C' 0 .load [] false := hok'
   exact .inr (.inl ⟨hk, rfl, rfl, h.reads⟩)
 | load => obtain ⟨fb, rfl, _, rfl, _⟩ := hn; exact .inr (.inr (.inl ⟨hk, rfl, rfl, hok'.1.reads, hok'.2.2.1, rfl⟩))
 | node fb F =>
   obtain ⟨a, b, c⟩ := hk
   rcases hn with ⟨_, F', rfl, _, _, rfl, _⟩ | ⟨_, ao, m, cp, rfl, rfl, _⟩
   · exact .inr (.inr (.inr (.inl ⟨by omega, rfl, rfl, hok'.1.reads, hok'.2.2.1, rfl⟩)))
   · exact .inr (.inr (.inr (.inr ⟨by omega, rfl, rfl, hok'.1.reads, rfl⟩)))
 | done fb F ao m cp => exact hn.elim
def rdLog (i : Nat) (n : Int) : RdPh → List EvD
 | .begin => []
 | .pin => [⟨0, i, 0, 0⟩]
 | .load => [⟨0, i, 0, 0⟩]
 | .node _ _ => [⟨0, i, 0, 0⟩, ⟨8, i, 0, n⟩]
 | .done _ F _ _ _ => [⟨0, i, 0, 0⟩, ⟨8, i, 0, n⟩, ⟨9, i, 0, F.ver⟩]
theorem rdLog_len (i : Nat) (n : Int) (ph : RdPh) : (rdLog i n ph).length ≤ 3 := by cases ph <;> simp [rdLog]
theorem rd_log {list : Bool} {v : VerD} {path : ByteArray} {i : Nat} {ph ph' : RdPh} {C C' : CliD} {D D' : DeskD} {y' : List EvD} {n : Int} (hD : D.n = n)
   (hn : RdNext (fun (es : List EvD) e => es ++ [e]) list v path i ph C D (rdLog i n ph) ph' C' D' y') : y' = rdLog i n ph' := by
 cases ph with
 | begin => obtain ⟨rfl, _, _, rfl⟩ := hn; rfl
 | pin => obtain ⟨rfl, _, _, rfl⟩ := hn; rfl
 | load => obtain ⟨fb, rfl, _, _, rfl⟩ := hn; rw [hD]; rfl
 | node fb F =>
   rcases hn with ⟨_, F', rfl, _, _, _, rfl⟩ | ⟨_, ao, m, cp, rfl, _, rfl⟩ <;> rfl
 | done fb F ao m cp => exact hn.elim
end Go.Proofs.YtddglbjhhnipgaaGreatDoor

import Derived.Test.YtddglbjhhnipgaaGreatDoorHM
import Derived.Test.YtddglbjhhnipgaaGreatDoorHK
import Derived.Test.YtddglbjhhnipgaaGreatDoorIT
import Derived.Test.YtddglbjhhnipgaaGreatDoorJA
import Derived.Test.YtddglbjhhnipgaaGreatDoorIU
import Derived.Deep.RegionHeld3
import Derived.Test.YtddglbjhhnipgaaGreatDoorGA
import Derived.Test.YtddglbjhhnipgaaGreatDoorGJ
namespace Go.Proofs.YtddglbjhhnipgaaGreatDoor
open Go Go.RowKit
open Go Go.RowKit Go.ChangeShapes Go.WideShapes Go.Deep
set_option linter.unusedVariables false
set_option linter.unusedSimpArgs false
set_option maxRecDepth 100000
set_option maxHeartbeats 8000000
/-! ### a call more -/
theorem cli_add {w : World} {l : List HProp} {c d s : Nat} {note : Value} {C : CliD} {x : CallD} (hs : Sat w (cliP c d s note C :: l)) (hn : C.calls.length ≤ 1000) :
   Calls Tryz.prog 47 #[.pointer (some ⟨c, 0, none⟩), .agg #[.int .i64 x.kind, .int .i64 x.node, .int .i64 x.up, .string x.text, .slice x.dao x.dn x.dc]] w fun e w' => e = .returned (.tuple #[]) ∧ Sat w' (cliP c d s note { C with calls := C.calls ++ [x] } :: l) ∧ Kp w w' := by
 obtain ⟨i1, hj, hy0, hy1, hy2⟩ := info_parts Tryz.infoCall
 obtain ⟨vc, va, h1⟩ := cliP_E hs
 obtain ⟨vao, vcap, rfl⟩ := (h1.pull 1).tLen
 have hB := h1.alloc (.cells #[.int .i64 x.kind, .int .i64 x.node, .int .i64 x.up, .string x.text, .slice x.dao x.dn x.dc] 24)
 have kB := (Kp.refl w).alloc (.cells #[.int .i64 x.kind, .int .i64 x.node, .int .i64 x.up, .string x.text, .slice x.dao x.dn x.dc] 24)
 clear hs h1
 go_enter Tryz.func47, Tryz.ntmps47
 go_upto_region 1 with (fail)
 generalize World.alloc _ _ = w1 at hB kB ⊢
 generalize w.heap.size = X at hB ⊢
 have x0 := (hB).cell 0
 have x1 := (hB).cell 1
 have x2 := (hB).cell 2
 have x3 := (hB).cell 3
 have x4 := (hB).cell 4
 simp at x0 x1 x2 x3 x4
 have c3 := (hB.pull 1).cell 3
 simp [cliC] at c3
 have hxl := hB.lt
 have hcl := (hB.pull 1).lt
 have z0 := clone_calls (((hB).pull 2).drew) (by omega)
 have zb := clone_calls ((((hB.alloc (.cells #[.int .i64 x.kind, .int .i64 x.node, .int .i64 x.up, .string x.text, .slice x.dao x.dn x.dc] 24))).pull 3).drew) (by omega)
 go_region_law ((first
   | (go_simp; go_at_call 65; (with_reducible refine z0.mono ?_); rintro e w3 ⟨vo, rfl, h3, k3⟩; obtain ⟨oo, oc, rfl⟩ := h3.tLen; have y0 := (h3.pull 2).cell 0; have y1 := (h3.pull 2).cell 1; have y2 := (h3.pull 2).cell 2; have y3 := (h3.pull 2).cell 3; have y4 := (h3.pull 2).cell 4; simp at y0 y1 y2 y3 y4; have yl := (h3.pull 2).lt; have hcl3 := (h3.pull 3).lt; have k3' := kB.drew.trans k3; have h30 := h3)
   | (go_simp; go_at_call 65; (with_reducible refine zb.mono ?_); rintro e w3 ⟨vo, rfl, h3, k3⟩; obtain ⟨oo, oc, rfl⟩ := h3.tLen; have y0 := (h3.pull 3).cell 0; have y1 := (h3.pull 3).cell 1; have y2 := (h3.pull 3).cell 2; have y3 := (h3.pull 3).cell 3; have y4 := (h3.pull 3).cell 4; simp at y0 y1 y2 y3 y4; have yl := (h3.pull 3).lt; have hcl3 := (h3.pull 4).lt; have k3' := ((kB.alloc (.cells #[.int .i64 x.kind, .int .i64 x.node, .int .i64 x.up, .string x.text, .slice x.dao x.dn x.dc] 24)).drew).trans k3; have h3b := h3)
   | (refine step_append_lit (by rfl) (.tmp 9) (.tmp 11) 31 (by rfl) 24 i1 _ 5 64 Tryz.underlying31 hj hy0 hy1 hy2 (by rfl) (by omega) _ _ _ _ _ _ _ (by rfl) (((h30.alloc (.cells #[.int .i64 x.kind, .int .i64 x.node, .int .i64 x.up, .string x.text, .slice x.dao x.dn x.dc] 24))).pull 1) 0 1 (by rfl) (by rfl) (by rfl) (by unfold maxLen; omega) (by omega) ?_; intro g2 off2 q' cap' w6 h6 k6; have d3 := (h6.pull 4).cell 3; have df3 := (h6.pull 4).free 3; simp [cliC] at d3; have h60 := h6)
   | (refine step_append_lit (by rfl) (.tmp 9) (.tmp 11) 31 (by rfl) 24 i1 _ 5 64 Tryz.underlying31 hj hy0 hy1 hy2 (by rfl) (by omega) _ _ _ _ _ _ _ (by rfl) (((h3b).pull 2).pull 1) 0 1 (by rfl) (by rfl) (by rfl) (by unfold maxLen; omega) (by omega) ?_; intro g2 off2 q' cap' w6 h6 k6; have d3 := (h6.pull 4).cell 3; have df3 := (h6.pull 4).free 3; simp [cliC] at d3; have h6b := h6)))
 all_goals
   first
   | (have h7 := Sat.tSnoc (f := fCa) (x := x) h60 rfl
      have h8 := (h7.pull 4).set 3 (.slice (some ⟨g2, off2, none⟩) q' cap')
      go_wp2_with fail
      go_end0
      exact ⟨rfl, cliP_I (C := { C with calls := C.calls ++ [x] }) (((((((h8).pull 2).tail).pull 2).tail).pull 2).tail), ((k3'.alloc _).trans k6).setCell ⟨c, 3, none⟩ (.slice (some ⟨g2, off2, none⟩) q' cap')⟩)
   | (have h7 := Sat.tSnoc (f := fCa) (x := x) h6b rfl
      have h8 := (h7.pull 4).set 3 (.slice (some ⟨g2, off2, none⟩) q' cap')
      go_wp2_with fail
      go_end0
      exact ⟨rfl, cliP_I (C := { C with calls := C.calls ++ [x] }) (((((((h8).pull 2).tail).pull 2).tail).pull 2).tail), (k3'.trans k6).setCell ⟨c, 3, none⟩ (.slice (some ⟨g2, off2, none⟩) q' cap')⟩)
/-! ### New, with a list that is only read -/
theorem clone_calls_read {w : World} {l : List HProp} {ws : List CallD} {ao : Option Addr} {cap : Nat} (hs : Sat w l) (ha : ao = none ∧ ws = [] ∧ cap = 0 ∨ ∃ g off, ao = some ⟨g, off, none⟩ ∧ g < w.heap.size ∧ ∀ j u, (ws.flatMap fCa)[j]? = some u → w.cell? ⟨g, off + j, none⟩ = some u) (hm : ws.length ≤ 1000000) :
   Calls Tryz.prog 65 #[.slice ao ws.length cap] w fun e w' => ∃ vo, e = .returned vo ∧ Sat w' (rowT fCa vo 24 5 ws :: l) ∧ Kp w w' := by
 obtain ⟨i0, hi, hz0, hz1, hz2⟩ := info_parts Tryz.infoCall
 have hnil : ∀ (W : World) (a : Option Addr) (n c n' c' : Nat), (binOp .eql 31 (.slice a n c) (.slice none n' c')).run Tryz.prog W = .ok (.bool a.isNone) W := fun W a n c n' c' => Lib.run_eql_slice_nil W _ _ a n c n' c' Tryz.underlying31
 rcases ha with ⟨rfl, rfl, rfl⟩ | ⟨g, off, rfl, hg, hy⟩
 · go_enter Tryz.func65, Tryz.ntmps65
   go_wp2_with fail
   go_ret
   exact ⟨_, rfl, hs.tNil _ _ _, Kp.refl w⟩
 · have hE := hs.rowEmpty 24 5
   go_enter Tryz.func65, Tryz.ntmps65
   go_wp2_with (at_builtin; refine wpList_append_row rfl (.tmp 5) (.tmp 6) 31 rfl 24 i0 _ 5 64 Tryz.underlying31 hi hz0 hz1 hz2 rfl (by decide) _ _ _ _ rfl hE ⟨g, off, none⟩ ws.length cap (ws.flatMap fCa) rfl ?c0 ?c1 ?c2 ?c3 ?c4 ?c5)
   case c0 => rw [len_flatF len_fCa]
   case c1 => intro j u hj; rw [Addr.add_lit, World.cell?_alloc_lt _ _ _ hg]; exact hy j u hj
   case c2 => exact one_fCa _
   case c3 => unfold maxLen; omega
   case c4 => omega
   case c5 =>
     intro v' w1 hs1 hk
     go_wp2_with fail
     go_ret
     exact ⟨_, rfl, hs1.tOf ws (by simp) (by simp), ((Kp.refl w).alloc _).trans hk⟩
theorem cli_new_read {w : World} {l : List HProp} {d s i : Nat} {k : FuncId} {cap : Array Value} {calls : List CallD} {ao : Option Addr} {vcap : Nat} (hs : Sat w l) (ha : ao = none ∧ calls = [] ∧ vcap = 0 ∨ ∃ g off, ao = some ⟨g, off, none⟩ ∧ g < w.heap.size ∧ ∀ j u, (calls.flatMap fCa)[j]? = some u → w.cell? ⟨g, off + j, none⟩ = some u) (hm : calls.length ≤ 1000000) :
   Calls Tryz.prog 19 #[.pointer (some ⟨d, 0, none⟩), .pointer (some ⟨s, 0, none⟩), .int .i64 i, .slice ao calls.length vcap, .func (.func k) #[] cap] w fun e w' => ∃ c, e = .returned (.pointer (some ⟨c, 0, none⟩)) ∧ Sat w' (cliP c d s (.func (.func k) #[] cap) (newC i calls) :: l) ∧ Kp w w' := by
 have hf := fun w => run_eql_fn (P := Tryz.prog) w Tryz.underlying42 (.func k) #[] cap
 have hmf : ∀ (fn : Fn) (first cap : Array Value) (w : World), (Instr.makeFunc fn first cap).run Tryz.prog w = .ok (.func fn first cap) w := fun _ _ _ _ => rfl
 have hcl := clone_calls_read hs ha hm
 go_enter Tryz.func19, Tryz.ntmps19
 go_wp2_with fail
 refine hcl.mono ?_
 rintro e w1 ⟨vo, rfl, h1, k1⟩
 obtain ⟨oo, cp, rfl⟩ := h1.tLen
 have h2 := (h1.tNil fAn 28 5).alloc (.cells #[.pointer (some ⟨d, 0, none⟩), .pointer (some ⟨s, 0, none⟩), .int .i64 i, .slice oo calls.length cp, .int .i64 0, .func (.func k) #[] cap, .nilFunc, .bool false, .int .i64 0, .int .i64 0, .int .i64 0, .int .i64 0, .int .i64 0, .int .i64 0, .bool false, .pointer none, .slice none 0 0] 135)
 have k2 := k1.alloc (.cells #[.pointer (some ⟨d, 0, none⟩), .pointer (some ⟨s, 0, none⟩), .int .i64 i, .slice oo calls.length cp, .int .i64 0, .func (.func k) #[] cap, .nilFunc, .bool false, .int .i64 0, .int .i64 0, .int .i64 0, .int .i64 0, .int .i64 0, .int .i64 0, .bool false, .pointer none, .slice none 0 0] 135)
 clear hcl h1 k1
 go_upto_region 4 with (fail)
 generalize World.alloc _ _ = w2 at h2 k2 ⊢
 generalize w1.heap.size = c at h2 ⊢
 have c6 := (h2).cell 6
 have cf6 := (h2).free 6
 simp at c6
 have hcl := h2.lt
 have h3 := h2.set 6 (.func (.func 66) #[.pointer (some ⟨c, 0, none⟩)] #[])
 have k3 := k2.setCell ⟨c, 6, none⟩ (.func (.func 66) #[.pointer (some ⟨c, 0, none⟩)] #[])
 go_wp2_with fail
 go_ret
 exact ⟨c, rfl, cliP_I (C := newC i calls) (h3.pull 2 |>.push 1), k3⟩
/-! ### who counts what began, and what ended -/
def cntP (p q : Nat) (y : Nat × Nat) : HProp := all [own p (.cells #[.int .i64 y.1] 3 (0, 0)), own q (.cells #[.int .i64 y.2] 3 (0, 0))]
def cntS (y : Nat × Nat) (ev : EvD) : Nat × Nat :=
 let b := if ev.what = 0 ∧ ev.call = y.1 then y.1 + 1 else y.1
 (b, if ev.what = 9 ∧ ev.call = y.2 ∧ b = y.2 + 1 then y.2 + 1 else y.2)
theorem note_adds (p q : Nat) : NoteOk 46 #[.pointer (some ⟨p, 0, none⟩), .pointer (some ⟨q, 0, none⟩)] (cntP p q) cntS (fun y => y.1 ≤ 1000 ∧ y.2 ≤ 1000) where
 ent := enters_ofC Tryz.func46 (by kernel_rfl) (by kernel_rfl)
 call := by
   rintro ⟨b, e⟩ ev w l ⟨hb, he⟩ hs
   have hb : b ≤ 1000 := hb
   have he : e ≤ 1000 := he
   have h0 : Sat w (own p (.cells #[.int .i64 b] 3 (0, 0)) :: own q (.cells #[.int .i64 e] 3 (0, 0)) :: l) := hs.allE (l := [_, _])
   have hB := h0.alloc (.cells #[.int .i64 ev.what, .int .i64 ev.client, .int .i64 ev.call, .int .i64 ev.version] 41)
   have kB := (Kp.refl w).alloc (.cells #[.int .i64 ev.what, .int .i64 ev.client, .int .i64 ev.call, .int .i64 ev.version] 41)
   have hwb : IntKind.i64.wrap ((b : Int) + 1) = (b : Int) + 1 := by rw [IntWalk.i64_in _ (by omega)]
   have hwe : IntKind.i64.wrap ((e : Int) + 1) = (e : Int) + 1 := by rw [IntWalk.i64_in _ (by omega)]
   clear hs h0
   unfold aggEv
   go_enter Tryz.func46, Tryz.ntmps46
   go_upto_region 1 with (fail)
   generalize World.alloc _ _ = w1 at hB kB ⊢
   generalize w.heap.size = B at hB ⊢
   have b0 := (hB).cell 0
   have b1 := (hB).cell 1
   have b2 := (hB).cell 2
   have b3 := (hB).cell 3
   simp at b0 b1 b2 b3
   have p0 := (hB.pull 1).cell 0
   have pf0 := (hB.pull 1).free 0
   simp at p0
   have q0 := (hB.pull 2).cell 0
   have qf0 := (hB.pull 2).free 0
   simp at q0
   have hpl := (hB.pull 1).lt
   have hql := (hB.pull 2).lt
   have hpq := (hB.pull 2).pull 2 |>.ne
   have hpq' := hpq.symm
   have hpB := hB.ne
   have hpB' := hpB.symm
   have hqB := (hB.pull 2).ne
   have hqB' := hqB.symm
   by_cases h1 : ev.what = 0 ∧ ev.call = b
   · have h1a := h1.1
     have h1b := h1.2
     have h9 : ¬ ev.what = 9 := by omega
     have hc : cntS (b, e) ev = (b + 1, e) := by
       unfold cntS
       dsimp only
       rw [if_pos h1, if_neg (fun h => h9 h.1)]
     have HC := Lib.hid hc
     clear hc h1
     go_wp2_with fail
     go_end0
     refine ⟨rfl, ?_, kB.setCell ⟨p, 0, none⟩ (.int .i64 ((b : Int) + 1))⟩
     rw [HC.out]
     exact Sat.allI (l := [_, _]) ((hB.tail).set 0 (.int .i64 ((b : Int) + 1)))
   · have hc1 : cntS (b, e) ev = (b, if ev.what = 9 ∧ ev.call = e ∧ b = e + 1 then e + 1 else e) := by
       unfold cntS
       dsimp only
       rw [if_neg h1]
     by_cases h2 : ev.what = 9 ∧ ev.call = e ∧ b = e + 1
     · have h2a := h2.1
       have h2b := h2.2.1
       have h2c := h2.2.2
       rw [if_pos h2] at hc1
       have HC := Lib.hid hc1
       have h0 : ¬ ev.what = 0 := by omega
       have hbe : (b : Int) = (e : Int) + 1 := by omega
       clear h1 h2 h2c hc1
       go_wp2_with fail
       go_end0
       exact ⟨rfl, by rw [HC.out]; exact Sat.allI (l := [_, _]) ((((hB.tail).swap).set 0 (.int .i64 ((e : Int) + 1))).swap), kB.setCell ⟨q, 0, none⟩ (.int .i64 ((e : Int) + 1))⟩
     · rw [if_neg h2] at hc1
       have HC := Lib.hid hc1
       clear hc1
       by_cases h0 : ev.what = 0
       · have hne : ¬ ev.call = b := fun h => h1 ⟨h0, h⟩
         have h9 : ¬ ev.what = 9 := by omega
         clear h1 h2
         go_wp2_with fail
         go_end0
         exact ⟨rfl, by rw [HC.out]; exact Sat.allI (l := [_, _]) hB.tail, kB⟩
       · by_cases h9 : ev.what = 9
         · by_cases hce : ev.call = e
           · have hbe : ¬ (b : Int) = (e : Int) + 1 := fun h => h2 ⟨h9, hce, by omega⟩
             clear h1 h2
             go_wp2_with fail
             go_end0
             exact ⟨rfl, by rw [HC.out]; exact Sat.allI (l := [_, _]) hB.tail, kB⟩
           · clear h1 h2
             go_wp2_with fail
             go_end0
             exact ⟨rfl, by rw [HC.out]; exact Sat.allI (l := [_, _]) hB.tail, kB⟩
         · clear h1 h2
           go_wp2_with fail
           go_end0
           exact ⟨rfl, by rw [HC.out]; exact Sat.allI (l := [_, _]) hB.tail, kB⟩
/-! ### rows of answers that have no kids -/
def rowsK : List RepD → HProp
 | [] => emp
 | r :: rs => star (rowT fK (.slice r.kao r.kn r.kc) 73 3 []) (rowsK rs)
theorem rowsK_snoc (r : RepD) : ∀ (qs : List RepD) {w : World} {l : List HProp}, Sat w (rowT fK (.slice r.kao r.kn r.kc) 73 3 [] :: rowsK qs :: l) → Sat w (rowsK (qs ++ [r]) :: l)
 | [], w, l, h => h.join
 | a :: qs, w, l, h => by
   have h2 := rowsK_snoc r qs (((h.swap.split.pull 2).pull 2).swap)
   exact (h2.swap).join
theorem rowsK_pick : ∀ (qs : List RepD) (i : Nat) (r : RepD), qs[i]? = some r → ∃ R : HProp, ∀ {w : World} {l : List HProp}, (Sat w (rowsK qs :: l) → Sat w (rowT fK (.slice r.kao r.kn r.kc) 73 3 [] :: R :: l)) ∧ (Sat w (rowT fK (.slice r.kao r.kn r.kc) 73 3 [] :: R :: l) → Sat w (rowsK qs :: l))
 | [], i, r, h => by simp at h
 | a :: qs, 0, r, h => by
   obtain rfl : a = r := by simpa using h
   exact ⟨rowsK qs, fun {w l} => ⟨fun h => h.split, fun h => h.join⟩⟩
 | a :: qs, i + 1, r, h => by
   obtain ⟨R, hR⟩ := rowsK_pick qs i r (by simpa using h)
   refine ⟨star (rowT fK (.slice a.kao a.kn a.kc) 73 3 []) R, fun {w l} => ⟨fun h => ?_, fun h => ?_⟩⟩
   · have h1 := hR.1 h.split.swap
     exact (((h1.pull 1).pull 2).join).swap
   · have h1 := h.swap.split
     have h2 := hR.2 (((h1.pull 1).pull 2) : Sat w (_ :: R :: _))
     exact h2.swap.join
/-! ### a client's lookups, one behind the other -/
structure AdC (cs : List CallD) (j : Nat) (C : CliD) (nx : Cx) : Prop where
 calls : C.calls = cs
 i : C.i = 0
 at0 : C.at' = j
 next : C.next = nx
 waits : C.waits = false
 ans : C.answers.length = j
def AdOk (f : Int → Option Loc) (L : List KidD) (A : List SlotK) (T : HTK) (v : VerD) (ps : List ByteArray) (cs : List CallD) (j : Nat) (ph : RdPh) (C : CliD) : Prop := match ph with
 | .begin => AdC cs j C .begin
 | .pin => AdC cs j C .pin ∧ -1000000000 ≤ C.epoch ∧ C.epoch ≤ 1000000000
 | .load => AdC cs j C .load
 | .node fb F => AdC cs j C .node ∧ C.find = some ⟨fb, 0, none⟩ ∧ (∃ p N a e, ps[j]? = some p ∧ FindA f p a e ∧ StepI f L A T false v N a e F) ∧ F.loads ≤ 81
 | .done _ _ _ _ _ => False
def adY (j : Nat) : RdPh → Nat × Nat | .begin => (j, j) | _ => (j + 1, j)
def adK : RdPh → Int | .begin => 0 | .pin => 1 | .load => 2 | .node _ F => 3 + F.loads | .done _ _ _ _ _ => 0
theorem AdOk.adc {f : Int → Option Loc} {L : List KidD} {A : List SlotK} {T : HTK} {v : VerD} {ps : List ByteArray} {cs : List CallD} {j : Nat} {ph : RdPh} {C : CliD} (h : AdOk f L A T v ps cs j ph C) : ∃ nx, AdC cs j C nx := by
 cases ph with
 | begin => exact ⟨_, h⟩
 | pin => exact ⟨_, h.1⟩
 | load => exact ⟨_, h⟩
 | node fb F => exact ⟨_, h.1⟩
 | done fb F ao m cp => exact h.elim
/-- Calls that are added. -/
theorem AdOk.more {f : Int → Option Loc} {L : List KidD} {A : List SlotK} {T : HTK} {v : VerD} {ps : List ByteArray} {cs : List CallD} {j : Nat} {ph : RdPh} {C : CliD} (h : AdOk f L A T v ps cs j ph C) (x : CallD) : AdOk f L A T v ps (cs ++ [x]) j ph { C with calls := C.calls ++ [x] } := by
 have g : ∀ {nx}, AdC cs j C nx → AdC (cs ++ [x]) j { C with calls := C.calls ++ [x] } nx := fun h => ⟨by show C.calls ++ [x] = _; rw [h.calls], h.i, h.at0, h.next, h.waits, h.ans⟩
 cases ph with
 | begin => exact g h
 | pin => exact ⟨g h.1, h.2⟩
 | load => exact g h
 | node fb F => exact ⟨g h.1, h.2⟩
 | done fb F ao m cp => exact h.elim
def AddAns (f : Int → Option Loc) (n : Int) (ps : List ByteArray) (qs : List RepD) : Prop := ∀ (i : Nat) (r : RepD), qs[i]? = some r → ∃ p a e ao cp, ps[i]? = some p ∧ FindA f p a e ∧ r = ⟨e, n, a, ao, 0, cp, none, 0, 0, false⟩
theorem AddAns.snoc {f : Int → Option Loc} {n : Int} {ps : List ByteArray} {qs : List RepD} {p : ByteArray} {a e : Int} {ao : Option Addr} {cp : Nat} (h : AddAns f n ps qs) (hp : ps[qs.length]? = some p) (hf : FindA f p a e) : AddAns f n ps (qs ++ [⟨e, n, a, ao, 0, cp, none, 0, 0, false⟩]) := by
 intro i r hr
 by_cases hi : i < qs.length
 · rw [List.getElem?_append_left hi] at hr
   exact h i r hr
 · have : i = qs.length := by
     have := (List.getElem?_eq_some_iff.1 hr).1
     rw [List.length_append, List.length_singleton] at this
     omega
   subst this
   rw [List.getElem?_append_right (Nat.le_refl _), Nat.sub_self] at hr
   simp only [List.getElem?_cons_zero, Option.some.injEq] at hr
   exact ⟨p, a, e, ao, cp, hp, hf, hr.symm⟩
theorem add_step {W w : World} {l : List HProp} {c d s mk ms p q : Nat} {most : Int} {AK : List SlotK} {FK : List Int} {f : Int → Option Loc} {L : List KidD} {T : HTK} {v : VerD} {ps : List ByteArray} {cs : List CallD} {j : Nat} {ph : RdPh} {C : CliD} {D : DeskD} {n : Int}
   (hT : Lib.Utf8Tabs (validS_ren.g 3) (validS_ren.g 4) W) (hB : BaseV f L AK T v) (hL : L.length ≤ 8) (hT8 : T.size ≤ 8) (hvn : v.n = n) (hnew : ∀ p ∈ ps, ∃ N a e, FindA f p a e ∧ StepI f L AK T false v N a e (newFD v false p))
   (hcs : ∀ (i : Nat) (x : CallD), cs[i]? = some x → x.kind = 3 ∧ ps[i]? = some x.text) (hj : j < cs.length) (hj2 : j ≤ 100) (hv : verOf D = v) (hr : D.reps[0]? = some zeroR) (hp : 0 < D.pins.length) (hD0 : 0 ≤ D.acc) (hD1 : D.acc < 1000000000) (he0 : -1000000000 ≤ D.epoch) (he1 : D.epoch ≤ 1000000000)
   (hok : AdOk f L AK T v ps cs j ph C) (han : AddAns f n ps C.answers)
   (hs : Sat w (cliP c d s (.func (.func 46) #[] #[.pointer (some ⟨p, 0, none⟩), .pointer (some ⟨q, 0, none⟩)]) C :: cntP p q (adY j ph) :: deskP d D :: rdPiece ph :: oldH W :: own s (.cells (stoC mk ms) 80 (0, 0)) :: mapK mk most AK FK :: rowsK C.answers :: l)) :
   Calls Tryz.prog 21 #[.pointer (some ⟨c, 0, none⟩)] w fun z w' => z = .returned (.tuple #[]) ∧ (∃ (j' : Nat) (ph' : RdPh) (C' : CliD) (D' : DeskD), AdOk f L AK T v ps cs j' ph' C' ∧ AddAns f n ps C'.answers ∧ ((j' = j ∧ adK ph' = adK ph + 1) ∨ (j' = j + 1 ∧ ph' = .begin ∧ adK ph ≤ 84)) ∧
     verOf D' = v ∧ D'.reps = D.reps ∧ D'.pins.length = D.pins.length ∧ D'.epoch = D.epoch ∧ D.acc ≤ D'.acc ∧ D'.acc ≤ D.acc + 1 ∧
     Sat w' (cliP c d s (.func (.func 46) #[] #[.pointer (some ⟨p, 0, none⟩), .pointer (some ⟨q, 0, none⟩)]) C' :: cntP p q (adY j' ph') :: deskP d D' :: rdPiece ph' :: oldH W :: own s (.cells (stoC mk ms) 80 (0, 0)) :: mapK mk most AK FK :: rowsK C'.answers :: l)) ∧ Kp w w' := by
 obtain ⟨x, hx⟩ : ∃ x, cs[j]? = some x := ⟨_, List.getElem?_eq_getElem hj⟩
 obtain ⟨hk, htx⟩ := hcs j x hx
 have hN := note_adds p q
 cases ph with
 | begin =>
   have hc : AdC cs j C .begin := hok
   have hx' : C.calls[C.at']? = some x := by rw [hc.calls, hc.at0]; exact hx
   have hr' : D.reps[C.i]? = some zeroR := by rw [hc.i]; exact hr
   refine (step_begin_read hN (y := (j, j)) ⟨by show j ≤ 1000; omega, by show j ≤ 1000; omega⟩ (by rw [hc.at0]; omega) hx' (.inl hk) hD0 hD1 hr' hc.waits hc.next hs).mono ?_
   rintro z w1 ⟨rfl, h1, k1⟩
   have hy : cntS (j, j) ⟨0, C.i, C.at', 0⟩ = (j + 1, j) := by unfold cntS; rw [hc.at0]; simp
   rw [hy] at h1
   refine ⟨rfl, ⟨j, .pin, _, _, ?_, ?_, .inl ⟨rfl, rfl⟩, ?_, ?_, ?_, ?_, ?_, ?_, h1⟩, k1⟩
   · exact ⟨⟨hc.calls, hc.i, hc.at0, rfl, hc.waits, hc.ans⟩, he0, he1⟩
   · exact han
   · exact hv
   · rfl
   · rfl
   · rfl
   · show D.acc ≤ D.acc + 1
     omega
   · exact Int.le_refl _
 | pin =>
   obtain ⟨hc, e0, e1⟩ := hok
   have hx' : C.calls[C.at']? = some x := by rw [hc.calls, hc.at0]; exact hx
   have hr' : D.reps[C.i]? = some zeroR := by rw [hc.i]; exact hr
   refine (step_pin (by rw [hc.at0]; omega) (by rw [hc.i]; exact hp) hD0 hD1 e0 e1 hx' hr' hc.waits hc.next hs).mono ?_
   rintro z w1 ⟨rfl, h1, k1⟩
   refine ⟨rfl, ⟨j, .load, _, _, ?_, ?_, .inl ⟨rfl, rfl⟩, ?_, ?_, ?_, ?_, ?_, ?_, h1⟩, k1⟩
   · exact ⟨hc.calls, hc.i, hc.at0, rfl, hc.waits, hc.ans⟩
   · exact han
   · exact hv
   · rfl
   · simp [tick]
   · rfl
   · show D.acc ≤ D.acc + 1
     omega
   · exact Int.le_refl _
 | load =>
   have hc : AdC cs j C .load := hok
   have hx' : C.calls[C.at']? = some x := by rw [hc.calls, hc.at0]; exact hx
   have hr' : D.reps[C.i]? = some zeroR := by rw [hc.i]; exact hr
   obtain ⟨N, a, e, hA, hI⟩ := hnew x.text (List.mem_of_getElem? htx)
   refine (step_load hN (y := (j + 1, j)) ⟨by show j + 1 ≤ 1000; omega, by show j ≤ 1000; omega⟩ (by rw [hc.at0]; omega) hx' hD0 hD1 hr' hc.waits hc.next (F := newFD v false x.text) ((hs.pull 3).tail) ?_).mono ?_
   · intro W' l' hW'
     rw [hv, show (x.kind == 4) = false by rw [hk]; rfl]
     exact find_new hT hW'
   rintro z w1 ⟨rfl, ⟨fb, h1⟩, k1⟩
   have hy : cntS (j + 1, j) ⟨8, C.i, C.at', D.n⟩ = (j + 1, j) := by unfold cntS; simp
   rw [hy] at h1
   have hl0 := newFD_loads v false x.text
   refine ⟨rfl, ⟨j, .node fb (newFD v false x.text), _, _, ?_, ?_, .inl ⟨rfl, ?_⟩, ?_, ?_, ?_, ?_, ?_, ?_, h1⟩, k1⟩
   · exact ⟨⟨hc.calls, hc.i, hc.at0, rfl, hc.waits, hc.ans⟩, rfl, ⟨_, N, a, e, htx, hA, hI⟩, by omega⟩
   · exact han
   · show (3 : Int) + (newFD v false x.text).loads = 2 + 1
     omega
   · exact hv
   · rfl
   · rfl
   · rfl
   · show D.acc ≤ D.acc + 1
     omega
   · exact Int.le_refl _
 | node fb F =>
   obtain ⟨hc, hfd, ⟨pp, N, a, e, hpp, hA, hI⟩, hl81⟩ := hok
   have hx' : C.calls[C.at']? = some x := by rw [hc.calls, hc.at0]; exact hx
   have hr' : D.reps[C.i]? = some zeroR := by rw [hc.i]; exact hr
   rcases moreF_iff F with ⟨_, hne⟩ | ⟨_, hno⟩
   · obtain ⟨b1, b2, b3, sl, g1, g2, g3, g4⟩ := step_fin hB hL hT8 hI hne
     refine (step_node_more (by rw [hc.at0]; omega) hx' hr' hc.waits hc.next hfd hne g2 b2 b3 hI.l0 (by omega) g1 ((hs.pull 4).push 6)).mono ?_
     rintro z w1 ⟨rfl, h1, k1⟩
     refine ⟨rfl, ⟨j, .node fb (giveF sl.k sl.lh sl.rh F), C, D, ?_, han, .inl ⟨rfl, ?_⟩, hv, rfl, rfl, rfl, Int.le_refl _, by omega, (h1.pull 6).push 4⟩, k1⟩
     · exact ⟨hc, hfd, ⟨pp, N, a, e, hpp, hA, g3⟩, by omega⟩
     · show (3 : Int) + (giveF sl.k sl.lh sl.rh F).loads = 3 + F.loads + 1
       omega
   · have hD := hI.end hno
     have hkk : F.kids = [] := by rw [hD.kids]; rw [if_neg (by simp)]
     refine (step_node_last hN (y := (j + 1, j)) ⟨by show j + 1 ≤ 1000; omega, by show j ≤ 1000; omega⟩ (by rw [hc.at0]; omega) (by rw [hc.ans]; omega) hfd hno (by rw [hkk]; decide) (by rw [hc.i]; exact hp) hD0 hD1 hx' hr' hc.waits hc.next hs).mono ?_
     rintro z w1 ⟨rfl, ⟨ao, m, cp, h1⟩, k1⟩
     have hy : cntS (j + 1, j) ⟨9, C.i, C.at', F.ver⟩ = (j + 1, j + 1) := by unfold cntS; rw [hc.at0]; simp
     rw [hy, hkk, hD.er, hD.ver, hD.node, hvn] at h1
     obtain ⟨bo, bc, he⟩ := (h1.pull 3).tLen
     simp only [Value.slice.injEq, List.length_nil] at he
     obtain ⟨-, rfl, -⟩ := he
     have h2 := ((h1.pull 4).tail)
     have h3 := rowsK_snoc ⟨e, n, a, ao, 0, cp, none, 0, 0, false⟩ C.answers ((h2.pull 7).pull 4)
     have hpj : ps[C.answers.length]? = some pp := by rw [hc.ans]; exact hpp
     refine ⟨rfl, ⟨j + 1, .begin, _, _, ?_, ?_, .inr ⟨rfl, rfl, ?_⟩, ?_, ?_, ?_, ?_, ?_, ?_, ((h3.emp.pull 1).push 7).push 3⟩, k1⟩
     · refine ⟨hc.calls, hc.i, ?_, rfl, hc.waits, ?_⟩
       · show C.at' + 1 = j + 1
         rw [hc.at0]
       · show (C.answers ++ _).length = j + 1
         rw [List.length_append, List.length_singleton, hc.ans]
     · exact han.snoc hpj hA
     · show (3 : Int) + F.loads ≤ 84
       omega
     · exact hv
     · rfl
     · simp [tick]
     · rfl
     · show D.acc ≤ D.acc + 1
       omega
     · exact Int.le_refl _
 | done fb F ao m cp => exact hok.elim
theorem addS {w W : World} {l : List HProp} {vg vo n vc tb toff pn pcap q : Nat} {ta : TypeId} {qs : List RepD} {r : RepD} {ps : List ByteArray} {p : ByteArray} (h : Sat w (rowT fAn (.slice (some ⟨vg, vo, none⟩) n vc) ta 5 qs :: oldH W :: l)) (hr : qs[q]? = some r) (hp : ArgRow W fSt (some ⟨tb, toff, none⟩) pn pcap ps) (hq : ps[q]? = some p) :
   (w.cell? ⟨vg, vo + q * 5, none⟩ = some (.int .i64 r.e) ∧ w.cell? ⟨vg, vo + q * 5 + 1, none⟩ = some (.int .i64 r.version) ∧ w.cell? ⟨vg, vo + q * 5 + 2, none⟩ = some (.int .i64 r.node) ∧ w.cell? ⟨vg, vo + q * 5 + 3, none⟩ = some (.slice r.kao r.kn r.kc) ∧ w.cell? ⟨vg, vo + q * 5 + 4, none⟩ = some (.slice r.dao r.dn r.dc)) ∧ w.cell? ⟨tb, toff + q, none⟩ = some (.string p) := by
 have x0 := h.tCell len_fAn q 0 hr rfl
 have x1 := h.tCell len_fAn q 1 hr rfl
 have x2 := h.tCell len_fAn q 2 hr rfl
 have x3 := h.tCell len_fAn q 3 hr rfl
 have x4 := h.tCell len_fAn q 4 hr rfl
 have y0 := (hp.old (h.pull 1)).cell (size := 1) (fun _ => rfl) 0 rfl hq rfl
 simp only [Nat.mul_one, Nat.add_zero] at x0 y0
 exact ⟨⟨x0, x1, x2, x3, x4⟩, y0⟩
def callsOf (ps : List ByteArray) : List CallD := ps.map fun p => ⟨3, 0, 0, p, none, 0, 0⟩
theorem len_callsOf (ps : List ByteArray) : (callsOf ps).length = ps.length := List.length_map ..
theorem callsOf_succ {ps : List ByteArray} {i : Nat} {p : ByteArray} (h : ps[i]? = some p) : callsOf (ps.take (i + 1)) = callsOf (ps.take i) ++ [⟨3, 0, 0, p, none, 0, 0⟩] := by
 unfold callsOf
 rw [List.take_add_one, h, List.map_append]
 rfl
theorem callsOf_take {ps : List ByteArray} {k i : Nat} {x : CallD} (h : ((callsOf ps).take k)[i]? = some x) : x.kind = 3 ∧ ps[i]? = some x.text := by
 have hi : i < k := by
   have := (List.getElem?_eq_some_iff.1 h).1
   rw [List.length_take] at this
   omega
 rw [List.getElem?_take, if_pos hi] at h
 unfold callsOf at h
 rw [List.getElem?_map] at h
 cases hp : ps[i]? with
 | none => rw [hp] at h; simp at h
 | some p =>
   rw [hp] at h
   simp only [Option.map_some, Option.some.injEq] at h
   subst h
   exact ⟨rfl, rfl⟩
theorem prefix_cell {w : World} {l : List HProp} {g off n cap : Nat} {cs : List CallD} (hs : Sat w (rowT fCa (.slice (some ⟨g, off, none⟩) n cap) 24 5 cs :: l)) (k : Nat) (hn : cs.length = n) {j : Nat} {u : Value} (hj : ((cs.take k).flatMap fCa)[j]? = some u) : w.cell? ⟨g, off + j, none⟩ = some u := by
 subst hn
 have e : cs.flatMap fCa = (cs.take k).flatMap fCa ++ (cs.drop k).flatMap fCa := by rw [← List.flatMap_append, List.take_append_drop]
 have h1 : (cs.flatMap fCa)[j]? = some u := by rw [e, List.getElem?_append_left (List.getElem?_eq_some_iff.1 hj).1]; exact hj
 have hlt := (List.getElem?_eq_some_iff.1 h1).1
 rw [len_flatF len_fCa] at hlt
 rw [hs.rowCell j hlt]
 exact h1
theorem ad_low {f : Int → Option Loc} {L : List KidD} {A : List SlotK} {T : HTK} {v : VerD} {ps : List ByteArray} {cs : List CallD} {j : Nat} {ph : RdPh} {C : CliD} (h : AdOk f L A T v ps cs j ph C) : 0 ≤ adK ph ∧ adK ph ≤ 84 := by
 cases ph with
 | begin => exact ⟨by decide, by decide⟩
 | pin => exact ⟨by decide, by decide⟩
 | load => exact ⟨by decide, by decide⟩
 | node fb F =>
   obtain ⟨_, _, ⟨p, N, a, e, _, _, hI⟩, hl⟩ := h
   have := hI.l0
   show 0 ≤ 3 + F.loads ∧ 3 + F.loads ≤ 84
   omega
 | done fb F ao m cp => exact h.elim
theorem clientAdds_walk (ao : Option Addr) (n cap : Nat) (ts : List TinyD) (pao : Option Addr) (pn pcap : Nat) (ps : List ByteArray) (fst : Int) (W : World) (hr : ArgRow W fT ao n cap ts) (hok : ∀ t ∈ ts, TinyOk t) (hpr : ArgRow W fSt pao pn pcap ps) (hf0 : 0 ≤ fst) (hf1 : fst < 256) (hT : Lib.Utf8Tabs (validS_ren.g 3) (validS_ren.g 4) W) :
   LawCalls Tryz.prog 9 #[.slice ao n cap, .slice pao pn pcap, .int .u8 fst] W := by
 have H0 := Sat.start W
 have hle := hr.le
 have hsm := hr.small
 unfold maxLen at hsm
 have HL := Lib.hid hr.len
 have HT := Lib.hid hT
 have HR := Lib.hid hr
 have HOK := Lib.hid hok
 have HP := Lib.hid hpr
 have hpl := hpr.le
 have hps := hpr.small
 have hplen := hpr.len
 unfold maxLen at hps
 clear hpr
 clear hT hr hok
 go_enter Tryz.func9, Tryz.ntmps9
 go_wp2_with fail
 refine (client_awake H0).mono ?_
 rintro e w1 ⟨rfl, h1, k1⟩
 clear H0
 by_cases hmost : 12 < n
 · have hmost' : (12 : Int) < (n : Int) := by omega
   clear hmost
   go_wp2_with fail
   go_ret
   exact ⟨rfl, h1.below k1⟩
 have hmost' : ¬ (12 : Int) < (n : Int) := by omega
 by_cases hlong : 12 < pn
 · have hlong' : (12 : Int) < (pn : Int) := by omega
   clear hlong
   go_wp2_with fail
   go_ret
   exact ⟨rfl, h1.below k1⟩
 have hlong' : ¬ (12 : Int) < (pn : Int) := by omega
 have hgr := ver_grownC (num := 1) (queue := 4) (by decide) (by decide) h1 HR.out HOK.out (by omega)
 clear h1
 go_wp2_with fail
 refine hgr.mono ?_
 rintro e w2 hQ
 clear hgr
 unfold GrownC at hQ
 obtain ⟨d, s, mk, ms, L, v, vl, AK, FK, AS, FS, GK, GS, tK, tS, ks, rfl, hE, hE2, hvn, hV, r1, r2, r3, r4, h2, k2⟩ := hQ
 have k2 := k1.trans k2
 have hg := grow_grown (ts.map ofT)
 generalize (growT (ts.map ofT)).1 = f at hE hE2 hg
 have h0 : f 0 = none := hg.low (by decide)
 have hpos : ∀ y ∈ ks, 0 ≤ y.node := fun y hy => by have := (hg.dom _ _ (hE2.mem y hy)).1; omega
 have hks8 : ks.length ≤ 8 := by
   have := nodup_le 8 256 (ks.map KidD.node) hE2.nodup (fun x hx => by
     obtain ⟨y, hy, rfl⟩ := List.mem_map.1 hx
     obtain ⟨h1, o, ho, h2⟩ := hg.dom y.node _ (hE2.mem y hy)
     obtain ⟨t, ht, rfl⟩ := List.mem_map.1 ho
     have h3 : 256 + t.node % 8 = y.node := h2
     omega)
   simpa using this
 have hL8 : L.length ≤ 8 := by rw [(enumk_perm hE hE2).length_eq]; exact hks8
 have hB := base_of hV hE2 hpos
 have hT8 : tK.size ≤ 8 := Nat.le_trans hV.zk hks8
 have hnew : ∀ p ∈ ps, ∃ N a e, FindA f p a e ∧ StepI f ks AK tK false v N a e (newFD v false p) := fun p _ => by
   obtain ⟨a, e, hA⟩ := findA_ex hE p
   obtain ⟨N, hI, _⟩ := step_new false hB hA h0
   exact ⟨N, a, e, hA, hI⟩
 have HNEW := Lib.hid hnew
 have HB := Lib.hid hB
 have HLT := Lib.hid (And.intro hks8 hT8)
 have HF := Lib.hid (And.intro hE (And.intro hE2 (And.intro hL8 (And.intro hks8 hvn))))
 obtain ⟨lao, lcap, rfl, _⟩ := (h2.pull 4).poolArg (v := vl) (ks := L) (by simp)
 obtain ⟨D0, hD0⟩ : ∃ D : DeskD, D = { tick (newD 3 4) with n := v.n, ks := v.ks, kg := v.kg, ss := v.ss, sg := v.sg } := ⟨_, rfl⟩
 rw [← hD0] at h2
 have HD0 := Lib.hid (show verOf D0 = v ∧ D0.pins = [0, 0, 0] ∧ D0.reps = [zeroR, zeroR, zeroR] ∧ D0.acc = 1 ∧ D0.most = 4 ∧ D0.msgs = [] ∧ D0.closed = false ∧ D0.epoch = 0 by subst hD0; exact ⟨rfl, rfl, rfl, rfl, rfl, rfl, rfl, rfl⟩)
 clear hE hE2 hg h0 hpos hks8 hL8 hB hT8 hnew hV r1 r2 r3 r4 k1 hvn hD0
 go_wp2_with fail
 go_loopw [11, 12] (fun cv iv wr => ∃ i : Nat, iv = .int .i64 i ∧ i ≤ pn ∧ Sat wr (rowT fCa cv 24 5 (callsOf (ps.take i)) :: deskP d D0 :: own s (.cells (stoC mk ms) 80 (0, 0)) :: mapK mk 2000 AK FK :: mapS ms 2000 AS FS :: poolP fK [(.slice lao L.length lcap, L)] :: oldH W :: []) ∧ Kp W wr) (fun _ iv _ => pn - (intOf iv).toNat)
 case atStart => exact ⟨0, rfl, Nat.zero_le _, h2.tNil fCa 24 5, k2⟩
 case round =>
   clear h2 k2
   obtain ⟨i, rfl, hi, h3, k3⟩ := hrel
   have hi0 : (0 : Int) ≤ (i : Int) := by omega
   have hwi : IntKind.i64.wrap ((i : Int) + 1) = (i : Int) + 1 := by rw [IntWalk.i64_in _ (by omega)]
   have hcl : (callsOf (ps.take i)).length = i := by rw [len_callsOf, List.length_take]; omega
   obtain ⟨cao, ccap, hcv⟩ := h3.tLen
   rw [hcl] at hcv
   subst hcv
   by_cases hil : i < pn
   · have hil' : (i : Int) < (pn : Int) := by omega
     have har := HP.out.old (h3.pull 6)
     obtain ⟨p, hp⟩ : ∃ p, ps[i]? = some p := ⟨_, List.getElem?_eq_getElem (by rw [hplen]; exact hil)⟩
     obtain ⟨tb, toff, rfl⟩ := har.some hil
     have x0 := har.cell (size := 1) (fun _ => rfl) 0 rfl hp rfl
     simp only [Nat.mul_one, Nat.add_zero] at x0
     have HPP := Lib.hid hp
     clear har
     by_cases hbig : 450 < p.size
     · have hbig' : (450 : Int) < (p.size : Int) := by omega
       clear hbig hp
       go_wp2_with fail
       exact bodyPost_ret (v := .bool true) (by simp [results, Tryz.results9, go_sem]) rfl ⟨rfl, (h3.pull 6).below k3⟩
     · have hbig' : ¬ (450 : Int) < (p.size : Int) := by omega
       have e2 : rowT fCa (.slice cao i ccap) 24 5 (callsOf (ps.take i)) = row (.slice cao i ccap) 24 5 i ((callsOf (ps.take i)).flatMap fCa) := by unfold rowT; rw [hcl]
       rw [e2] at h3
       have HCL := Lib.hid hcl
       obtain ⟨i1, hj, hy0, hy1, hy2⟩ := info_parts Tryz.infoCall
       have hL := h3.alloc (.cells #[.int .i64 3, .int .i64 0, .int .i64 0, .string p, .slice none 0 0] 24)
       have kL := k3.alloc (.cells #[.int .i64 3, .int .i64 0, .int .i64 0, .string p, .slice none 0 0] 24)
       clear hbig e2 hcl h3 k3 hp
       go_upto_region 13 with (fail)
       go_wp2_with (at_builtin; refine wpList_append_lit rfl (.tmp 51) (.tmp 57) 31 rfl 24 i1 _ 5 64 Tryz.underlying31 hj hy0 hy1 hy2 rfl (by decide) _ _ _ _ _ _ _ rfl (hL.pull 1) 1 1 rfl rfl rfl ?c3 ?c4 ?c5)
       case c3 => unfold maxLen; omega
       case c4 => omega
       case c5 =>
         intro v' w2 h4 k4
         rw [show i + 1 = (callsOf (ps.take i)).length + 1 by rw [HCL.out]] at h4
         have h5 := Sat.tSnoc (f := fCa) (x := (⟨3, 0, 0, p, none, 0, 0⟩ : CallD)) h4 rfl
         go_wp2_with fail
         go_roundw
         case rel => exact ⟨i + 1, by go_num, by omega, by rw [callsOf_succ HPP.out]; exact (h5.pull 1).tail, kL.trans k4⟩
         case measure => simp [intOf]; omega
   obtain rfl : i = pn := by omega
   have hcs : callsOf (ps.take i) = callsOf ps := by rw [← hplen, List.take_length]
   rw [hcs] at h3 hcl
   clear hcs hil
   have hil' : ¬ (i : Int) < (i : Int) := by omega
   have hccap : (i : Int) ≤ (ccap : Int) ∧ (ccap : Int) ≤ 9223372036854775807 := by
     rcases h3.tForm with ⟨hv, hx⟩ | ⟨g, off, cp, hv⟩
     · rw [hx] at hcl
       simp only [List.length_nil] at hcl
       simp only [Value.slice.injEq] at hv
       omega
     · simp only [Value.slice.injEq] at hv
       obtain ⟨rfl, -, -⟩ := hv
       have := h3.tCap
       obtain ⟨-, hh⟩ := h3.rowE
       rcases hh with ⟨hv, _⟩ | ⟨_, _, _, _, hv, _, hmx, _⟩
       · simp at hv
       · simp only [Value.slice.injEq] at hv
         unfold maxLen at hmx
         omega
   obtain ⟨k0, hk0⟩ : ∃ k0 : Nat, k0 = fst.toNat % (i + 1) := ⟨_, rfl⟩
   have hk0l : k0 ≤ i := by have := Nat.mod_lt fst.toNat (show 0 < i + 1 by omega); omega
   have hfn : ((fst.toNat : Nat) : Int) = fst := by omega
   have hmod : fst % ((i : Int) + 1) = (k0 : Int) := by rw [hk0, ← hfn]; push_cast; simp
   have htm : Int.tmod fst ((i : Int) + 1) = (k0 : Int) := by rw [Int.tmod_eq_emod_of_nonneg hf0]; exact hmod
   have hwf : IntKind.i64.wrap fst = fst := by rw [IntWalk.i64_in _ (by omega)]
   have hi1 : ¬ ((i : Int) + 1) = 0 := by omega
   have hi1b : ((i : Int) + 1 == 0) = false := by rw [beq_eq_false_iff_ne]; exact hi1
   have hk0i : (0 : Int) ≤ (k0 : Int) := by omega
   have hk0c : (k0 : Int) ≤ (ccap : Int) := by omega
   have hk0cn : k0 ≤ ccap := by omega
   have HCL := Lib.hid hcl
   have h4 := (h3.alloc (.cells #[.int .i64 0] 3)).alloc (.cells #[.int .i64 0] 3)
   have k4 := (k3.alloc (.cells #[.int .i64 0] 3)).alloc (.cells #[.int .i64 0] 3)
   simp only [World.size_alloc] at h4
   have hmf : ∀ (fn : Fn) (first cap : Array Value) (w : World), (Instr.makeFunc fn first cap).run Tryz.prog w = .ok (.func fn first cap) w := fun _ _ _ _ => rfl
   have ha : cao = none ∧ (callsOf ps).take k0 = [] ∧ ccap = 0 ∨ ∃ g off, cao = some ⟨g, off, none⟩ ∧ g < (((wr.alloc (.cells #[.int .i64 0] 3)).alloc (.cells #[.int .i64 0] 3))).heap.size ∧ ∀ j u, (((callsOf ps).take k0).flatMap fCa)[j]? = some u → ((wr.alloc (.cells #[.int .i64 0] 3)).alloc (.cells #[.int .i64 0] 3)).cell? ⟨g, off + j, none⟩ = some u := by
     have h5 := (h4.pull 2)
     rcases h5.tForm with ⟨hv, hx⟩ | ⟨g, off, cp, hv⟩
     · simp only [Value.slice.injEq] at hv
       exact .inl ⟨hv.1, by rw [hx]; simp, hv.2.2⟩
     · simp only [Value.slice.injEq] at hv
       obtain ⟨rfl, -, rfl⟩ := hv
       refine .inr ⟨g, off, rfl, h5.rowBlock, fun j u hj => ?_⟩
       exact prefix_cell h5 k0 HCL.out hj
   have hnc := cli_new_read (d := d) (s := s) (i := 0) (k := 46) (cap := #[.pointer (some ⟨wr.heap.size, 0, none⟩), .pointer (some ⟨wr.heap.size + 1, 0, none⟩)]) (calls := (callsOf ps).take k0) (ao := cao) (vcap := ccap) h4 ha (by rw [List.length_take]; omega)
   rw [show ((callsOf ps).take k0).length = k0 by rw [List.length_take, HCL.out]; omega] at hnc
   clear ha h4 h3 k3 hmod hfn hk0
   go_wp2_with fail
   refine hnc.mono ?_
   rintro e w6 ⟨c, rfl, h6, k6⟩
   have k6 := k4.trans k6
   clear hnc k4 hmf
   generalize wr.heap.size + 1 = ep at h6 ⊢
   generalize wr.heap.size = bp at h6 ⊢
   have h7 : Sat w6 (cntP bp ep (adY 0 .begin) :: cliP c d s (.func (.func 46) #[] #[.pointer (some ⟨bp, 0, none⟩), .pointer (some ⟨ep, 0, none⟩)]) (newC 0 ((callsOf ps).take k0)) :: rowT fCa (.slice cao i ccap) 24 5 (callsOf ps) :: deskP d D0 :: own s (.cells (stoC mk ms) 80 (0, 0)) :: mapK mk 2000 AK FK :: mapS ms 2000 AS FS :: poolP fK [(.slice lao L.length lcap, L)] :: oldH W :: []) := Sat.allI (l := [_, _]) (((h6).pull 1).pull 2)
   have h8 : Sat w6 (cliP c d s (.func (.func 46) #[] #[.pointer (some ⟨bp, 0, none⟩), .pointer (some ⟨ep, 0, none⟩)]) (newC 0 ((callsOf ps).take k0)) :: cntP bp ep (adY 0 .begin) :: deskP d D0 :: rdPiece .begin :: oldH W :: own s (.cells (stoC mk ms) 80 (0, 0)) :: mapK mk 2000 AK FK :: rowsK (newC 0 ((callsOf ps).take k0)).answers :: mapS ms 2000 AS FS :: poolP fK [(.slice lao L.length lcap, L)] :: rowT fCa (.slice cao i ccap) 24 5 (callsOf ps) :: []) := ((((((((((h7.emp.emp).pull 9).pull 9).pull 2).pull 9).pull 9).pull 10).pull 6).pull 10).pull 8).pull 9
   clear h6 h7
   have hvn : v.n = 1 := HF.out.2.2.2.2
   have HVN := Lib.hid hvn
   have HCCAP := Lib.hid hccap
   clear hvn hccap
   go_wp2_with fail
   go_loopw [13, 17] (fun kv nv wr => ∃ (nn k j : Nat) (ph : RdPh) (C : CliD) (D : DeskD), kv = .int .i64 k ∧ nv = .int .i64 nn ∧ nn ≤ 3000 ∧ k0 ≤ k ∧ k ≤ i ∧ j ≤ k ∧ Hid (AdOk f ks AK tK v ps ((callsOf ps).take k) j ph C) ∧ Hid (AddAns f 1 ps C.answers) ∧ Hid ((k < i → nn ≤ 3 * (k - k0)) ∧ (k = i → j = i ∨ (nn : Int) ≤ 39 + 86 * j + adK ph)) ∧ Hid (verOf D = v ∧ D.reps[0]? = some zeroR ∧ D.pins.length = 3 ∧ D.epoch = 0) ∧ Hid (j = k → ph = .begin) ∧ 0 ≤ D.acc ∧ D.acc ≤ 10 + nn ∧ Sat wr (cliP c d s (.func (.func 46) #[] #[.pointer (some ⟨bp, 0, none⟩), .pointer (some ⟨ep, 0, none⟩)]) C :: cntP bp ep (adY j ph) :: deskP d D :: rdPiece ph :: oldH W :: own s (.cells (stoC mk ms) 80 (0, 0)) :: mapK mk 2000 AK FK :: rowsK C.answers :: mapS ms 2000 AS FS :: poolP fK [(.slice lao L.length lcap, L)] :: rowT fCa (.slice cao i ccap) 24 5 (callsOf ps) :: []) ∧ Kp W wr) (fun _ nv _ => 3000 - (intOf nv).toNat)
   case atStart => exact ⟨0, k0, 0, .begin, _, D0, rfl, rfl, by omega, Nat.le_refl _, hk0l, Nat.zero_le _, Lib.hid ⟨rfl, rfl, rfl, rfl, rfl, rfl⟩, Lib.hid (fun i r h => by simp [newC] at h), Lib.hid ⟨fun _ => by omega, fun _ => .inr (by show (0 : Int) ≤ 39 + 86 * 0 + 0; omega)⟩, Lib.hid ⟨HD0.out.1, by rw [HD0.out.2.2.1]; rfl, by rw [HD0.out.2.1]; rfl, HD0.out.2.2.2.2.2.2.2⟩, Lib.hid (fun _ => rfl), by rw [HD0.out.2.2.2.1]; decide, by rw [HD0.out.2.2.2.1]; decide, h8, k6⟩
   case round =>
     clear h8 k6 HD0
     obtain ⟨nn, k, j, ph, C, D, rfl, rfl, hnn, hkk, hki, hjk, HOK, HAN, HPG, HDV, HJK, hD0, hD1, h9, k9⟩ := hrel
     have hn0 : (0 : Int) ≤ (nn : Int) := by omega
     have hki' : (k : Int) ≤ (i : Int) := by omega
     have hkz : (0 : Int) ≤ (k : Int) := by omega
     have hwk : IntKind.i64.wrap ((k : Int) + 1) = (k : Int) + 1 := by rw [IntWalk.i64_in _ (by omega)]
     have hwn : IntKind.i64.wrap ((nn : Int) + 1) = (nn : Int) + 1 := by rw [IntWalk.i64_in _ (by omega)]
     obtain ⟨nx, hAC⟩ := HOK.out.adc
     by_cases hlt : nn < 3000
     · have hlt' : (nn : Int) < 3000 := by omega
       have h3n : Int.tmod (nn : Int) 3 = ((nn % 3 : Nat) : Int) := by rw [Int.tmod_eq_emod_of_nonneg hn0]; omega
       obtain ⟨m3, hm3⟩ : ∃ m3, m3 = nn % 3 := ⟨_, rfl⟩
       rw [← hm3] at h3n
       have HM3 := Lib.hid hm3
       have hm3i : (0 : Int) ≤ (m3 : Int) := by omega
       clear hm3
       obtain ⟨bb, hbb⟩ : ∃ bb : Bool, bb = decide (m3 = 0 ∧ k < i) := ⟨_, rfl⟩
       have HBB := Lib.hid hbb
       clear hbb
       go_upto_region 23 with (fail)
       go_cut [86] from 74 to 96 (fun bv wx => bv = .bool bb ∧ wr = wx)
       case first =>
         by_cases ha1 : m3 = 0
         · subst ha1
           by_cases ha2 : k < i
           · have ha2' : (k : Int) < (i : Int) := by omega
             clear ha2
             go_wp2_with fail
             go_meet
             case rel => exact ⟨by rw [HBB.out]; simp; omega, rfl⟩
           · have ha2' : ¬ (k : Int) < (i : Int) := by omega
             clear ha2
             go_wp2_with fail
             go_meet
             case rel => exact ⟨by rw [HBB.out]; simp; omega, rfl⟩
         · have ha1' : ¬ (m3 : Int) = 0 := by omega
           have ha1b : ((m3 : Int) == 0) = false := by rw [beq_eq_false_iff_ne]; exact ha1'
           have hb0 : bb = false := by rw [HBB.out]; simp [ha1]
           clear ha1
           go_wp2_with fail
           go_meet
           case rel => exact ⟨by rw [hb0], rfl⟩
       case rest =>
       obtain ⟨rfl, rfl⟩ := hcut
       go_upto_if 86 with (fail)
       go_cut [13] from 74 to 96 (fun kv wx => ∃ (k' : Nat) (C' : CliD), kv = .int .i64 k' ∧ Hid ((k' = k + 1 ∧ m3 = 0 ∧ k < i) ∨ (k' = k ∧ ¬ (m3 = 0 ∧ k < i))) ∧ Hid (AdOk f ks AK tK v ps ((callsOf ps).take k') j ph C') ∧ C'.answers = C.answers ∧ Sat wx (cliP c d s (.func (.func 46) #[] #[.pointer (some ⟨bp, 0, none⟩), .pointer (some ⟨ep, 0, none⟩)]) C' :: cntP bp ep (adY j ph) :: deskP d D :: rdPiece ph :: oldH W :: own s (.cells (stoC mk ms) 80 (0, 0)) :: mapK mk 2000 AK FK :: rowsK C.answers :: mapS ms 2000 AS FS :: poolP fK [(.slice lao L.length lcap, L)] :: rowT fCa (.slice cao i ccap) 24 5 (callsOf ps) :: []) ∧ Kp W wx)
       case first =>
         cases hb : bb with
         | true =>
           obtain ⟨ha1, ha2⟩ : m3 = 0 ∧ k < i := by have := HBB.out; rw [hb] at this; simpa using this.symm
           subst hb
           have ha2' : (k : Int) < (i : Int) := by omega
           obtain ⟨x, hx⟩ : ∃ x, (callsOf ps)[k]? = some x := ⟨_, List.getElem?_eq_getElem (by rw [HCL.out]; exact ha2)⟩
           have hrow := h9.pull 10
           rcases hrow.tForm with ⟨_, hq⟩ | ⟨g, off, cp, hv⟩
           · rw [hq] at hx; simp at hx
           simp only [Value.slice.injEq] at hv
           obtain ⟨rfl, -, -⟩ := hv
           have x0 := hrow.tCell len_fCa k 0 hx rfl
           have x1 := hrow.tCell len_fCa k 1 hx rfl
           have x2 := hrow.tCell len_fCa k 2 hx rfl
           have x3 := hrow.tCell len_fCa k 3 hx rfl
           have x4 := hrow.tCell len_fCa k 4 hx rfl
           rw [Nat.add_zero] at x0
           have hadd := cli_add (x := x) h9 (by rw [hAC.calls, List.length_take]; omega)
           have HMO := Lib.hid (HOK.out.more x)
           have HX := Lib.hid hx
           clear hrow hx h9
           go_wp2_with fail
           refine hadd.mono ?_
           rintro z wA ⟨rfl, hA, kA⟩
           clear hadd x0 x1 x2 x3 x4
           go_wp2_with fail
           go_meet
           case rel => exact ⟨k + 1, { C with calls := C.calls ++ [x] }, by go_num, Lib.hid (.inl ⟨rfl, ha1, ha2⟩), Lib.hid (by rw [List.take_add_one, HX.out]; exact HMO.out), rfl, hA, k9.trans kA⟩
         | false =>
           have hneg : ¬ (m3 = 0 ∧ k < i) := by have := HBB.out; rw [hb] at this; simpa using this.symm
           have HNG := Lib.hid hneg
           subst hb
           clear hneg
           go_wp2_with fail
           go_meet
           case rel => exact ⟨k, C, rfl, Lib.hid (.inr ⟨rfl, HNG.out⟩), HOK, rfl, h9, k9⟩
       case rest =>
         clear h9 k9 hwk
         obtain ⟨k', C', rfl, HK', HOK2, hans, h10, k10⟩ := hcut
         obtain ⟨nx', hAC'⟩ := HOK2.out.adc
         have hkr := HK'.out
         have hk'i : k' ≤ i := by omega
         have hkk' : k0 ≤ k' := by omega
         have hcl' : ((callsOf ps).take k').length = k' := by rw [List.length_take, HCL.out]; omega
         have hm3v := HM3.out
         have hpg := HPG.out
         by_cases hjl : j < k'
         · have hst := add_step (n := 1) HT.out HB.out HLT.out.1 HLT.out.2 HVN.out HNEW.out (fun i' x' h => callsOf_take h) (by rw [hcl']; exact hjl) (by omega) HDV.out.1 HDV.out.2.1 (by rw [HDV.out.2.2.1]; decide) hD0 (by omega) (by rw [HDV.out.2.2.2]; decide) (by rw [HDV.out.2.2.2]; decide) HOK2.out (by rw [hans]; exact HAN.out) (by rw [hans]; exact h10)
           clear h10
           go_wp2_with fail
           refine hst.mono ?_
           rintro z wB ⟨rfl, ⟨j', ph', C2, D', g1, g2, g3, g4, g5, g6, g7, g8, g9, hB⟩, kB⟩
           have G1 := Lib.hid g1
           have G2 := Lib.hid g2
           have G3 := Lib.hid (show verOf D' = v ∧ D'.reps[0]? = some zeroR ∧ D'.pins.length = 3 ∧ D'.epoch = 0 from ⟨g4, by rw [g5]; exact HDV.out.2.1, by rw [g6]; exact HDV.out.2.2.1, by rw [g7]; exact HDV.out.2.2.2⟩)
           have G4 := Lib.hid (show (k' < i → nn + 1 ≤ 3 * (k' - k0)) ∧ (k' = i → j' = i ∨ ((nn + 1 : Nat) : Int) ≤ 39 + 86 * j' + adK ph') by
             have hk3 := ad_low HOK2.out
             push_cast
             rcases g3 with ⟨rfl, h⟩ | ⟨rfl, rfl, h⟩
             · refine ⟨fun hx => by omega, fun hx => ?_⟩
               rcases hkr with ⟨r1, r2, r3⟩ | ⟨r1, r2⟩
               · have := hpg.1 r3; exact .inr (by omega)
               · rcases hpg.2 (by omega) with h5 | h5
                 · omega
                 · exact .inr (by omega)
             · refine ⟨fun hx => by omega, fun hx => ?_⟩
               show _ ∨ _ ≤ 39 + 86 * ((j + 1 : Nat) : Int) + 0
               push_cast
               rcases hkr with ⟨r1, r2, r3⟩ | ⟨r1, r2⟩
               · have := hpg.1 r3; exact .inr (by omega)
               · rcases hpg.2 (by omega) with h5 | h5
                 · omega
                 · exact .inr (by omega))
           have G5 := Lib.hid (show j' = k' → ph' = .begin by
             rcases g3 with ⟨rfl, _⟩ | ⟨_, h, _⟩
             · intro h; omega
             · exact fun _ => h)
           have hj' : j' ≤ k' := by rcases g3 with ⟨rfl, _⟩ | ⟨rfl, _, _⟩ <;> omega
           clear hst g1 g2 g3 g4 g5 g6 g7 hkr hpg hm3v hans
           go_wp2_with fail
           go_roundw
           case rel => exact ⟨nn + 1, k', j', ph', C2, D', rfl, by go_num, by omega, hkk', hk'i, hj', G1, G2, G4, G3, G5, by omega, by push_cast; omega, hB, k10.trans kB⟩
           case measure => simp [intOf]; omega
         · have hjk' : j = k' := by omega
           have hns := cli_step_not (r := zeroR) ((((h10).pull 2).pull 1)) (by rw [hAC'.i]; exact HDV.out.2.1) (by rw [hAC'.at0]; omega) (by rw [hAC'.at0, hAC'.calls, hcl', hjk']; simp)
           have G4 := Lib.hid (show (k' < i → nn + 1 ≤ 3 * (k' - k0)) ∧ (k' = i → j = i ∨ ((nn + 1 : Nat) : Int) ≤ 39 + 86 * j + adK ph) by
             refine ⟨fun hx => ?_, fun hx => .inl (by omega)⟩
             rcases hkr with ⟨r1, r2, r3⟩ | ⟨r1, r2⟩
             · omega
             · have := hpg.1 (by omega); omega)
           have hjk2 : j = k := by omega
           have G5 := Lib.hid (show j = k' → ph = .begin from fun _ => HJK.out hjk2)
           clear h10 hkr hpg hm3v
           go_wp2_with fail
           refine hns.mono ?_
           rintro z wB ⟨rfl, hB, kB⟩
           have G2 := Lib.hid (show AddAns f 1 ps C'.answers by rw [hans]; exact HAN.out)
           have hB2 : Sat wB (cliP c d s (.func (.func 46) #[] #[.pointer (some ⟨bp, 0, none⟩), .pointer (some ⟨ep, 0, none⟩)]) C' :: cntP bp ep (adY j ph) :: deskP d D :: rdPiece ph :: oldH W :: own s (.cells (stoC mk ms) 80 (0, 0)) :: mapK mk 2000 AK FK :: rowsK C'.answers :: mapS ms 2000 AS FS :: poolP fK [(.slice lao L.length lcap, L)] :: rowT fCa (.slice cao i ccap) 24 5 (callsOf ps) :: []) := by rw [hans]; exact ((hB).pull 2).pull 1
           clear hns hB hans
           go_wp2_with fail
           go_roundw
           case rel => exact ⟨nn + 1, k', j, ph, C', D, rfl, by go_num, by omega, hkk', hk'i, by omega, HOK2, G2, G4, HDV, G5, hD0, by push_cast; omega, hB2, k10.trans kB⟩
           case measure => simp [intOf]; omega
     · obtain rfl : nn = 3000 := by omega
       have hlt' : ¬ (3000 : Int) < 3000 := by omega
       have hlow := ad_low HOK.out
       have hpg := HPG.out
       have hkI : k = i := by omega
       have hjI : j = i := by
         rcases hpg.2 hkI with h | h
         · exact h
         · push_cast at h; omega
       have hph := HJK.out (by omega)
       subst hkI
       subst hjI
       subst hph
       have hcj : C.answers.length = j := hAC.ans
       have hrd := cli_rdy (r := zeroR) (C := C) (D := D) (M := cntP bp ep (adY j .begin)) false (by rw [hAC.at0, hAC.calls, List.length_take, HCL.out]; simp) h9 (by rw [hAC.i]; exact HDV.out.2.1) (by rw [hAC.at0]; omega)
       have hrd2 := fun (W' : World) (l' : List HProp) (hW' : Sat W' (cliP c d s (.func (.func 46) #[] #[.pointer (some ⟨bp, 0, none⟩), .pointer (some ⟨ep, 0, none⟩)]) C :: cntP bp ep (adY j .begin) :: deskP d D :: l')) => cli_rdy (r := zeroR) false (by rw [hAC.at0, hAC.calls, List.length_take, HCL.out]; simp) hW' (by rw [hAC.i]; exact HDV.out.2.1) (by rw [hAC.at0]; omega)
       have HR2 := Lib.hid hrd2
       have han := cli_answers h9 (by rw [hcj]; omega)
       have HCJ := Lib.hid hcj
       clear hrd hrd2 hlow hpg h9 hlt
       go_wp2_with fail
       refine han.mono ?_
       rintro z wA ⟨va, rfl, hA, kA⟩
       obtain ⟨vao, vcp, hva⟩ := hA.tLen
       rw [HCJ.out] at hva
       subst hva
       have kA := k9.trans kA
       have hrd := HR2.out _ _ ((((hA).pull 3).pull 3).pull 3)
       clear han hA k9
       go_wp2_with fail
       refine hrd.mono ?_
       rintro z wB ⟨rfl, hB, kB⟩
       have kB := kA.trans kB
       have hB1 : Sat wB (own bp (.cells #[.int .i64 j] 3 (0, 0)) :: own ep (.cells #[.int .i64 j] 3 (0, 0)) :: cliP c d s (.func (.func 46) #[] #[.pointer (some ⟨bp, 0, none⟩), .pointer (some ⟨ep, 0, none⟩)]) C :: deskP d D :: rowT fAn (.slice vao j vcp) 28 5 C.answers :: rdPiece .begin :: oldH W :: own s (.cells (stoC mk ms) 80 (0, 0)) :: mapK mk 2000 AK FK :: rowsK C.answers :: mapS ms 2000 AS FS :: poolP fK [(.slice lao L.length lcap, L)] :: rowT fCa (.slice cao j ccap) 24 5 (callsOf ps) :: []) := Sat.allE (l := [_, _]) ((hB).pull 1)
       have b0 := (hB1).cell 0
       simp at b0
       have e0 := (hB1.pull 1).cell 0
       simp at e0
       clear hrd hB
       go_wp2_with fail
       go_loopw [19] (fun iv wr => ∃ q : Nat, iv = .int .i64 q ∧ q ≤ j ∧ Sat wr (own bp (.cells #[.int .i64 j] 3 (0, 0)) :: own ep (.cells #[.int .i64 j] 3 (0, 0)) :: cliP c d s (.func (.func 46) #[] #[.pointer (some ⟨bp, 0, none⟩), .pointer (some ⟨ep, 0, none⟩)]) C :: deskP d D :: rowT fAn (.slice vao j vcp) 28 5 C.answers :: rdPiece .begin :: oldH W :: own s (.cells (stoC mk ms) 80 (0, 0)) :: mapK mk 2000 AK FK :: rowsK C.answers :: mapS ms 2000 AS FS :: poolP fK [(.slice lao L.length lcap, L)] :: rowT fCa (.slice cao j ccap) 24 5 (callsOf ps) :: []) ∧ Kp W wr) (fun iv _ => j - (intOf iv).toNat)
       case atStart => exact ⟨0, rfl, Nat.zero_le _, hB1, kB⟩
       case round =>
         clear hB1 kB b0 e0
         obtain ⟨q, rfl, hq, h1, k1⟩ := hrel
         have hq0 : (0 : Int) ≤ (q : Int) := by omega
         have hwq : IntKind.i64.wrap ((q : Int) + 1) = (q : Int) + 1 := by rw [IntWalk.i64_in _ (by omega)]
         by_cases hql : q < j
         · have hql' : (q : Int) < (j : Int) := by omega
           obtain ⟨r, hr⟩ : ∃ r, C.answers[q]? = some r := ⟨_, List.getElem?_eq_getElem (by rw [HCJ.out]; exact hql)⟩
           obtain ⟨p, a1, e1, xo, xc, hpq, hFA, rfl⟩ := HAN.out q r hr
           obtain ⟨R, hR⟩ := rowsK_pick _ q _ hr
           have HR := Lib.hid hr
           have HPQ := Lib.hid hpq
           have HFA := Lib.hid hFA
           have h2 := (hR (w := wr)).1 (h1.pull 9)
           have har := HP.out.old (h1.pull 6)
           obtain ⟨tb, toff, rfl⟩ := har.some hql
           obtain ⟨vg, vo, rfl⟩ : ∃ vg vo, vao = some ⟨vg, vo, none⟩ := by
             rcases (h1.pull 4).tForm with ⟨_, hx⟩ | ⟨g, off, cp, hv⟩
             · rw [hx] at hr; simp at hr
             · simp only [Value.slice.injEq] at hv
               exact ⟨g, off, hv.1⟩
           have e0 : ∀ a e, kidsA L false a e = [] := fun a e => by unfold kidsA; simp
           have hra := ref_answerV (num := 1) (list := false) (path := p) ((h2).pull 12).drew HF.out.1 (Nat.le_trans HF.out.2.2.1 (by decide))
           have S0 := addS (((h2).pull 8).pull 7) HR.out HP.out HPQ.out
           have HS0 := Lib.hid S0
           have SH := addS (((h2.drew).pull 8).pull 7) HR.out HP.out HPQ.out
           clear S0 har hr hpq hFA h1
           go_upto_region 33 with (fail)
           go_region_held3 (fun w' => (w'.cell? ⟨vg, vo + q * 5, none⟩ = some (.int .i64 e1) ∧ w'.cell? ⟨vg, vo + q * 5 + 1, none⟩ = some (.int .i64 1) ∧ w'.cell? ⟨vg, vo + q * 5 + 2, none⟩ = some (.int .i64 a1) ∧ w'.cell? ⟨vg, vo + q * 5 + 3, none⟩ = some (.slice xo 0 xc) ∧ w'.cell? ⟨vg, vo + q * 5 + 4, none⟩ = some (.slice none 0 0)) ∧ w'.cell? ⟨tb, toff + q, none⟩ = some (.string p)) (first | with_reducible exact HS0.out | with_reducible exact SH | with_reducible exact SA | with_reducible exact SE | fail) ((first
             | (go_at_call 37; (with_reducible refine hra.mono ?_); rintro z w20 ⟨a2, e2, v', hA', rfl, h20, k20⟩; obtain ⟨u1, u2⟩ := hA'.uniq HFA.out; subst u1; subst u2; rw [e0] at h20; have SA := addS (((h20).pull 10).pull 9) HR.out HP.out HPQ.out; have zsm := ans_same (e := e2) (ver := 1) (node := a2) ((h20).pull 2) (by decide))
             | (go_at_call 27; (with_reducible refine zsm.mono ?_); rintro z w21 ⟨rfl, h21, k21⟩; have SE := addS (((h21).pull 10).pull 9) HR.out HP.out HPQ.out)))
           all_goals
             go_wp2_with fail
             go_roundw
             case rel =>
               have h22 := hR.2 (((((h21).pull 1).tail).pull 2).pull 1)
               exact ⟨q + 1, by go_num, by omega, (((((((((((h22).pull 11).pull 1).pull 11).pull 11).pull 11).pull 11).pull 11).pull 11).pull 11).pull 11).pull 11, (k1.drew.trans k20).trans k21⟩
             case measure => simp [intOf]; omega
         · obtain rfl : q = j := by omega
           have hql' : ¬ (q : Int) < (q : Int) := by omega
           go_wp2_with fail
           go_ret
           exact ⟨rfl, (h1.pull 6).below k1⟩
section
variable {H : Type} {enc : TypeId × Value → H} {w : World} {base : Nat} {spare : Nat → Bool} {held : Bool}
theorem len_fStA (s : ByteArray) : (fSt s).length = 1 := rfl
theorem open_st (n : Nat) (cs : List Value) (y : DataW H × List MemPlace) (h : DataW.trod enc Tryz.prog w base spare held n 9 cs = some y) (hl : cs.length = 1) : ∃ x : ByteArray, cs = fSt x ∧ True := by
 obtain ⟨x, e, _⟩ := DataW.trod_string Tryz.underlying9 h
 exact ⟨x, e, trivial⟩
end
end Go.Proofs.YtddglbjhhnipgaaGreatDoor

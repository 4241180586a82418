import Derived.Test.YtddglbjhhnipgaaGreatDoorGA
import Derived.Test.YtddglbjhhnipgaaGreatDoorRows
namespace Go.Proofs.YtddglbjhhnipgaaGreatDoor
open Go Go.RowKit
set_option linter.unusedVariables false
set_option linter.unusedSimpArgs false
set_option maxRecDepth 100000
set_option maxHeartbeats 8000000
theorem Tryz.infoMsg : (Tryz.prog.info? 49).map (fun i => (i.zero, i.size, i.bytes)) = some (some (.agg #[.int .i64 0, .int .i64 0, .int .i64 0, .int .i64 0, .int .i64 0, .string ⟨#[]⟩, .slice none 0 0]), 7, 80) := by kernel_rfl
/-- A message: a client, a call's number, what it is; of its data the header alone. -/
structure MsgD where
 client : Int
 call : Int
 kind : Int
 node : Int
 up : Int
 text : ByteArray
 dao : Option Addr
 dn : Nat
 dc : Nat
def fM (m : MsgD) : List Value := [.int .i64 m.client, .int .i64 m.call, .int .i64 m.kind, .int .i64 m.node, .int .i64 m.up, .string m.text, .slice m.dao m.dn m.dc]
def aggM (m : MsgD) : Value := .agg #[.int .i64 m.client, .int .i64 m.call, .int .i64 m.kind, .int .i64 m.node, .int .i64 m.up, .string m.text, .slice m.dao m.dn m.dc]
/-- A queue of messages at block r. -/
def ringM (r : Nat) (most : Int) (xs : List MsgD) (closed : Bool) : HProp :=
 ex fun v => star (own r (.cells #[.int .i64 most, v, .bool closed] 177 (0, 0))) (rowT fM v 49 7 xs)
theorem ringM_I {w : World} {l : List HProp} {r : Nat} {most : Int} {xs : List MsgD} {closed : Bool} {v : Value}
   (hs : Sat w (own r (.cells #[.int .i64 most, v, .bool closed] 177 (0, 0)) :: rowT fM v 49 7 xs :: l)) : Sat w (ringM r most xs closed :: l) :=
 Sat.exI v hs.join
theorem ringM_E {w : World} {l : List HProp} {r : Nat} {most : Int} {xs : List MsgD} {closed : Bool} (hs : Sat w (ringM r most xs closed :: l)) :
   ∃ v, Sat w (own r (.cells #[.int .i64 most, v, .bool closed] 177 (0, 0)) :: rowT fM v 49 7 xs :: l) := by
 obtain ⟨v, h⟩ := hs.exE
 exact ⟨v, h.split⟩
theorem ringM_new (most : Int) (w : World) (l : List HProp) (hs : Sat w l) (h0 : 0 ≤ most) (h1 : most ≤ 65536) :
   Calls Tryz.prog 59 #[.int .i64 most] w fun e w' => ∃ r, e = .returned (.pointer (some ⟨r, 0, none⟩)) ∧ Sat w' (ringM r most [] false :: l) ∧ Kp w w' := by
 go_enter Tryz.func59, Tryz.ntmps59
 go_wp2
 go_ret
 exact ⟨w.heap.size, rfl, ringM_I ((hs.tNil _ _ _).alloc _), (Kp.refl w).alloc _⟩
theorem ringM_new_not (most : Int) (w : World) (h : most < 0 ∨ 65536 < most) :
   Calls Tryz.prog 59 #[.int .i64 most] w fun e w' => e = .returned (.pointer none) ∧ w = w' := by
 rcases h with h | h
 · go_enter Tryz.func59, Tryz.ntmps59
   go_wp2
   go_ret
   exact ⟨rfl, rfl⟩
 · have h0 : 0 ≤ most := by omega
   go_enter Tryz.func59, Tryz.ntmps59
   go_wp2
   go_ret
   exact ⟨rfl, rfl⟩
theorem ringM_close {w : World} {l : List HProp} {r : Nat} {most : Int} {xs : List MsgD} {closed : Bool} (hs : Sat w (ringM r most xs closed :: l)) :
   Calls Tryz.prog 64 #[.pointer (some ⟨r, 0, none⟩)] w fun e w' => e = .returned (.tuple #[]) ∧ Sat w' (ringM r most xs true :: l) ∧ Kp w w' := by
 obtain ⟨v, hv⟩ := ringM_E hs
 have c2 := hv.cell 2
 have f2 := hv.free 2
 simp at c2
 go_enter Tryz.func64, Tryz.ntmps64
 go_wp2
 go_end0
 exact ⟨rfl, ringM_I (hv.set 2 _), (Kp.refl w).setCell _ _⟩
theorem ringM_put_closed {w : World} {l : List HProp} {r : Nat} {most : Int} {m : MsgD} {xs : List MsgD} (hs : Sat w (ringM r most xs true :: l)) :
   Calls Tryz.prog 87 #[.pointer (some ⟨r, 0, none⟩), aggM m] w fun e w' => e = .returned (.int .i64 8) ∧ Sat w' (ringM r most xs true :: l) ∧ Kp w w' := by
 obtain ⟨v, hv⟩ := ringM_E hs
 have c2 := hv.cell 2
 have hr := hv.lt
 simp at c2
 unfold aggM
 go_enter Tryz.func87, Tryz.ntmps87
 go_wp2
 go_ret
 exact ⟨rfl, hs.alloc' _, (Kp.refl w).alloc _⟩
theorem ringM_put_full {w : World} {l : List HProp} {r : Nat} {most : Int} {m : MsgD} {xs : List MsgD} (hs : Sat w (ringM r most xs false :: l)) (hf : most ≤ xs.length) :
   Calls Tryz.prog 87 #[.pointer (some ⟨r, 0, none⟩), aggM m] w fun e w' => e = .returned (.int .i64 7) ∧ Sat w' (ringM r most xs false :: l) ∧ Kp w w' := by
 obtain ⟨v, hv⟩ := ringM_E hs
 have c0 := hv.cell 0
 have c1 := hv.cell 1
 have c2 := hv.cell 2
 have hr := hv.lt
 simp at c0 c1 c2
 obtain ⟨ao, cap, rfl⟩ := (hv.pull 1).tLen
 unfold aggM
 go_enter Tryz.func87, Tryz.ntmps87
 go_wp2
 go_quiet (fail)
 go_wp2
 go_ret
 exact ⟨rfl, (hs.alloc' _).drewN _, ((Kp.refl w).alloc _).drewN _⟩
theorem ringM_put {w : World} {l : List HProp} {r : Nat} {most : Int} {m : MsgD} {xs : List MsgD} (hs : Sat w (ringM r most xs false :: l)) (hf : (xs.length : Int) < most) (hm : most ≤ 65536) :
   Calls Tryz.prog 87 #[.pointer (some ⟨r, 0, none⟩), aggM m] w fun e w' => e = .returned (.int .i64 0) ∧ Sat w' (ringM r most (xs ++ [m]) false :: l) ∧ Kp w w' := by
 obtain ⟨v, hv⟩ := ringM_E hs
 have c0 := hv.cell 0
 have c1 := hv.cell 1
 have c2 := hv.cell 2
 have f1 := hv.free 1
 have hr := hv.lt
 obtain ⟨i0, hi, hz0, hz1, hz2⟩ := info_parts Tryz.infoMsg
 simp at c0 c1 c2
 obtain ⟨ao, cap, rfl⟩ := (hv.pull 1).tLen
 unfold aggM
 go_enter Tryz.func87, Tryz.ntmps87
 go_wp2
 go_quiet (fail)
 go_wp2
 have hB := (((hv.alloc (.cells #[.int .i64 m.client, .int .i64 m.call, .int .i64 m.kind, .int .i64 m.node, .int .i64 m.up, .string m.text, .slice m.dao m.dn m.dc] 49)).drewN nq).push 2)
 have kB := (((Kp.refl w).alloc (.cells #[.int .i64 m.client, .int .i64 m.call, .int .i64 m.kind, .int .i64 m.node, .int .i64 m.up, .string m.text, .slice m.dao m.dn m.dc] 49)).drewN nq)
 generalize w.heap.size = B at hB hr ⊢
 generalize (w.alloc _).drewN nq = w1 at hB kB ⊢
 clear hv c0 c1 c2 f1 hs
 have c0 := hB.cell 0
 have c1 := hB.cell 1
 have f1 := hB.free 1
 have hrl := hB.lt
 have hBl := (hB.pull 2).lt
 have d0 := (hB.pull 2).cell 0
 have d1 := (hB.pull 2).cell 1
 have d2 := (hB.pull 2).cell 2
 have d3 := (hB.pull 2).cell 3
 have d4 := (hB.pull 2).cell 4
 have d5 := (hB.pull 2).cell 5
 have d6 := (hB.pull 2).cell 6
 simp at c0 c1 d0 d1 d2 d3 d4 d5 d6
 go_region_law ((refine step_append_lit (by rfl) (.tmp 25) (.tmp 27) 175 (by rfl) 49 i0 _ 7 80 Tryz.underlying175 hi hz0 hz1 hz2 (by rfl) (by omega) _ _ _ _ _ _ _ (by rfl) (Sat.pull 2 (hB.drew.alloc _)) 0 1 (by rfl) (by rfl) (by rfl) (by unfold maxLen; omega) (by omega) ?_; intro g off q cap' w2 h2 k2; have e1 := (h2.pull 2).cell 1; have e2 := (h2.pull 2).free 1; simp at e1))
 all_goals
   go_wp2
   go_ret
   have h3 := (((((h2.pull 2).set 1 (.slice (some ⟨g, off, none⟩) q cap')).pull 2).tail.pull 2).tail).pull 1
   exact ⟨rfl, ringM_I ((Sat.tSnoc (f := fM) (x := m) h3 rfl).pull 1), ((kB.drew.alloc _).trans k2).setCell _ _⟩
end Go.Proofs.YtddglbjhhnipgaaGreatDoor

import Derived.Test.YtddglbjhhnipgaaGreatDoorRingM
import Derived.Deep.CutBlock
import Derived.Deep.DeepCutAuto
namespace Go.Proofs.YtddglbjhhnipgaaGreatDoor
open Go Go.RowKit
set_option linter.unusedVariables false
set_option linter.unusedSimpArgs false
set_option maxRecDepth 100000
set_option maxHeartbeats 8000000
theorem len_fM : ∀ xs : List MsgD, (xs.flatMap fM).length = xs.length * 7
 | [] => rfl
 | x :: xs => by rw [List.flatMap_cons, List.length_append, len_fM xs]; simp [fM]; omega
theorem one_fM (xs : List MsgD) : ∀ u ∈ xs.flatMap fM, u.oneCell' = true := by
 intro u hu
 rw [List.mem_flatMap] at hu
 obtain ⟨x, _, hx⟩ := hu
 simp [fM] at hx
 rcases hx with rfl | rfl | rfl | rfl | rfl | rfl | rfl <;> rfl
def zeroM : MsgD := ⟨0, 0, 0, 0, 0, ⟨#[]⟩, none, 0, 0⟩
theorem ringM_take_none {w : World} {l : List HProp} {r : Nat} {most : Int} {closed : Bool} (hs : Sat w (ringM r most [] closed :: l)) :
   Calls Tryz.prog 69 #[.pointer (some ⟨r, 0, none⟩)] w fun e w' => e = .returned (.tuple #[aggM zeroM, .bool false]) ∧ Sat w' (ringM r most [] closed :: l) ∧ Kp w w' := by
 obtain ⟨v, hv⟩ := ringM_E hs
 have c1 := hv.cell 1
 have hr := hv.lt
 simp at c1
 obtain ⟨ao, cap, rfl⟩ := (hv.pull 1).tLen
 go_enter Tryz.func69, Tryz.ntmps69
 go_wp2
 exact bodyPost_ret (v := .tuple #[aggM zeroM, .bool false]) (by simp [results, Tryz.results69, go_sem, aggM, zeroM]) rfl ⟨rfl, hs.belowed (by repeat (first | exact Below.refl _ _ | refine Below.alloc ?_ (by simp) _ | refine Below.setCell ?_ (by simp) _ | refine Below.drew ?_))⟩
theorem ringM_take {w : World} {l : List HProp} {r : Nat} {most : Int} {m : MsgD} {xs : List MsgD} {closed : Bool} (hs : Sat w (ringM r most (m :: xs) closed :: l)) (hn : xs.length < 65536) :
   Calls Tryz.prog 69 #[.pointer (some ⟨r, 0, none⟩)] w fun e w' => e = .returned (.tuple #[aggM m, .bool true]) ∧ Sat w' (ringM r most xs closed :: l) ∧ Kp w w' := by
 obtain ⟨v, hv⟩ := ringM_E hs
 have c1 := hv.cell 1
 have f1 := hv.free 1
 have hr := hv.lt
 obtain ⟨i0, hi, hz0, hz1, hz2⟩ := info_parts Tryz.infoMsg
 simp at c1
 obtain ⟨g, off, cap, rfl⟩ := (hv.pull 1).tSome
 have hcap := (hv.pull 1).tCap.1
 have k0 := (hv.pull 1).rowCell 0 (by omega)
 have k1 := (hv.pull 1).rowCell 1 (by omega)
 have k2 := (hv.pull 1).rowCell 2 (by omega)
 have k3 := (hv.pull 1).rowCell 3 (by omega)
 have k4 := (hv.pull 1).rowCell 4 (by omega)
 have k5 := (hv.pull 1).rowCell 5 (by omega)
 have k6 := (hv.pull 1).rowCell 6 (by omega)
 simp [fM] at k0 k1 k2 k3 k4 k5 k6 hcap
 have hg : g < w.heap.size := World.block_lt_of_cell? _ _ k0
 have hA := (hv.alloc (.cells #[.int .i64 0, .int .i64 0, .int .i64 0, .int .i64 0, .int .i64 0, .string ⟨#[]⟩, .slice none 0 0] 49)).alloc (.cells #[.int .i64 m.client, .int .i64 m.call, .int .i64 m.kind, .int .i64 m.node, .int .i64 m.up, .string m.text, .slice m.dao m.dn m.dc] 49)
 have kA := ((Kp.refl w).alloc (.cells #[.int .i64 0, .int .i64 0, .int .i64 0, .int .i64 0, .int .i64 0, .string ⟨#[]⟩, .slice none 0 0] 49)).alloc (.cells #[.int .i64 m.client, .int .i64 m.call, .int .i64 m.kind, .int .i64 m.node, .int .i64 m.up, .string m.text, .slice m.dao m.dn m.dc] 49)
 simp only [World.size_alloc] at hA
 cases xs with
 | nil =>
   simp at hcap
   go_enter Tryz.func69, Tryz.ntmps69
   go_upto_region 6 with (fail)
   clear k0 k1 k2 k3 k4 k5 k6 c1 f1 hv hs
   generalize hW : (w.alloc _).alloc _ = w1 at hA kA ⊢
   clear hW
   generalize w.heap.size + 1 = b6 at hA ⊢
   generalize w.heap.size = b2 at hA hg hr ⊢
   have c1 := (hA.pull 2).cell 1
   have f1 := (hA.pull 2).free 1
   have hrl := (hA.pull 2).lt
   simp at c1
   have hE := hA.rowEmpty 49 7
   go_wp2_with (at_builtin; refine wpList_append_row rfl (.tmp 22) (.tmp 29) 175 rfl 49 i0 _ 7 80 Tryz.underlying175 hi hz0 hz1 hz2 rfl (by decide) _ _ _ _ rfl hE ⟨g, off, none⟩ 0 0 [] rfl rfl ?c1 ?c2 ?c3 ?c4 ?c5)
   case c1 => intro j u h; simp at h
   case c2 => intro u h; simp at h
   case c3 => unfold maxLen; omega
   case c4 => omega
   case c5 =>
     intro v' w2 hs1 hk
     have hs2 := hs1.pull 3
     have d1 := hs2.cell 1
     have g1 := hs2.free 1
     simp at d1
     obtain ⟨ao', n', cap', rfl⟩ := hs1.rowSlice
     go_upto_region 7 with (fail)
     have h3 := hs2.set 1 (.slice ao' n' cap')
     have k3 := (kA.alloc (.cells #[] 49)).trans hk |>.setCell ⟨r, 1, none⟩ (.slice ao' n' cap')
     generalize hW3 : w2.setCell _ _ = w3 at h3 k3 ⊢
     clear hW3 hs1 hs2 d1 g1 hk
     have q0 := (h3.pull 2).cell 0
     have q1 := (h3.pull 2).cell 1
     have q2 := (h3.pull 2).cell 2
     have q3 := (h3.pull 2).cell 3
     have q4 := (h3.pull 2).cell 4
     have q5 := (h3.pull 2).cell 5
     have q6 := (h3.pull 2).cell 6
     have r0 := (h3.pull 3).cell 0
     have r1 := (h3.pull 3).cell 1
     have r2 := (h3.pull 3).cell 2
     have r3 := (h3.pull 3).cell 3
     have r4 := (h3.pull 3).cell 4
     have r5 := (h3.pull 3).cell 5
     have r6 := (h3.pull 3).cell 6
     have s0 := (h3.pull 3).free 0
     have s1 := (h3.pull 3).free 1
     have s2 := (h3.pull 3).free 2
     have s3 := (h3.pull 3).free 3
     have s4 := (h3.pull 3).free 4
     have s5 := (h3.pull 3).free 5
     have s6 := (h3.pull 3).free 6
     simp at q0 q1 q2 q3 q4 q5 q6 r0 r1 r2 r3 r4 r5 r6
     go_wp2
     have hF := ((((((((h3.pull 3).set 0 (.int .i64 m.client)).set 1 (.int .i64 m.call)).set 2 (.int .i64 m.kind)).set 3 (.int .i64 m.node)).set 4 (.int .i64 m.up)).set 5 (.string m.text)).set 6 (.slice m.dao m.dn m.dc))
     have z0 := hF.cell 0
     have z1 := hF.cell 1
     have z2 := hF.cell 2
     have z3 := hF.cell 3
     have z4 := hF.cell 4
     have z5 := hF.cell 5
     have z6 := hF.cell 6
     simp at z0 z1 z2 z3 z4 z5 z6
     have kF := ((((((k3.setCell ⟨b2, 0, none⟩ (.int .i64 m.client)).setCell ⟨b2, 1, none⟩ (.int .i64 m.call)).setCell ⟨b2, 2, none⟩ (.int .i64 m.kind)).setCell ⟨b2, 3, none⟩ (.int .i64 m.node)).setCell ⟨b2, 4, none⟩ (.int .i64 m.up)).setCell ⟨b2, 5, none⟩ (.string m.text)).setCell ⟨b2, 6, none⟩ (.slice m.dao m.dn m.dc)
     exact bodyPost_ret (v := .tuple #[aggM m, .bool true]) (by simp [results, Tryz.results69, go_sem, aggM, z0, z1, z2, z3, z4, z5, z6]) rfl ⟨rfl, ringM_I (((((hF.tail.pull 2).tail.pull 2).tail.pull 1).tOf [] (rfl) (rfl)).pull 1), kF⟩
 | cons y ys =>
   simp at hcap hn
   go_enter Tryz.func69, Tryz.ntmps69
   go_upto_region 6 with (fail)
   clear k0 k1 k2 k3 k4 k5 k6 c1 f1 hv hs
   generalize hW : (w.alloc _).alloc _ = w1 at hA kA ⊢
   clear hW
   generalize w.heap.size + 1 = b6 at hA ⊢
   generalize w.heap.size = b2 at hA hg hr ⊢
   have c1 := (hA.pull 2).cell 1
   have f1 := (hA.pull 2).free 1
   have hrl := (hA.pull 2).lt
   simp at c1
   have hE := hA.rowEmpty 49 7
   have hlg := (hA.pull 3).rowBlock
   have hy : ∀ j u, ((y :: ys).flatMap fM)[j]? = some u → (w1.alloc (.cells #[] 49)).cell? ⟨g, off + 7 + j, none⟩ = some u := by
     intro j u hj
     have hlt := (List.getElem?_eq_some_iff.1 hj).1
     rw [len_fM] at hlt
     rw [World.cell?_alloc_lt _ _ _ hlg, Nat.add_assoc, (hA.pull 3).rowCell (7 + j) (by simp at hlt ⊢; omega)]
     rw [List.flatMap_cons, List.getElem?_append_right (by simp [fM])]
     simpa [fM] using hj
   go_wp2_with (at_builtin; refine wpList_append_row rfl (.tmp 22) (.tmp 29) 175 rfl 49 i0 _ 7 80 Tryz.underlying175 hi hz0 hz1 hz2 rfl (by decide) _ _ _ _ rfl hE ⟨g, off + 7, none⟩ (ys.length + 1) (ys.length + 1) ((y :: ys).flatMap fM) rfl ?c0 ?c1 ?c2 ?c3 ?c4 ?c5)
   case c0 => rw [len_fM]; simp
   case c1 => intro j u hj; rw [Addr.add_lit]; exact hy j u hj
   case c2 => exact one_fM _
   case c3 => unfold maxLen; omega
   case c4 => omega
   case c5 =>
     intro v' w2 hs1 hk
     have hs2 := hs1.pull 3
     have d1 := hs2.cell 1
     have g1 := hs2.free 1
     simp at d1
     obtain ⟨g', off', m', cap', rfl⟩ := hs1.rowSome
     go_upto_region 7 with (fail)
     have h3 := hs2.set 1 (.slice (some ⟨g', off', none⟩) m' cap')
     have k3 := (kA.alloc (.cells #[] 49)).trans hk |>.setCell ⟨r, 1, none⟩ (.slice (some ⟨g', off', none⟩) m' cap')
     generalize hW3 : w2.setCell _ _ = w3 at h3 k3 ⊢
     clear hW3 hs1 hs2 d1 g1 hk
     have q0 := (h3.pull 2).cell 0
     have q1 := (h3.pull 2).cell 1
     have q2 := (h3.pull 2).cell 2
     have q3 := (h3.pull 2).cell 3
     have q4 := (h3.pull 2).cell 4
     have q5 := (h3.pull 2).cell 5
     have q6 := (h3.pull 2).cell 6
     have r0 := (h3.pull 3).cell 0
     have r1 := (h3.pull 3).cell 1
     have r2 := (h3.pull 3).cell 2
     have r3 := (h3.pull 3).cell 3
     have r4 := (h3.pull 3).cell 4
     have r5 := (h3.pull 3).cell 5
     have r6 := (h3.pull 3).cell 6
     have s0 := (h3.pull 3).free 0
     have s1 := (h3.pull 3).free 1
     have s2 := (h3.pull 3).free 2
     have s3 := (h3.pull 3).free 3
     have s4 := (h3.pull 3).free 4
     have s5 := (h3.pull 3).free 5
     have s6 := (h3.pull 3).free 6
     simp at q0 q1 q2 q3 q4 q5 q6 r0 r1 r2 r3 r4 r5 r6
     go_wp2
     have hF := ((((((((h3.pull 3).set 0 (.int .i64 m.client)).set 1 (.int .i64 m.call)).set 2 (.int .i64 m.kind)).set 3 (.int .i64 m.node)).set 4 (.int .i64 m.up)).set 5 (.string m.text)).set 6 (.slice m.dao m.dn m.dc))
     have z0 := hF.cell 0
     have z1 := hF.cell 1
     have z2 := hF.cell 2
     have z3 := hF.cell 3
     have z4 := hF.cell 4
     have z5 := hF.cell 5
     have z6 := hF.cell 6
     simp at z0 z1 z2 z3 z4 z5 z6
     have kF := ((((((k3.setCell ⟨b2, 0, none⟩ (.int .i64 m.client)).setCell ⟨b2, 1, none⟩ (.int .i64 m.call)).setCell ⟨b2, 2, none⟩ (.int .i64 m.kind)).setCell ⟨b2, 3, none⟩ (.int .i64 m.node)).setCell ⟨b2, 4, none⟩ (.int .i64 m.up)).setCell ⟨b2, 5, none⟩ (.string m.text)).setCell ⟨b2, 6, none⟩ (.slice m.dao m.dn m.dc)
     exact bodyPost_ret (v := .tuple #[aggM m, .bool true]) (by simp [results, Tryz.results69, go_sem, aggM, z0, z1, z2, z3, z4, z5, z6]) rfl ⟨rfl, ringM_I (((((hF.tail.pull 2).tail.pull 2).tail.pull 1).tOf (y :: ys) (by simp) (by simp)).pull 1), kF⟩
/-- A reply that lies, or doesn't; of its lists the headers alone. -/
structure RepD where
 e : Int
 version : Int
 node : Int
 kao : Option Addr
 kn : Nat
 kc : Nat
 dao : Option Addr
 dn : Nat
 dc : Nat
 lies : Bool
def fR (r : RepD) : List Value := [.int .i64 r.e, .int .i64 r.version, .int .i64 r.node, .slice r.kao r.kn r.kc, .slice r.dao r.dn r.dc, .bool r.lies]
def aggA (r : RepD) : Value := .agg #[.int .i64 r.e, .int .i64 r.version, .int .i64 r.node, .slice r.kao r.kn r.kc, .slice r.dao r.dn r.dc]
def zeroR : RepD := ⟨0, 0, 0, none, 0, 0, none, 0, 0, false⟩
/-- What lies on a desk. -/
structure DeskD where
 n : Int
 ks : Int
 kg : Int
 ss : Int
 sg : Int
 epoch : Int
 pins : List Int
 reps : List RepD
 most : Int
 msgs : List MsgD
 closed : Bool
 acc : Int
def deskC (D : DeskD) (vp vr : Value) (q : Nat) : Array Value := #[.int .i64 D.n, .int .i64 D.ks, .int .i64 D.kg, .int .i64 D.ss, .int .i64 D.sg, .int .i64 D.epoch, vp, vr, .pointer (some ⟨q, 0, none⟩), .int .i64 D.acc]
/-- A desk at block d. -/
def deskP (d : Nat) (D : DeskD) : HProp :=
 ex fun vp => ex fun vr => ex fun q => all [own d (.cells (deskC D vp vr q) 128 (0, 0)), rowT fI vp 3 1 D.pins, rowT fR vr 141 6 D.reps, ringM q D.most D.msgs D.closed]
theorem deskP_I {w : World} {l : List HProp} {d : Nat} {D : DeskD} {vp vr : Value} {q : Nat}
   (hs : Sat w (own d (.cells (deskC D vp vr q) 128 (0, 0)) :: rowT fI vp 3 1 D.pins :: rowT fR vr 141 6 D.reps :: ringM q D.most D.msgs D.closed :: l)) : Sat w (deskP d D :: l) :=
 Sat.exI vp (Sat.exI vr (Sat.exI q (Sat.allI hs)))
theorem deskP_E {w : World} {l : List HProp} {d : Nat} {D : DeskD} (hs : Sat w (deskP d D :: l)) :
   ∃ vp vr q, Sat w (own d (.cells (deskC D vp vr q) 128 (0, 0)) :: rowT fI vp 3 1 D.pins :: rowT fR vr 141 6 D.reps :: ringM q D.most D.msgs D.closed :: l) := by
 obtain ⟨vp, h⟩ := hs.exE
 obtain ⟨vr, h⟩ := h.exE
 obtain ⟨q, h⟩ := h.exE
 exact ⟨vp, vr, q, h.allE⟩
/-! ### the cells -/
theorem at_int {w : World} {d k n cap i : Nat} {g off : Nat} (hc : w.cell? ⟨d, k, none⟩ = some (.slice (some ⟨g, off, none⟩) n cap)) (hi : i < n) :
   Calls Tryz.prog 88 #[.pointer (some ⟨d, k, none⟩), .int .i64 i] w fun e w' => e = .returned (.pointer (some ⟨g, off + i, none⟩)) ∧ w = w' := by
 have i0 : (0 : Int) ≤ (i : Int) := by omega
 have i1 : (i : Int) < (n : Int) := by omega
 go_enter Tryz.func88, Tryz.ntmps88
 go_wp2
 go_ret
 exact ⟨rfl, rfl⟩
theorem at_int_not {w : World} {d k n cap : Nat} {i : Int} {ao : Option Addr} (hc : w.cell? ⟨d, k, none⟩ = some (.slice ao n cap)) (hi : i < 0 ∨ (n : Int) ≤ i) :
   Calls Tryz.prog 88 #[.pointer (some ⟨d, k, none⟩), .int .i64 i] w fun e w' => e = .returned (.pointer none) ∧ w = w' := by
 rcases hi with hi | hi
 · go_enter Tryz.func88, Tryz.ntmps88
   go_wp2
   go_ret
   exact ⟨rfl, rfl⟩
 · have h0 : 0 ≤ i := by omega
   go_enter Tryz.func88, Tryz.ntmps88
   go_wp2
   go_ret
   exact ⟨rfl, rfl⟩
theorem at_rep {w : World} {d k n cap i : Nat} {g off : Nat} (hc : w.cell? ⟨d, k, none⟩ = some (.slice (some ⟨g, off, none⟩) n cap)) (hi : i < n) :
   Calls Tryz.prog 70 #[.pointer (some ⟨d, k, none⟩), .int .i64 i] w fun e w' => e = .returned (.pointer (some ⟨g, off + i * 6, none⟩)) ∧ w = w' := by
 have i0 : (0 : Int) ≤ (i : Int) := by omega
 have i1 : (i : Int) < (n : Int) := by omega
 go_enter Tryz.func70, Tryz.ntmps70
 go_wp2
 go_ret
 exact ⟨rfl, rfl⟩
theorem at_rep_not {w : World} {d k n cap : Nat} {i : Int} {ao : Option Addr} (hc : w.cell? ⟨d, k, none⟩ = some (.slice ao n cap)) (hi : i < 0 ∨ (n : Int) ≤ i) :
   Calls Tryz.prog 70 #[.pointer (some ⟨d, k, none⟩), .int .i64 i] w fun e w' => e = .returned (.pointer none) ∧ w = w' := by
 rcases hi with hi | hi
 · go_enter Tryz.func70, Tryz.ntmps70
   go_wp2
   go_ret
   exact ⟨rfl, rfl⟩
 · have h0 : 0 ≤ i := by omega
   go_enter Tryz.func70, Tryz.ntmps70
   go_wp2
   go_ret
   exact ⟨rfl, rfl⟩
end Go.Proofs.YtddglbjhhnipgaaGreatDoor

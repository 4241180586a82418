import Derived.Test.YtddglbjhhnipgaaGreatDoorGA
import Derived.Test.YtddglbjhhnipgaaGreatDoorIJ
import Derived.Defers
namespace Go.Proofs.YtddglbjhhnipgaaGreatDoor
open Go Go.RowKit
set_option linter.unusedVariables false
set_option linter.unusedSimpArgs false
set_option maxRecDepth 100000
set_option maxHeartbeats 8000000
/-! append of a list of the call's own -/
section
variable {P : Program} {w : World}
theorem run_append_rows (t ty e : TypeId) (i : TypeInfo) (z : Value) (size bytes : Nat) (ht : P.underlying t = some (.slice e)) (hi : P.info? e = some i) (hz : i.zero = some z)
   (hsize : i.size = size) (hby : i.bytes = bytes) (hzs : z.cells.size = size) (hsz : 0 < size)
   {v v2 : Value} {α : Type} {f : α → List Value} {xs ys : List α} {l : List HProp} (hs : Sat w (rowT f v e size xs :: rowT f v2 e size ys :: l)) (hf : ∀ x, (f x).length = size) (h1 : ∀ u ∈ ys.flatMap f, u.oneCell' = true)
   (h63 : xs.length + ys.length ≤ maxLen) (hbytes : (xs.length + ys.length) * bytes ≤ 140737488355328) :
   ∃ ao m c w', (Builtin.append_ #[t, t] ty #[v, v2]).run P w = .ok (.slice ao m c) w' ∧ Sat w' (rowT f (.slice ao m c) e size (xs ++ ys) :: rowT f v2 e size ys :: l) ∧ Kp w w' := by
 rcases (hs.pull 1).tForm with ⟨rfl, rfl⟩ | ⟨g, off, cap, rfl⟩
 · rw [List.append_nil]
   rcases hs.tForm with ⟨rfl, rfl⟩ | ⟨g, off, cap, rfl⟩
   · exact ⟨_, _, _, w, run_append_none t ty e i ht hi none 0 0 0 (Nat.le_refl _), hs, Kp.refl w⟩
   · exact ⟨_, _, _, w, run_append_none t ty e i ht hi _ _ cap 0 hs.tCap.1, hs, Kp.refl w⟩
 · have hl : (ys.flatMap f).length = ys.length * size := len_flatA hf ys
   obtain ⟨v', w', hr, h2, h3⟩ := run_append_row (P := P) t ty e i z size bytes ht hi hz hsize hby hzs hsz hs ⟨g, off, none⟩ ys.length cap (ys.flatMap f) hl (fun j u hj => by
     have hlt := (List.getElem?_eq_some_iff.1 hj).1
     rw [hl] at hlt
     rw [Addr.add_lit, (hs.pull 1).rowCell j hlt]
     exact hj) h1 h63 hbytes
   have h4 := h2.tOf (f := f) (xs ++ ys) (by simp) (by simp)
   obtain ⟨ao, c, rfl⟩ := h4.tLen
   exact ⟨ao, _, c, w', hr, h4, h3⟩
theorem step_append_rows {ops : Array Oper} {o : Oper} {a : Act} {K : Act → World → Prop} {Q : Exit → Act → World → Prop} {E : Prop} (hgd : o.guard = none) (s x : Operand) (t : TypeId)
   (ho : o.op = .call { callee := .builtin .append, args := #[s, x], argTypes := #[t, t] })
   (e : TypeId) (i : TypeInfo) (z : Value) (size bytes : Nat) (ht : P.underlying t = some (.slice e)) (hi : P.info? e = some i) (hz : i.zero = some z)
   (hsize : i.size = size) (hby : i.bytes = bytes) (hzs : z.cells.size = size) (hsz : 0 < size)
   (v v2 : Value) {α : Type} (f : α → List Value) (xs ys : List α) (l : List HProp) (hv : a.eval s = v) (hx : a.eval x = v2) (hs : Sat w (rowT f v e size xs :: rowT f v2 e size ys :: l)) (hf : ∀ x, (f x).length = size) (h1 : ∀ u ∈ ys.flatMap f, u.oneCell' = true)
   (h63 : xs.length + ys.length ≤ maxLen) (hbytes : (xs.length + ys.length) * bytes ≤ 140737488355328)
   (h : ∀ ao m c w', Sat w' (rowT f (.slice ao m c) e size (xs ++ ys) :: rowT f v2 e size ys :: l) → Kp w w' → K (a.put o.dst (.slice ao m c)) w') :
   if Region.wanted o (yielded ops a.tmps) = true then Oper.wp P o a w K Q else E := by
 have hw : Region.wanted o (yielded ops a.tmps) = true := by simp [Region.wanted, hgd]
 rw [if_pos hw]
 obtain ⟨ao, m, c, w', hr, h2, h3⟩ := run_append_rows (P := P) t o.type e i z size bytes ht hi hz hsize hby hzs hsz hs hf h1 h63 hbytes
 unfold Oper.wp execOp
 simp only [ho, resolve, invoke, builtin, Sem.run_bind, Sem.run_pure, Result.andThen_ok, List.map_toArray, List.map_cons, List.map_nil, hv, hx, hr]
 exact h ao m c w' h2 h3
end
/-! ### a version that is made -/
structure WorkD where
 v : VerD
 km : List Hd
 kg : List Hd
 sm : List Hd
 sg : List Hd
 done : Bool
def workC (s : Nat) (D : WorkD) (k1 k2 k3 k4 : Value) : Array Value := #[.pointer (some ⟨s, 0, none⟩), .int .i64 D.v.n, .int .i64 D.v.ks, .int .i64 D.v.kg, .int .i64 D.v.ss, .int .i64 D.v.sg, k1, k2, k3, k4, .bool D.done]
def workP (W s : Nat) (D : WorkD) : HProp :=
 ex fun k1 => ex fun k2 => ex fun k3 => ex fun k4 => all [own W (.cells (workC s D k1 k2 k3 k4) 169 (0, 0)), rowT fH k1 56 2 D.km, rowT fH k2 56 2 D.kg, rowT fH k3 56 2 D.sm, rowT fH k4 56 2 D.sg]
theorem workP_I {w : World} {l : List HProp} {W s : Nat} {D : WorkD} {k1 k2 k3 k4 : Value} (hs : Sat w (own W (.cells (workC s D k1 k2 k3 k4) 169 (0, 0)) :: rowT fH k1 56 2 D.km :: rowT fH k2 56 2 D.kg :: rowT fH k3 56 2 D.sm :: rowT fH k4 56 2 D.sg :: l)) : Sat w (workP W s D :: l) := Sat.exI k1 (Sat.exI k2 (Sat.exI k3 (Sat.exI k4 (Sat.allI hs))))
theorem workP_E {w : World} {l : List HProp} {W s : Nat} {D : WorkD} (hs : Sat w (workP W s D :: l)) :
   ∃ k1 k2 k3 k4, Sat w (own W (.cells (workC s D k1 k2 k3 k4) 169 (0, 0)) :: rowT fH k1 56 2 D.km :: rowT fH k2 56 2 D.kg :: rowT fH k3 56 2 D.sm :: rowT fH k4 56 2 D.sg :: l) := by
 obtain ⟨a, h⟩ := hs.exE
 obtain ⟨b, h⟩ := h.exE
 obtain ⟨c, h⟩ := h.exE
 obtain ⟨d, h⟩ := h.exE
 exact ⟨a, b, c, d, h.allE⟩
theorem one_fHC (xs : List Hd) : ∀ u ∈ xs.flatMap fH, u.oneCell' = true := by
 intro u hu
 obtain ⟨x, _, hx⟩ := List.mem_flatMap.1 hu
 simp only [fH, List.mem_cons, List.not_mem_nil, or_false] at hx
 rcases hx with rfl | rfl <;> rfl
theorem work_kids {w : World} {l : List HProp} {W s : Nat} {D : WorkD} {h : Hd} {mv gv : Value} {ms gs : List Hd}
   (hs : Sat w (workP W s D :: rowT fH mv 56 2 ms :: rowT fH gv 56 2 gs :: l)) (z1 : D.km.length + ms.length ≤ 10000000) (z2 : D.kg.length + gs.length ≤ 10000000) :
   Calls Tryz.prog 112 #[.pointer (some ⟨W, 0, none⟩), .agg #[.int .i64 h.s, .int .i64 h.g, mv, gv], .bool true] w fun e w' => e = .returned (.bool true) ∧ Sat w' (workP W s { D with v := { D.v with ks := h.s, kg := h.g }, km := D.km ++ ms, kg := D.kg ++ gs } :: l) ∧ Kp w w' := by
 obtain ⟨i1, hj, hy0, hy1, hy2⟩ := info_parts Tryz.infoHdK
 obtain ⟨mo, mc, rfl⟩ := (hs.pull 1).tLen
 obtain ⟨go, gc, rfl⟩ := (hs.pull 2).tLen
 have hB := hs.alloc (.cells #[.int .i64 h.s, .int .i64 h.g, .slice mo ms.length mc, .slice go gs.length gc] 200)
 have kB := (Kp.refl w).alloc (.cells #[.int .i64 h.s, .int .i64 h.g, .slice mo ms.length mc, .slice go gs.length gc] 200)
 clear hs
 go_enter Tryz.func112, Tryz.ntmps112
 go_upto_region 1 with (fail)
 generalize World.alloc _ _ = w1 at hB kB ⊢
 generalize w.heap.size = B at hB ⊢
 obtain ⟨k1, k2, k3, k4, h2⟩ := workP_E (hB.pull 1)
 have c2 := (h2).cell 2
 have c3 := (h2).cell 3
 have c6 := (h2).cell 6
 have c7 := (h2).cell 7
 have cf2 := (h2).free 2
 have cf3 := (h2).free 3
 have cf6 := (h2).free 6
 have cf7 := (h2).free 7
 simp [workC] at c2 c3 c6 c7
 have b0 := (h2.pull 5).cell 0
 have b1 := (h2.pull 5).cell 1
 have b2 := (h2.pull 5).cell 2
 have b3 := (h2.pull 5).cell 3
 simp at b0 b1 b2 b3
 have hwl := h2.lt
 have hbl := (h2.pull 5).lt
 have hne := (h2.pull 5).ne
 have hne2 := hne.symm
 have h3 := (h2.set 2 (.int .i64 h.s)).set 3 (.int .i64 h.g)
 have k3' := (kB.setCell ⟨W, 2, none⟩ (.int .i64 h.s)).setCell ⟨W, 3, none⟩ (.int .i64 h.g)
 go_upto_region 3 with (fail)
 generalize World.setCell _ _ _ = w2 at h3 k3' ⊢
 clear h2 hwl hbl hne hne2 hB kB c2 cf2 c3 cf3 c6 cf6 c7 cf7 b0 b1 b2 b3
 have c6 := (h3).cell 6
 have c7 := (h3).cell 7
 simp [workC] at c6 c7
 have b1 := (h3.pull 5).cell 1
 have b2 := (h3.pull 5).cell 2
 simp at b1 b2
 have hA := ((h3.pull 6).pull 2).drew
 go_region_law ((refine step_append_rows (by rfl) (.tmp 19) (.tmp 21) 92 (by rfl) 56 i1 _ 2 16 Tryz.underlying92 hj hy0 hy1 hy2 (by rfl) (by omega) _ _ fH _ _ _ (by rfl) (by rfl) hA len_fH (one_fHC _) (by unfold maxLen; omega) (by omega) ?_; intro ao m c w3 h6 k6; have e6 := (h6.pull 2).cell 6; have ef6 := (h6.pull 2).free 6; simp [workC] at e6))
 all_goals
   have h7 := (h6.pull 2).set 6 (.slice ao m c)
   have k7 := (k3'.drew.trans k6).setCell ⟨W, 6, none⟩ (.slice ao m c)
   go_upto_region 4 with (fail)
   generalize World.setCell _ _ _ = w4 at h7 k7 ⊢
   clear hA h6 k6 e6 ef6 c6 c7 b1 b2
   have c7 := (h7).cell 7
   simp [workC] at c7
   have b3 := (h7.pull 6).cell 3
   simp at b3
   have hA2 := ((h7.pull 7).pull 4).drew
   go_region_law ((refine step_append_rows (by rfl) (.tmp 31) (.tmp 33) 92 (by rfl) 56 i1 _ 2 16 Tryz.underlying92 hj hy0 hy1 hy2 (by rfl) (by omega) _ _ fH _ _ _ (by rfl) (by rfl) hA2 len_fH (one_fHC _) (by unfold maxLen; omega) (by omega) ?_; intro ao2 m2 c2 w5 h8 k8; have e7 := (h8.pull 2).cell 7; have ef7 := (h8.pull 2).free 7; simp [workC] at e7))
   all_goals
     have h9 := (h8.pull 2).set 7 (.slice ao2 m2 c2)
     have k9 := (k7.drew.trans k8).setCell ⟨W, 7, none⟩ (.slice ao2 m2 c2)
     go_wp2_with fail
     go_ret
     have h10 := ((((h9.pull 3).swap.pull 3).tail.pull 3).tail.pull 5).tail
     exact ⟨rfl, workP_I (D := { D with v := { D.v with ks := h.s, kg := h.g }, km := D.km ++ ms, kg := D.kg ++ gs }) h10, k9⟩
theorem work_spots {w : World} {l : List HProp} {W s : Nat} {D : WorkD} {h : Hd} {mv gv : Value} {ms gs : List Hd}
   (hs : Sat w (workP W s D :: rowT fH mv 56 2 ms :: rowT fH gv 56 2 gs :: l)) (z1 : D.sm.length + ms.length ≤ 10000000) (z2 : D.sg.length + gs.length ≤ 10000000) :
   Calls Tryz.prog 115 #[.pointer (some ⟨W, 0, none⟩), .agg #[.int .i64 h.s, .int .i64 h.g, mv, gv], .bool true] w fun e w' => e = .returned (.bool true) ∧ Sat w' (workP W s { D with v := { D.v with ss := h.s, sg := h.g }, sm := D.sm ++ ms, sg := D.sg ++ gs } :: l) ∧ Kp w w' := by
 obtain ⟨i1, hj, hy0, hy1, hy2⟩ := info_parts Tryz.infoHdK
 obtain ⟨mo, mc, rfl⟩ := (hs.pull 1).tLen
 obtain ⟨go, gc, rfl⟩ := (hs.pull 2).tLen
 have hB := hs.alloc (.cells #[.int .i64 h.s, .int .i64 h.g, .slice mo ms.length mc, .slice go gs.length gc] 200)
 have kB := (Kp.refl w).alloc (.cells #[.int .i64 h.s, .int .i64 h.g, .slice mo ms.length mc, .slice go gs.length gc] 200)
 clear hs
 go_enter Tryz.func115, Tryz.ntmps115
 go_upto_region 1 with (fail)
 generalize World.alloc _ _ = w1 at hB kB ⊢
 generalize w.heap.size = B at hB ⊢
 obtain ⟨k1, k2, k3, k4, h2⟩ := workP_E (hB.pull 1)
 have c4 := (h2).cell 4
 have c5 := (h2).cell 5
 have c8 := (h2).cell 8
 have c9 := (h2).cell 9
 have cf4 := (h2).free 4
 have cf5 := (h2).free 5
 have cf8 := (h2).free 8
 have cf9 := (h2).free 9
 simp [workC] at c4 c5 c8 c9
 have b0 := (h2.pull 5).cell 0
 have b1 := (h2.pull 5).cell 1
 have b2 := (h2.pull 5).cell 2
 have b3 := (h2.pull 5).cell 3
 simp at b0 b1 b2 b3
 have hwl := h2.lt
 have hbl := (h2.pull 5).lt
 have hne := (h2.pull 5).ne
 have hne2 := hne.symm
 have h3 := (h2.set 4 (.int .i64 h.s)).set 5 (.int .i64 h.g)
 have k3' := (kB.setCell ⟨W, 4, none⟩ (.int .i64 h.s)).setCell ⟨W, 5, none⟩ (.int .i64 h.g)
 go_upto_region 3 with (fail)
 generalize World.setCell _ _ _ = w2 at h3 k3' ⊢
 clear h2 hwl hbl hne hne2 hB kB c4 cf4 c5 cf5 c8 cf8 c9 cf9 b0 b1 b2 b3
 have c8 := (h3).cell 8
 have c9 := (h3).cell 9
 simp [workC] at c8 c9
 have b1 := (h3.pull 5).cell 1
 have b2 := (h3.pull 5).cell 2
 simp at b1 b2
 have hA := ((h3.pull 6).pull 4).drew
 go_region_law ((refine step_append_rows (by rfl) (.tmp 19) (.tmp 21) 92 (by rfl) 56 i1 _ 2 16 Tryz.underlying92 hj hy0 hy1 hy2 (by rfl) (by omega) _ _ fH _ _ _ (by rfl) (by rfl) hA len_fH (one_fHC _) (by unfold maxLen; omega) (by omega) ?_; intro ao m c w3 h6 k6; have e8 := (h6.pull 2).cell 8; have ef8 := (h6.pull 2).free 8; simp [workC] at e8))
 all_goals
   have h7 := (h6.pull 2).set 8 (.slice ao m c)
   have k7 := (k3'.drew.trans k6).setCell ⟨W, 8, none⟩ (.slice ao m c)
   go_upto_region 4 with (fail)
   generalize World.setCell _ _ _ = w4 at h7 k7 ⊢
   clear hA h6 k6 e8 ef8 c8 c9 b1 b2
   have c9 := (h7).cell 9
   simp [workC] at c9
   have b3 := (h7.pull 6).cell 3
   simp at b3
   have hA2 := ((h7.pull 7).pull 6).drew
   go_region_law ((refine step_append_rows (by rfl) (.tmp 31) (.tmp 33) 92 (by rfl) 56 i1 _ 2 16 Tryz.underlying92 hj hy0 hy1 hy2 (by rfl) (by omega) _ _ fH _ _ _ (by rfl) (by rfl) hA2 len_fH (one_fHC _) (by unfold maxLen; omega) (by omega) ?_; intro ao2 m2 c2 w5 h8 k8; have e9 := (h8.pull 2).cell 9; have ef9 := (h8.pull 2).free 9; simp [workC] at e9))
   all_goals
     have h9 := (h8.pull 2).set 9 (.slice ao2 m2 c2)
     have k9 := (k7.drew.trans k8).setCell ⟨W, 9, none⟩ (.slice ao2 m2 c2)
     go_wp2_with fail
     go_ret
     have h10 := ((((((((h9.pull 2).tail.pull 3).tail.pull 5).tail).pull 4).pull 4).pull 2).pull 4).push 3
     exact ⟨rfl, workP_I (D := { D with v := { D.v with ss := h.s, sg := h.g }, sm := D.sm ++ ms, sg := D.sg ++ gs }) h10, k9⟩
theorem workS {w : World} {l : List HProp} {W s : Nat} {D : WorkD} {k1 k2 k3 k4 : Value} (hs : Sat w (own W (.cells (workC s D k1 k2 k3 k4) 169 (0, 0)) :: l)) : w.cell? ⟨W, 6, none⟩ = some k1 ∧ w.cell? ⟨W, 7, none⟩ = some k2 ∧ w.cell? ⟨W, 8, none⟩ = some k3 ∧ w.cell? ⟨W, 9, none⟩ = some k4 := ⟨hs.cell 6, hs.cell 7, hs.cell 8, hs.cell 9⟩
noncomputable def endD (D : WorkD) : WorkD := { D with km := outH D.km D.kg, kg := outH D.kg (bothH D.km D.kg), sm := outH D.sm D.sg, sg := outH D.sg (bothH D.sm D.sg) }
theorem len_outH (a b : List Hd) : (outH a b).length ≤ a.length := List.length_filter_le _ _
theorem len_bothH (a b : List Hd) : (bothH a b).length ≤ a.length := List.length_filter_le _ _
theorem work_end {w : World} {l : List HProp} {W s mk ms : Nat} {D : WorkD} {most : Int} {AK : List SlotK} {FK : List Int} {AS : List SlotS} {FS : List Int} {GK GS : Nat}
   (hs : Sat w (workP W s D :: own s (.cells #[.pointer (some ⟨mk, 0, none⟩), .pointer (some ⟨ms, 0, none⟩)] 80 (0, 0)) :: mapK mk most AK FK :: mapS ms most AS FS :: l)) (hd : D.done = true)
   (hWK : WfA AK FK GK) (hWS : WfA AS FS GS) (hK : ∀ h ∈ D.km, ∃ x, InA AK h x) (hS : ∀ h ∈ D.sm, ∃ x, InA AS h x) (nK : D.km.Nodup) (nS : D.sm.Nodup) (lK : AK.length ≤ 1000000) (lS : AS.length ≤ 1000000)
   (z1 : D.km.length ≤ 1000000) (z2 : D.kg.length ≤ 1000000) (z3 : D.sm.length ≤ 1000000) (z4 : D.sg.length ≤ 1000000) :
   Calls Tryz.prog 111 #[.pointer (some ⟨W, 0, none⟩)] w fun e w' => e = .returned (.tuple #[]) ∧ ∃ (AK' : List SlotK) (FK' : List Int) (AS' : List SlotS) (FS' : List Int), FreesA most AK FK GK (bothH D.km D.kg) AK' FK' ∧ FreesA most AS FS GS (bothH D.sm D.sg) AS' FS' ∧ Sat w' (workP W s (endD D) :: own s (.cells #[.pointer (some ⟨mk, 0, none⟩), .pointer (some ⟨ms, 0, none⟩)] 80 (0, 0)) :: mapK mk most AK' FK' :: mapS ms most AS' FS' :: l) ∧ Kp w w' := by
 obtain ⟨k1, k2, k3, k4, h1⟩ := workP_E hs
 obtain ⟨o1, c1, rfl⟩ := (h1.pull 1).tLen
 obtain ⟨o2, c2, rfl⟩ := (h1.pull 2).tLen
 obtain ⟨o3, c3, rfl⟩ := (h1.pull 3).tLen
 obtain ⟨o4, c4, rfl⟩ := (h1.pull 4).tLen
 have hp1 := view_split (h1.push 2).drew (by omega) (by omega)
 have HK := Lib.hid hK
 have HS := Lib.hid hS
 have NK := Lib.hid nK
 have NS := Lib.hid nS
 have S0 := workS h1
 have HS0 := Lib.hid S0
 obtain ⟨s6, s7, s8, s9⟩ := S0
 have d10 := (h1).cell 10
 simp [workC, hd] at d10
 clear hs hK hS nK nS
 go_enter Tryz.func111, Tryz.ntmps111
 go_upto_region 2 with (fail)
 go_region_held3 (fun w' => w'.cell? ⟨W, 6, none⟩ = some (.slice o1 D.km.length c1) ∧ w'.cell? ⟨W, 7, none⟩ = some (.slice o2 D.kg.length c2) ∧ w'.cell? ⟨W, 8, none⟩ = some (.slice o3 D.sm.length c3) ∧ w'.cell? ⟨W, 9, none⟩ = some (.slice o4 D.sg.length c4)) (first | with_reducible exact HS0.out | with_reducible exact SA | go_keep)
   ((go_at_call 136; (with_reducible refine hp1.mono ?_); rintro e w2 ⟨v1, v2, rfl, h2, k2⟩; have SA := workS (h2.pull 4)))
 clear hp1 HS0 SA s6 s7 s8 s9 d10 h1
 have k2 := (Kp.refl w).drew.trans k2
 have h3 := ((h2.pull 3).pull 2).swap
 obtain ⟨p1, q1, rfl⟩ := (h3.pull 2).tLen
 obtain ⟨p2, q2, rfl⟩ := (h3.pull 1).tLen
 have hp2 := view_split h3 (by omega) (by have := len_bothH D.km D.kg; omega)
 have c6 := (h3.pull 4).cell 6
 have c7 := (h3.pull 4).cell 7
 have cf6 := (h3.pull 4).free 6
 have cf7 := (h3.pull 4).free 7
 simp [workC] at c6 c7
 clear h2
 go_wp2_with fail
 refine hp2.mono ?_
 rintro e w3 ⟨u1, u2, rfl, h4, k4⟩
 obtain ⟨p3, q3, rfl⟩ := h4.tLen
 have k4 := k2.trans k4
 clear hp2 h3 k2 c6 cf6 c7 cf7
 have c6 := (h4.pull 6).cell 6
 have c7 := (h4.pull 6).cell 7
 have cf6 := (h4.pull 6).free 6
 have cf7 := (h4.pull 6).free 7
 simp [workC] at c6 c7
 have hwl := (h4.pull 6).lt
 have h5 := ((h4.pull 6).set 7 (.slice p3 (outH D.kg (bothH D.km D.kg)).length q3)).set 6 (.slice p1 (outH D.km D.kg).length q1)
 have k5 := (k4.setCell ⟨W, 7, none⟩ (.slice p3 (outH D.kg (bothH D.km D.kg)).length q3)).setCell ⟨W, 6, none⟩ (.slice p1 (outH D.km D.kg).length q1)
 go_upto_region 5 with (fail)
 generalize World.setCell _ _ _ = w5 at h5 k5 ⊢
 clear h4 k4 c6 cf6 c7 cf7 hwl
 have c0 := (h5).cell 0
 simp [workC] at c0
 have h6 := ((((((h5.pull 4).pull 11).pull 11).pull 11).tNil fH 56 2)).push 4
 have hfr := store_free h6 hWK hWS (fun h hh => HK.out h (List.mem_filter.1 hh).1) (fun h hh => (by cases hh)) (List.Nodup.sublist List.filter_sublist NK.out) List.nodup_nil lK lS (by have := len_bothH D.km D.kg; omega) (by simp)
 clear h5
 go_wp2_with fail
 refine hfr.mono ?_
 rintro e w6 ⟨nn, AK1, FK1, AS1, FS1, rfl, f1, f2, h7, k7⟩
 have k7 := k5.trans k7
 clear hfr h6 c0 k5
 have g1 := ((((h7.pull 3).tail.pull 3).tail.pull 5).tail.pull 5).tail
 have g2 := (((((g1.pull 6).tail.push 7).push 7).push 7).pull 2).push 1
 have g3 : Sat w6 (own W (.cells (workC s { D with km := outH D.km D.kg, kg := outH D.kg (bothH D.km D.kg) } (.slice p1 (outH D.km D.kg).length q1) (.slice p3 (outH D.kg (bothH D.km D.kg)).length q3) (.slice o3 D.sm.length c3) (.slice o4 D.sg.length c4)) 169 (0, 0)) :: rowT fH (.slice p1 (outH D.km D.kg).length q1) 56 2 (outH D.km D.kg) :: rowT fH (.slice p3 (outH D.kg (bothH D.km D.kg)).length q3) 56 2 (outH D.kg (bothH D.km D.kg)) :: rowT fH (.slice o3 D.sm.length c3) 56 2 D.sm :: rowT fH (.slice o4 D.sg.length c4) 56 2 D.sg :: own s (.cells #[.pointer (some ⟨mk, 0, none⟩), .pointer (some ⟨ms, 0, none⟩)] 80 (0, 0)) :: mapK mk most AK1 FK1 :: mapS ms most AS1 FS1 :: l) := g2
 clear g1 g2 h7
 have F1 := Lib.hid f1
 have F2 := Lib.hid f2
 have lK1 := f1.len
 have lS1 := f2.len
 clear f1 f2
 have S0 := workS g3
 have HS0 := Lib.hid S0
 obtain ⟨s6, s7, s8, s9⟩ := S0
 have hp1 := view_split ((g3.pull 4).pull 4).drew (by omega) (by omega)
 go_upto_region 6 with (fail)
 go_region_held3 (fun w' => w'.cell? ⟨W, 6, none⟩ = some (.slice p1 (outH D.km D.kg).length q1) ∧ w'.cell? ⟨W, 7, none⟩ = some (.slice p3 (outH D.kg (bothH D.km D.kg)).length q3) ∧ w'.cell? ⟨W, 8, none⟩ = some (.slice o3 D.sm.length c3) ∧ w'.cell? ⟨W, 9, none⟩ = some (.slice o4 D.sg.length c4)) (first | with_reducible exact HS0.out | with_reducible exact SA | go_keep)
   ((go_at_call 136; (with_reducible refine hp1.mono ?_); rintro e w8 ⟨v1, v2, rfl, h2, k2⟩; have SA := workS (h2.pull 4)))
 clear hp1 HS0 SA s6 s7 s8 s9 g3
 have k2 := k7.drew.trans k2
 have h3 := ((h2.pull 3).pull 2).swap
 obtain ⟨p4, q4, rfl⟩ := (h3.pull 2).tLen
 obtain ⟨p5, q5, rfl⟩ := (h3.pull 1).tLen
 have hp2 := view_split h3 (by omega) (by have := len_bothH D.sm D.sg; omega)
 have c8 := (h3.pull 4).cell 8
 have c9 := (h3.pull 4).cell 9
 have cf8 := (h3.pull 4).free 8
 have cf9 := (h3.pull 4).free 9
 simp [workC] at c8 c9
 clear h2 k7
 go_wp2_with fail
 refine hp2.mono ?_
 rintro e w9 ⟨u1, u2, rfl, h4, k4⟩
 obtain ⟨p6, q6, rfl⟩ := h4.tLen
 have k4 := k2.trans k4
 clear hp2 h3 k2 c8 cf8 c9 cf9
 have c8 := (h4.pull 6).cell 8
 have c9 := (h4.pull 6).cell 9
 have cf8 := (h4.pull 6).free 8
 have cf9 := (h4.pull 6).free 9
 simp [workC] at c8 c9
 have hwl := (h4.pull 6).lt
 have h5 := ((h4.pull 6).set 9 (.slice p6 (outH D.sg (bothH D.sm D.sg)).length q6)).set 8 (.slice p4 (outH D.sm D.sg).length q4)
 have k5 := (k4.setCell ⟨W, 9, none⟩ (.slice p6 (outH D.sg (bothH D.sm D.sg)).length q6)).setCell ⟨W, 8, none⟩ (.slice p4 (outH D.sm D.sg).length q4)
 go_upto_region 9 with (fail)
 generalize World.setCell _ _ _ = w10 at h5 k5 ⊢
 clear h4 k4 c8 cf8 c9 cf9 hwl
 have c0 := (h5).cell 0
 simp [workC] at c0
 have h6 := ((((((h5.pull 4).pull 11).pull 11).pull 11).tNil fH 56 2)).push 3
 have hfr := store_free h6 F1.out.wf F2.out.wf (fun h hh => (by cases hh)) (fun h hh => (HS.out h (List.mem_filter.1 hh).1).imp fun x hx => F2.out.has hx (by simp)) List.nodup_nil (List.Nodup.sublist List.filter_sublist NS.out) (by omega) (by omega) (by simp) (by have := len_bothH D.sm D.sg; omega)
 clear h5
 go_wp2_with fail
 refine hfr.mono ?_
 rintro e w11 ⟨nn2, AK2, FK2, AS2, FS2, rfl, f3, f4, h7, k7⟩
 have k7 := k5.trans k7
 clear hfr h6 c0 k5
 go_wp2_with fail
 go_end0
 have g1 := ((((h7.pull 3).tail.pull 3).tail.pull 5).tail.pull 5).tail
 have g2 := ((((((((g1.pull 6).tail.push 7).push 7).push 7).pull 4).pull 4).pull 2).pull 4).push 3
 refine ⟨rfl, AK2, FK2, AS2, FS2, ?_, ?_, workP_I (D := endD D) g2, k7⟩
 · have := F1.out.trans f3
   rwa [List.append_nil] at this
 · have := F2.out.trans f4
   rwa [List.nil_append] at this
theorem work_end_d {u : FrameMode} {w : World} {l : List HProp} {W s mk ms : Nat} {D : WorkD} {most : Int} {AK : List SlotK} {FK : List Int} {AS : List SlotS} {FS : List Int} {GK GS : Nat}
   (hs : Sat w (workP W s D :: own s (.cells #[.pointer (some ⟨mk, 0, none⟩), .pointer (some ⟨ms, 0, none⟩)] 80 (0, 0)) :: mapK mk most AK FK :: mapS ms most AS FS :: l)) (hd : D.done = true)
   (hWK : WfA AK FK GK) (hWS : WfA AS FS GS) (hK : ∀ h ∈ D.km, ∃ x, InA AK h x) (hS : ∀ h ∈ D.sm, ∃ x, InA AS h x) (nK : D.km.Nodup) (nS : D.sm.Nodup) (lK : AK.length ≤ 1000000) (lS : AS.length ≤ 1000000)
   (z1 : D.km.length ≤ 1000000) (z2 : D.kg.length ≤ 1000000) (z3 : D.sm.length ≤ 1000000) (z4 : D.sg.length ≤ 1000000) :
   CallsD Tryz.prog 111 #[.pointer (some ⟨W, 0, none⟩)] u w fun e u' w' => u' = u ∧ (e = .returned (.tuple #[]) ∧ ∃ (AK' : List SlotK) (FK' : List Int) (AS' : List SlotS) (FS' : List Int), FreesA most AK FK GK (bothH D.km D.kg) AK' FK' ∧ FreesA most AS FS GS (bothH D.sm D.sg) AS' FS' ∧ Sat w' (workP W s (endD D) :: own s (.cells #[.pointer (some ⟨mk, 0, none⟩), .pointer (some ⟨ms, 0, none⟩)] 80 (0, 0)) :: mapK mk most AK' FK' :: mapS ms most AS' FS' :: l) ∧ Kp w w') := by
 obtain ⟨k1, k2, k3, k4, h1⟩ := workP_E hs
 obtain ⟨o1, c1, rfl⟩ := (h1.pull 1).tLen
 obtain ⟨o2, c2, rfl⟩ := (h1.pull 2).tLen
 obtain ⟨o3, c3, rfl⟩ := (h1.pull 3).tLen
 obtain ⟨o4, c4, rfl⟩ := (h1.pull 4).tLen
 have hp1 := view_split (h1.push 2).drew (by omega) (by omega)
 have HK := Lib.hid hK
 have HS := Lib.hid hS
 have NK := Lib.hid nK
 have NS := Lib.hid nS
 have S0 := workS h1
 have HS0 := Lib.hid S0
 obtain ⟨s6, s7, s8, s9⟩ := S0
 have d10 := (h1).cell 10
 simp [workC, hd] at d10
 clear hs hK hS nK nS
 go_enter_d Tryz.func111, Tryz.ntmps111
 go_upto_region 2 with (fail)
 go_region_held3 (fun w' => w'.cell? ⟨W, 6, none⟩ = some (.slice o1 D.km.length c1) ∧ w'.cell? ⟨W, 7, none⟩ = some (.slice o2 D.kg.length c2) ∧ w'.cell? ⟨W, 8, none⟩ = some (.slice o3 D.sm.length c3) ∧ w'.cell? ⟨W, 9, none⟩ = some (.slice o4 D.sg.length c4)) (first | with_reducible exact HS0.out | with_reducible exact SA | go_keep)
   ((go_at_call 136; (with_reducible refine hp1.mono ?_); rintro e w2 ⟨v1, v2, rfl, h2, k2⟩; have SA := workS (h2.pull 4)))
 clear hp1 HS0 SA s6 s7 s8 s9 d10 h1
 have k2 := (Kp.refl w).drew.trans k2
 have h3 := ((h2.pull 3).pull 2).swap
 obtain ⟨p1, q1, rfl⟩ := (h3.pull 2).tLen
 obtain ⟨p2, q2, rfl⟩ := (h3.pull 1).tLen
 have hp2 := view_split h3 (by omega) (by have := len_bothH D.km D.kg; omega)
 have c6 := (h3.pull 4).cell 6
 have c7 := (h3.pull 4).cell 7
 have cf6 := (h3.pull 4).free 6
 have cf7 := (h3.pull 4).free 7
 simp [workC] at c6 c7
 clear h2
 go_wp2_with fail
 refine hp2.mono ?_
 rintro e w3 ⟨u1, u2, rfl, h4, k4⟩
 obtain ⟨p3, q3, rfl⟩ := h4.tLen
 have k4 := k2.trans k4
 clear hp2 h3 k2 c6 cf6 c7 cf7
 have c6 := (h4.pull 6).cell 6
 have c7 := (h4.pull 6).cell 7
 have cf6 := (h4.pull 6).free 6
 have cf7 := (h4.pull 6).free 7
 simp [workC] at c6 c7
 have hwl := (h4.pull 6).lt
 have h5 := ((h4.pull 6).set 7 (.slice p3 (outH D.kg (bothH D.km D.kg)).length q3)).set 6 (.slice p1 (outH D.km D.kg).length q1)
 have k5 := (k4.setCell ⟨W, 7, none⟩ (.slice p3 (outH D.kg (bothH D.km D.kg)).length q3)).setCell ⟨W, 6, none⟩ (.slice p1 (outH D.km D.kg).length q1)
 go_upto_region 5 with (fail)
 generalize World.setCell _ _ _ = w5 at h5 k5 ⊢
 clear h4 k4 c6 cf6 c7 cf7 hwl
 have c0 := (h5).cell 0
 simp [workC] at c0
 have h6 := ((((((h5.pull 4).pull 11).pull 11).pull 11).tNil fH 56 2)).push 4
 have hfr := store_free h6 hWK hWS (fun h hh => HK.out h (List.mem_filter.1 hh).1) (fun h hh => (by cases hh)) (List.Nodup.sublist List.filter_sublist NK.out) List.nodup_nil lK lS (by have := len_bothH D.km D.kg; omega) (by simp)
 clear h5
 go_wp2_with fail
 refine hfr.mono ?_
 rintro e w6 ⟨nn, AK1, FK1, AS1, FS1, rfl, f1, f2, h7, k7⟩
 have k7 := k5.trans k7
 clear hfr h6 c0 k5
 have g1 := ((((h7.pull 3).tail.pull 3).tail.pull 5).tail.pull 5).tail
 have g2 := (((((g1.pull 6).tail.push 7).push 7).push 7).pull 2).push 1
 have g3 : Sat w6 (own W (.cells (workC s { D with km := outH D.km D.kg, kg := outH D.kg (bothH D.km D.kg) } (.slice p1 (outH D.km D.kg).length q1) (.slice p3 (outH D.kg (bothH D.km D.kg)).length q3) (.slice o3 D.sm.length c3) (.slice o4 D.sg.length c4)) 169 (0, 0)) :: rowT fH (.slice p1 (outH D.km D.kg).length q1) 56 2 (outH D.km D.kg) :: rowT fH (.slice p3 (outH D.kg (bothH D.km D.kg)).length q3) 56 2 (outH D.kg (bothH D.km D.kg)) :: rowT fH (.slice o3 D.sm.length c3) 56 2 D.sm :: rowT fH (.slice o4 D.sg.length c4) 56 2 D.sg :: own s (.cells #[.pointer (some ⟨mk, 0, none⟩), .pointer (some ⟨ms, 0, none⟩)] 80 (0, 0)) :: mapK mk most AK1 FK1 :: mapS ms most AS1 FS1 :: l) := g2
 clear g1 g2 h7
 have F1 := Lib.hid f1
 have F2 := Lib.hid f2
 have lK1 := f1.len
 have lS1 := f2.len
 clear f1 f2
 have S0 := workS g3
 have HS0 := Lib.hid S0
 obtain ⟨s6, s7, s8, s9⟩ := S0
 have hp1 := view_split ((g3.pull 4).pull 4).drew (by omega) (by omega)
 go_upto_region 6 with (fail)
 go_region_held3 (fun w' => w'.cell? ⟨W, 6, none⟩ = some (.slice p1 (outH D.km D.kg).length q1) ∧ w'.cell? ⟨W, 7, none⟩ = some (.slice p3 (outH D.kg (bothH D.km D.kg)).length q3) ∧ w'.cell? ⟨W, 8, none⟩ = some (.slice o3 D.sm.length c3) ∧ w'.cell? ⟨W, 9, none⟩ = some (.slice o4 D.sg.length c4)) (first | with_reducible exact HS0.out | with_reducible exact SA | go_keep)
   ((go_at_call 136; (with_reducible refine hp1.mono ?_); rintro e w8 ⟨v1, v2, rfl, h2, k2⟩; have SA := workS (h2.pull 4)))
 clear hp1 HS0 SA s6 s7 s8 s9 g3
 have k2 := k7.drew.trans k2
 have h3 := ((h2.pull 3).pull 2).swap
 obtain ⟨p4, q4, rfl⟩ := (h3.pull 2).tLen
 obtain ⟨p5, q5, rfl⟩ := (h3.pull 1).tLen
 have hp2 := view_split h3 (by omega) (by have := len_bothH D.sm D.sg; omega)
 have c8 := (h3.pull 4).cell 8
 have c9 := (h3.pull 4).cell 9
 have cf8 := (h3.pull 4).free 8
 have cf9 := (h3.pull 4).free 9
 simp [workC] at c8 c9
 clear h2 k7
 go_wp2_with fail
 refine hp2.mono ?_
 rintro e w9 ⟨u1, u2, rfl, h4, k4⟩
 obtain ⟨p6, q6, rfl⟩ := h4.tLen
 have k4 := k2.trans k4
 clear hp2 h3 k2 c8 cf8 c9 cf9
 have c8 := (h4.pull 6).cell 8
 have c9 := (h4.pull 6).cell 9
 have cf8 := (h4.pull 6).free 8
 have cf9 := (h4.pull 6).free 9
 simp [workC] at c8 c9
 have hwl := (h4.pull 6).lt
 have h5 := ((h4.pull 6).set 9 (.slice p6 (outH D.sg (bothH D.sm D.sg)).length q6)).set 8 (.slice p4 (outH D.sm D.sg).length q4)
 have k5 := (k4.setCell ⟨W, 9, none⟩ (.slice p6 (outH D.sg (bothH D.sm D.sg)).length q6)).setCell ⟨W, 8, none⟩ (.slice p4 (outH D.sm D.sg).length q4)
 go_upto_region 9 with (fail)
 generalize World.setCell _ _ _ = w10 at h5 k5 ⊢
 clear h4 k4 c8 cf8 c9 cf9 hwl
 have c0 := (h5).cell 0
 simp [workC] at c0
 have h6 := ((((((h5.pull 4).pull 11).pull 11).pull 11).tNil fH 56 2)).push 3
 have hfr := store_free h6 F1.out.wf F2.out.wf (fun h hh => (by cases hh)) (fun h hh => (HS.out h (List.mem_filter.1 hh).1).imp fun x hx => F2.out.has hx (by simp)) List.nodup_nil (List.Nodup.sublist List.filter_sublist NS.out) (by omega) (by omega) (by simp) (by have := len_bothH D.sm D.sg; omega)
 clear h5
 go_wp2_with fail
 refine hfr.mono ?_
 rintro e w11 ⟨nn2, AK2, FK2, AS2, FS2, rfl, f3, f4, h7, k7⟩
 have k7 := k5.trans k7
 clear hfr h6 c0 k5
 go_wp2_with fail
 go_end0
 have g1 := ((((h7.pull 3).tail.pull 3).tail.pull 5).tail.pull 5).tail
 have g2 := ((((((((g1.pull 6).tail.push 7).push 7).push 7).pull 4).pull 4).pull 2).pull 4).push 3
 refine ⟨rfl, AK2, FK2, AS2, FS2, ?_, ?_, workP_I (D := endD D) g2, k7⟩
 · have := F1.out.trans f3
   rwa [List.append_nil] at this
 · have := F2.out.trans f4
   rwa [List.nil_append] at this
end Go.Proofs.YtddglbjhhnipgaaGreatDoor

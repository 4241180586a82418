import Derived.Test.YtbnipieokpeadaaDoorUndo
import Derived.Test.YtbnipieokpeadaaDoorArgs
import Derived.Laws.Externs
import Derived.Lib.SliceRun
namespace Go.Proofs.YtbnipieokpeadaaDoor
open Go Go.RowKit
set_option linter.unusedVariables false
set_option linter.unusedSimpArgs false

section
variable {P : Program} (w : World)
theorem run_equalIn_mapnil (d : Nat) (t k e : TypeId) (p : Option Nat) (h : P.underlying t = some (.map k e)) :
    (Op.equalIn (d + 1) t (.map p) (.map none)).run P w = .ok p.isNone w := by
  cases p <;> simp [Op.equalIn, run_underlying h]
theorem run_eql_mapnil (t k e : TypeId) (p : Option Nat) (h : P.underlying t = some (.map k e)) :
    (binOp .eql t (.map p) (.map none)).run P w = .ok (.bool p.isNone) w := by
  simp only [binOp]
  simp [show Op.equal t (.map p) (.map none) = Op.equalIn (9999 + 1) t (.map p) (.map none) from rfl, run_equalIn_mapnil w 9999 t k e p h]
theorem run_typeAssert_map1 (t xT k e : TypeId) (v : Value) (h : P.underlying t = some (.map k e)) : (Instr.typeAssert (.iface t v) xT t false).run P w = .ok v w := by
  simp [Instr.typeAssert, run_underlying h, go_sem, Result.andThen]
theorem run_mapclone {r : Nat} {es : Array MapEntry} {clock : Nat} (t : TypeId) (hb : w.heap[r]? = some (.map es clock)) :
    (Extern.MapsClone.clone #[.iface t (.map (some r))]).run P w = .ok (.iface t (.map (some w.heap.size))) (w.alloc (.map es clock)) := by
  have e : Extern.MapsClone.clone #[.iface t (.map (some r))] = (getObj r >>= fun o => match o with
      | .map entries clock => (newObj (.map entries clock) >>= fun n => pure (.iface t (.map (some n))))
      | _ => stuck "maps.clone: a map expected") := rfl
  rw [e]
  simp [MapKept.run_getObj_map hb, Result.andThen, go_sem]
end

set_option maxRecDepth 100000 in
set_option maxHeartbeats 2000000 in
theorem map_clone {w : World} {l : List HProp} {b : Nat} {f : Int → Option Loc} (hs : Sat w (mapP b f :: l)) :
    Calls Tryd.prog 53 #[.map (some b)] w fun e w' => ∃ b', e = .returned (.map (some b')) ∧ Sat w' (mapP b' f :: mapP b f :: l) ∧ Kp w w' := by
  obtain ⟨es, clock, hr, ho⟩ := hs.mapE
  have hb := ho.get
  have hq := fun w => run_eql_mapnil (P := Tryd.prog) w 66 _ _ (some b) Tryd.underlying66
  have h2 := Sat.mapI hr (ho.alloc (.map es clock))
  have h3 := (Sat.mapI hr (h2.pull 1)).swap
  clear h2
  go_enter Tryd.func53, Tryd.ntmps53
  go_wp2_with fail
  rw [run_callFunc_extern Tryd.func64 (by kernel_rfl) (by kernel_rfl) (by kernel_rfl) (e := Extern.MapsClone.clone) (by kernel_rfl), run_mapclone w 66 hb]
  simp only [Result.andThen]
  rw [Oper.upon_value]
  go_wp2_with fail
  rw [run_typeAssert_map1 _ 66 _ _ _ _ Tryd.underlying66]
  simp only [Result.andThen]
  rw [Oper.upon_value]
  go_wp2_with fail
  go_ret
  exact ⟨_, rfl, h3, (Kp.refl w).alloc _⟩

theorem one_loc (s : Option Loc) : ∀ u ∈ locCells s, u.oneCell' = true := by
  intro u hu
  cases s with
  | none => simp only [locCells, List.mem_cons, List.not_mem_nil, or_false] at hu; rcases hu with rfl | rfl | rfl <;> rfl
  | some s => simp only [locCells, List.mem_cons, List.not_mem_nil, or_false] at hu; rcases hu with rfl | rfl | rfl <;> rfl
theorem one_fC (ds : List ChD) : ∀ u ∈ ds.flatMap fC, u.oneCell' = true := by
  intro u hu
  obtain ⟨c, _, hc⟩ := List.mem_flatMap.1 hu
  simp only [fC, List.mem_cons, List.mem_append] at hc
  rcases hc with rfl | h | h
  · rfl
  · exact one_loc _ u h
  · exact one_loc _ u h

set_option maxRecDepth 100000 in
set_option maxHeartbeats 2000000 in
theorem list_clone {w : World} {l : List HProp} {v : Value} {ds : List ChD} (hs : Sat w (rowT fC v 71 7 ds :: l)) (hn : ds.length ≤ 1000) :
    Calls Tryd.prog 54 #[v] w fun e w' => ∃ v', e = .returned v' ∧ Sat w' (rowT fC v' 71 7 ds :: rowT fC v 71 7 ds :: l) ∧ Kp w w' := by
  obtain ⟨i0, hi, hz0, hz1, hz2⟩ := info_parts Tryd.infoCh
  have hnil : ∀ (W : World) (a : Option Addr) (n c n' c' : Nat), (binOp .eql 67 (.slice a n c) (.slice none n' c')).run Tryd.prog W = .ok (.bool a.isNone) W := fun W a n c n' c' => Lib.run_eql_slice_nil _ _ _ _ _ _ _ _ Tryd.underlying67
  rcases hs.tForm with ⟨rfl, rfl⟩ | ⟨g, off, cap, rfl⟩
  · go_enter Tryd.func54, Tryd.ntmps54
    go_wp2_with fail
    go_ret
    exact ⟨_, rfl, hs.tNil fC 71 7, Kp.refl w⟩
  · have hE : Sat (w.alloc (.cells #[] 71)) (rowT fC (.slice (some ⟨w.heap.size, 0, none⟩) 0 0) 71 7 [] :: rowT fC (.slice (some ⟨g, off, none⟩) ds.length cap) 71 7 ds :: l) := hs.rowEmpty 71 7
    have kE := (Kp.refl w).alloc (.cells #[] 71)
    obtain ⟨ao, cap', hv, ha⟩ := (hE.pull 1).argRow
    simp only [Value.slice.injEq] at hv
    obtain ⟨rfl, -, rfl⟩ := hv
    obtain ⟨n, hn0⟩ : ∃ n, n = ds.length := ⟨_, rfl⟩
    have HN := Lib.hid hn0
    rw [← hn0] at hs hE ha ⊢
    clear hn0
    go_enter Tryd.func54, Tryd.ntmps54
    go_wp2_with (at_builtin; refine wpList_append_arg rfl (.tmp 5) (.tmp 6) 67 rfl 71 i0 _ 7 72 Tryd.underlying67 hi hz0 hz1 hz2 rfl (by decide) _ fC [] ds _ rfl hE (some ⟨g, off, none⟩) n cap rfl ha len_fC (one_fC ds) ?c1 ?c2 ?c3)
    case c1 => have := HN.out; simp only [List.length_nil]; unfold maxLen; omega
    case c2 => have := HN.out; simp only [List.length_nil]; omega
    case c3 =>
      intro v' w5 hs5 hk5
      go_wp2_with fail
      go_ret
      exact ⟨_, rfl, hs5, kE.trans hk5⟩

set_option maxRecDepth 100000 in
set_option maxHeartbeats 2000000 in
theorem tree_clone {w : World} {l : List HProp} {t : Nat} {f : Int → Option Loc} {ds : List ChD} (hs : Sat w (treeP t f ds :: l)) (hn : ds.length ≤ 1000) :
    Calls Tryd.prog 36 #[.pointer (some ⟨t, 0, none⟩)] w fun e w' => ∃ t', e = .returned (.pointer (some ⟨t', 0, none⟩)) ∧ Sat w' (treeP t' f ds :: treeP t f ds :: l) ∧ Kp w w' := by
  obtain ⟨b, v, hv⟩ := treeP_E hs
  obtain ⟨ao0, cap0, rfl⟩ := (hv.pull 2).tLen
  have t0 := hv.cell 0
  have t1 := hv.cell 1
  simp at t0 t1
  go_enter Tryd.func36, Tryd.ntmps36
  go_upto_region 1 with (fail)
  go_region_held3 (fun w' => w'.cell? ⟨t, 0, none⟩ = some (.map (some b)) ∧ w'.cell? ⟨t, 1, none⟩ = some (.slice ao0 ds.length cap0)) (first | go_keep | exact ⟨t0, t1⟩ | exact ⟨m0, m1⟩ | exact ⟨n0, n1⟩)
    (first
     | (go_at_call 53; refine (map_clone ((hv.pull 1).drewN 1)).mono ?_; rintro e w2 ⟨b', rfl, h2, k2⟩; have m0 := (h2.pull 2).cell 0; have m1 := (h2.pull 2).cell 1; simp at m0 m1)
     | (go_at_call 54; refine (list_clone (h2.pull 3) hn).mono ?_; rintro e w3 ⟨v', rfl, h3, k3⟩; obtain ⟨ao1, cap1, rfl⟩ := h3.tLen; have n0 := (h3.pull 4).cell 0; have n1 := (h3.pull 4).cell 1; simp at n0 n1))
  all_goals
    have h4 := treeP_I ((h3.alloc (.cells #[.map (some b'), .slice ao1 ds.length cap1] 69)).pull 3).swap
    have h5 := treeP_I ((((h4.pull 3).pull 3).swap.pull 3).push 2)
    go_wp2_with fail
    go_ret
    exact ⟨_, rfl, h5.swap, ((((Kp.refl w).drewN 1).trans k2).trans k3).alloc _⟩

end Go.Proofs.YtbnipieokpeadaaDoor

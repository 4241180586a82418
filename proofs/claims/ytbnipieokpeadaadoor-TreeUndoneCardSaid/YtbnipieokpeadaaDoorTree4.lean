import Derived.Test.YtbnipieokpeadaaDoorTree3
import Derived.Test.YtbnipieokpeadaaDoorOp2
namespace Go.Proofs.YtbnipieokpeadaaDoor
open Go Go.RowKit
set_option linter.unusedVariables false
set_option linter.unusedSimpArgs false

set_option maxRecDepth 100000 in
set_option maxHeartbeats 1000000 in
/-- What isn't an operation does nothing. -/
theorem tree_apply_not {W w : World} {l : List HProp} {t : Nat} {f : Int → Option Loc} {ds : List ChD} {o : OpD} (hs : Sat w (treeP t f ds :: oldH W :: l)) (hR : RightIn W o false) :
    Calls Tryd.prog 15 #[.pointer (some ⟨t, 0, none⟩), aggO o] w fun e w' => e = .returned (.bool false) ∧ Sat w' (treeP t f ds :: oldH W :: l) ∧ Kp w w' := by
  have HR := Lib.hid hR
  clear hR
  have hB := hs.alloc (.cells #[.int .i64 o.n, .int .i64 o.r, .int .i64 o.node, .int .i64 o.up, .string o.name] 33)
  have kB := (Kp.refl w).alloc (.cells #[.int .i64 o.n, .int .i64 o.r, .int .i64 o.node, .int .i64 o.up, .string o.name] 33)
  simp only [aggO]
  go_enter Tryd.func15, Tryd.ntmps15
  go_upto_region 1 with (fail)
  generalize World.alloc _ _ = w1 at hB kB ⊢
  generalize w.heap.size = B at hB ⊢
  have b0 := hB.cell 0
  have b1 := hB.cell 1
  have b2 := hB.cell 2
  have b3 := hB.cell 3
  have b4 := hB.cell 4
  simp at b0 b1 b2 b3 b4
  go_wp2_with fail
  refine (HR.out _ _ (hB.pull 2)).mono ?_
  rintro e w2 ⟨rfl, h2, k2⟩
  have h2 := h2.push 2
  go_wp2_with fail
  go_ret
  exact ⟨rfl, h2.tail, kB.trans k2⟩

set_option maxRecDepth 100000 in
set_option maxHeartbeats 2000000 in
theorem tree_apply2 {W w : World} {l : List HProp} {t : Nat} {f : Int → Option Loc} {ds : List ChD} {o : OpD} {r : Bool} (hs : Sat w (treeP t f ds :: oldH W :: l)) (hA : Acyc f) (hR : RightIn W o true) (hr : r = true ↔ known f o.up = true ∧ ¬ Anc f o.node o.up) (hlen : ds.length ≤ 1000) :
    Calls Tryd.prog 15 #[.pointer (some ⟨t, 0, none⟩), aggO o] w fun e w' => e = .returned (.bool r) ∧ Sat w' (treeP t (applied f o r) (ds ++ [⟨o.node, f o.node, newLoc f o r⟩]) :: oldH W :: l) ∧ Kp w w' := by
  obtain ⟨i0, hi, hz0, hz1, hz2⟩ := info_parts Tryd.infoCh
  have HR := Lib.hid hR
  have Hr := Lib.hid hr
  obtain ⟨k0, hk0⟩ := hA o.up
  have HK := Lib.hid hk0
  clear hR hr hk0
  have hB := hs.alloc (.cells #[.int .i64 o.n, .int .i64 o.r, .int .i64 o.node, .int .i64 o.up, .string o.name] 33)
  have kB := (Kp.refl w).alloc (.cells #[.int .i64 o.n, .int .i64 o.r, .int .i64 o.node, .int .i64 o.up, .string o.name] 33)
  simp only [aggO]
  go_enter Tryd.func15, Tryd.ntmps15
  go_upto_region 1 with (fail)
  generalize World.alloc _ _ = w1 at hB kB ⊢
  generalize w.heap.size = B at hB ⊢
  have b0 := hB.cell 0
  have b1 := hB.cell 1
  have b2 := hB.cell 2
  have b3 := hB.cell 3
  have b4 := hB.cell 4
  simp at b0 b1 b2 b3 b4
  go_wp2_with fail
  refine (HR.out _ _ (hB.pull 2)).mono ?_
  rintro e w2 ⟨rfl, h2, k2⟩
  have h2 := h2.push 2
  have k2 := kB.trans k2
  clear b0 b1 b2 b3 b4 hB kB hs
  go_upto_region 3 with (fail)
  go_cut [5] from 11 to 17 (fun v wx => ∃ A, v = .pointer (some ⟨A, 0, none⟩) ∧ Sat wx (own A (.cells (locCells (f o.node)).toArray 49 (0, 0)) :: own B (.cells #[.int .i64 o.n, .int .i64 o.r, .int .i64 o.node, .int .i64 o.up, .string o.name] 33 (0, 0)) :: treeP t f ds :: oldH W :: l) ∧ Kp w wx)
  case first =>
    obtain ⟨bm, v, hv⟩ := treeP_E (h2.pull 1)
    have c0 := hv.cell 0
    have b2 := h2.cell 2
    simp at c0 b2
    have hl := (look ((hv.pull 1).drew) o.node).1
    have hl2 := (look (((hv.pull 1).alloc' (.cells #[.bool false, .int .i64 0, .string ⟨#[]⟩] 49)).drew) o.node).1
    have hBl := h2.lt
    have htl := hv.lt
    have hA := (h2.alloc (.cells (locCells (f o.node)).toArray 49)).drew
    have kA := (k2.alloc (.cells (locCells (f o.node)).toArray 49)).drew
    cases hf : f o.node with
    | none =>
      rw [hf] at hl hl2 hA kA
      simp only [vL] at hl hl2
      go_region
      all_goals
        go_wp2_with fail
        go_meet
        case rel =>
          refine ⟨_, rfl, ?_, kA⟩
          rw [hf]
          exact hA
    | some s =>
      rw [hf] at hl hl2 hA kA
      simp only [vL] at hl hl2
      go_region
      all_goals
        go_wp2_with fail
        go_meet
        case rel =>
          refine ⟨_, rfl, ?_, kA⟩
          rw [hf]
          exact hA
  case rest =>
    clear h2 k2
    obtain ⟨A, rfl, h2, k2⟩ := hcut
    obtain ⟨q, z, nm, hx, hvl⟩ := locCells_form (f o.node)
    rw [hx] at h2
    have a0 := h2.cell 0
    have a1 := h2.cell 1
    have a2 := h2.cell 2
    have b2 := (h2.pull 1).cell 2
    simp at a0 a1 a2 b2
    have hC := h2.alloc (.cells #[.int .i64 o.node, .bool q, .int .i64 z, .string nm, .bool q, .int .i64 z, .string nm] 71)
    have kC := k2.alloc (.cells #[.int .i64 o.node, .bool q, .int .i64 z, .string nm, .bool q, .int .i64 z, .string nm] 71)
    go_upto_region 5 with (fail)
    generalize World.alloc _ _ = w3 at hC kC ⊢
    generalize wc.heap.size = C at hC ⊢
    clear h2 k2 a0 a1 a2 b2
    go_cut [7] from 23 to 35 (fun v wx => v = .bool r ∧ Sat wx (own C (.cells #[.int .i64 o.node, .bool q, .int .i64 z, .string nm, .bool q, .int .i64 z, .string nm] 71 (0, 0)) :: own A (.cells #[.bool q, .int .i64 z, .string nm] 49 (0, 0)) :: own B (.cells #[.int .i64 o.n, .int .i64 o.r, .int .i64 o.node, .int .i64 o.up, .string o.name] 33 (0, 0)) :: treeP t f ds :: oldH W :: l) ∧ Kp w wx)
    case first =>
      have b3 := (hC.pull 2).cell 3
      simp at b3
      go_wp2_with fail
      refine (tree_known (hC.pull 3)).mono ?_
      rintro e w4 ⟨rfl, h4, k4⟩
      cases hkn : known f o.up with
      | false =>
        have hr' : r = false := by
          cases r with
          | false => rfl
          | true => have := (Hr.out.1 rfl).1; rw [hkn] at this; cases this
        subst hr'
        go_wp2_with fail
        go_meet
        case rel => exact ⟨rfl, h4.push 3, kC.trans k4⟩
      | true =>
        have b2 := (h4.pull 3).cell 2
        have b3 := (h4.pull 3).cell 3
        simp at b2 b3
        have hab : (!r) = true ↔ known f o.up = true ∧ Anc f o.node o.up := by
          have := Hr.out
          rw [hkn] at this ⊢
          cases r <;> simp_all
        have hcall := tree_above h4 HK.out hab
        clear hab hkn
        go_wp2_with fail
        refine hcall.mono ?_
        rintro e w5 ⟨rfl, h5, k5⟩
        go_wp2_with fail
        go_meet
        case rel => exact ⟨by simp, h5.push 3, (kC.trans k4).trans k5⟩
    case rest =>
      clear hC kC
      obtain ⟨rfl, h4, k4⟩ := hcut
      cases r with
      | false =>
        have d0 := h4.cell 0
        have d1 := h4.cell 1
        have d2 := h4.cell 2
        have d3 := h4.cell 3
        have d4 := h4.cell 4
        have d5 := h4.cell 5
        have d6 := h4.cell 6
        have c2 := (h4.pull 2).cell 2
        simp at d0 d1 d2 d3 d4 d5 d6 c2
        have hset := tree_set (n := o.node) (s := f o.node) (h4.pull 3)
        rw [hvl, upd_self] at hset
        go_wp2_with fail
        refine hset.mono ?_
        rintro e w5 ⟨rfl, h5, k5⟩
        have k5 := k4.trans k5
        clear hset h4 k4 d0 d1 d2 d3 d4 d5 d6 c2
        obtain ⟨bm, v, hv⟩ := treeP_E h5
        obtain ⟨ao, cap, rfl⟩ := (hv.pull 2).tLen
        have t1 := hv.cell 1
        have f1 := hv.free 1
        have htl := hv.lt
        have hCl := (hv.pull 3).lt
        have d0 := (hv.pull 3).cell 0
        have d1 := (hv.pull 3).cell 1
        have d2 := (hv.pull 3).cell 2
        have d3 := (hv.pull 3).cell 3
        have d4 := (hv.pull 3).cell 4
        have d5 := (hv.pull 3).cell 5
        have d6 := (hv.pull 3).cell 6
        simp at t1 d0 d1 d2 d3 d4 d5 d6
        go_upto_region 9 with (fail)
        go_region_law ((refine step_append_lit (by rfl) (.tmp 53) (.tmp 55) 67 (by rfl) 71 i0 _ 7 72 Tryd.underlying67 hi hz0 hz1 hz2 (by rfl) (by omega) _ _ _ _ _ _ _ (by rfl) (Sat.pull 3 (hv.drew.alloc _)) 0 1 (by rfl) (by rfl) (by rfl) (by unfold maxLen; omega) (by omega) ?_; intro g off q' cap' w6 h6 k6; have e1 := (h6.pull 2).cell 1; have e2 := (h6.pull 2).free 1; simp at e1))
        all_goals
          go_wp2
          go_ret
          have h7 := (((h6.pull 2).set 1 (.slice (some ⟨g, off, none⟩) q' cap')).pull 2).tail
          have h8 := treeP_I ((Sat.tSnoc (f := fC) (x := ⟨o.node, f o.node, f o.node⟩) (h7.pull 1) (by simp only [fC, hx]; rfl)).push 2)
          exact ⟨rfl, (((h8.pull 1).tail.pull 1).tail.pull 1).tail, ((k5.drew.alloc _).trans k6).setCell _ _⟩
      | true =>
        have c2 := (h4.pull 2).cell 2
        have c3 := (h4.pull 2).cell 3
        have c4 := (h4.pull 2).cell 4
        have g4 := h4.cell 4
        have g5 := h4.cell 5
        have g6 := h4.cell 6
        have e4 := h4.free 4
        have e5 := h4.free 5
        have e6 := h4.free 6
        simp at c2 c3 c4 g4 g5 g6
        have h9 := ((h4.set 4 (.bool true)).set 5 (.int .i64 o.up)).set 6 (.string o.name)
        have k9 := ((k4.setCell ⟨C, 4, none⟩ (.bool true)).setCell ⟨C, 5, none⟩ (.int .i64 o.up)).setCell ⟨C, 6, none⟩ (.string o.name)
        go_upto_region 8 with (fail)
        generalize World.setCell _ _ _ = w4' at h9 k9 ⊢
        clear h4 k4 c2 c3 c4 g4 g5 g6 e4 e5 e6
        have h4 := h9
        have k4 := k9
        clear h9 k9
        have d0 := h4.cell 0
        have d1 := h4.cell 1
        have d2 := h4.cell 2
        have d3 := h4.cell 3
        have d4 := h4.cell 4
        have d5 := h4.cell 5
        have d6 := h4.cell 6
        have c2 := (h4.pull 2).cell 2
        simp at d0 d1 d2 d3 d4 d5 d6 c2
        have hset := tree_set (n := o.node) (s := some ⟨o.up, o.name⟩) (h4.pull 3)
        simp only [vL] at hset
        go_wp2_with fail
        refine hset.mono ?_
        rintro e w5 ⟨rfl, h5, k5⟩
        have k5 := k4.trans k5
        clear hset h4 k4 d0 d1 d2 d3 d4 d5 d6 c2
        obtain ⟨bm, v, hv⟩ := treeP_E h5
        obtain ⟨ao, cap, rfl⟩ := (hv.pull 2).tLen
        have t1 := hv.cell 1
        have f1 := hv.free 1
        have htl := hv.lt
        have hCl := (hv.pull 3).lt
        have d0 := (hv.pull 3).cell 0
        have d1 := (hv.pull 3).cell 1
        have d2 := (hv.pull 3).cell 2
        have d3 := (hv.pull 3).cell 3
        have d4 := (hv.pull 3).cell 4
        have d5 := (hv.pull 3).cell 5
        have d6 := (hv.pull 3).cell 6
        simp at t1 d0 d1 d2 d3 d4 d5 d6
        go_upto_region 9 with (fail)
        go_region_law ((refine step_append_lit (by rfl) (.tmp 53) (.tmp 55) 67 (by rfl) 71 i0 _ 7 72 Tryd.underlying67 hi hz0 hz1 hz2 (by rfl) (by omega) _ _ _ _ _ _ _ (by rfl) (Sat.pull 3 (hv.drew.alloc _)) 0 1 (by rfl) (by rfl) (by rfl) (by unfold maxLen; omega) (by omega) ?_; intro g off q' cap' w6 h6 k6; have e1 := (h6.pull 2).cell 1; have e2 := (h6.pull 2).free 1; simp at e1))
        all_goals
          go_wp2
          go_ret
          have h7 := (((h6.pull 2).set 1 (.slice (some ⟨g, off, none⟩) q' cap')).pull 2).tail
          have h8 := treeP_I ((Sat.tSnoc (f := fC) (x := ⟨o.node, f o.node, some ⟨o.up, o.name⟩⟩) (h7.pull 1) (by simp only [fC, hx]; rfl)).push 2)
          exact ⟨rfl, (((h8.pull 1).tail.pull 1).tail.pull 1).tail, ((k5.drew.alloc _).trans k6).setCell _ _⟩

end Go.Proofs.YtbnipieokpeadaaDoor

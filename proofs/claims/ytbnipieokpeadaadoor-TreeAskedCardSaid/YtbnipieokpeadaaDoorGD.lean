import Derived.Test.YtbnipieokpeadaaDoorGC
import Derived.Deep.CutRange
import Derived.Deep.CutBlock
namespace Go.Proofs.YtbnipieokpeadaaDoor
open Go Go.RowKit
set_option linter.unusedVariables false
set_option linter.unusedSimpArgs false

/-- An operation. -/
structure OpD where
  n : Int
  r : Int
  node : Int
  up : Int
  name : ByteArray
def fO (o : OpD) : List Value := [.int .i64 o.n, .int .i64 o.r, .int .i64 o.node, .int .i64 o.up, .string o.name]
theorem len_fO (o : OpD) : (fO o).length = 5 := rfl
def aggO (o : OpD) : Value := .agg #[.int .i64 o.n, .int .i64 o.r, .int .i64 o.node, .int .i64 o.up, .string o.name]
/-- op.Right tells that it is a right one. -/
def IsRight (o : OpD) : Prop := ∀ (w : World) (l : List HProp), Sat w l → Calls Tryd.prog 39 #[aggO o] w fun e w' => e = .returned (.bool true) ∧ Sat w' l ∧ Kp w w'

theorem Tryd.infoCh : (Tryd.prog.info? 71).map (fun i => (i.zero, i.size, i.bytes)) = some (some (.agg #[.int .i64 0, .bool false, .int .i64 0, .string ⟨#[]⟩, .bool false, .int .i64 0, .string ⟨#[]⟩]), 7, 72) := by kernel_rfl

theorem locCells_form (s : Option Loc) : ∃ q z nm, locCells s = [.bool q, .int .i64 z, .string nm] ∧ vL s = .agg #[.bool q, .int .i64 z, .string nm] := by
  cases s with
  | none => exact ⟨_, _, _, rfl, rfl⟩
  | some s => exact ⟨_, _, _, rfl, rfl⟩
/-- What Apply makes of the nodes. -/
def applied (f : Int → Option Loc) (o : OpD) (r : Bool) : Int → Option Loc := if r then upd f o.node (some ⟨o.up, o.name⟩) else f
def newLoc (f : Int → Option Loc) (o : OpD) (r : Bool) : Option Loc := if r then some ⟨o.up, o.name⟩ else f o.node

set_option maxRecDepth 100000 in
set_option maxHeartbeats 2000000 in
theorem tree_apply {w : World} {l : List HProp} {t : Nat} {f : Int → Option Loc} {ds : List ChD} {o : OpD} {r : Bool} (hs : Sat w (treeP t f ds :: l)) (hA : Acyc f) (hR : IsRight o) (hr : r = true ↔ known f o.up = true ∧ ¬ Anc f o.node o.up) (hlen : ds.length ≤ 1000) :
    Calls Tryd.prog 15 #[.pointer (some ⟨t, 0, none⟩), aggO o] w fun e w' => e = .returned (.bool r) ∧ Sat w' (treeP t (applied f o r) (ds ++ [⟨o.node, f o.node, newLoc f o r⟩]) :: l) ∧ Kp w w' := by
  obtain ⟨i0, hi, hz0, hz1, hz2⟩ := info_parts Tryd.infoCh
  have HR := Lib.hid hR
  have Hr := Lib.hid hr
  obtain ⟨k0, hk0⟩ := hA o.up
  have HK := Lib.hid hk0
  clear hR hr hk0
  have hB := hs.alloc (.cells #[.int .i64 o.n, .int .i64 o.r, .int .i64 o.node, .int .i64 o.up, .string o.name] 33)
  have kB := (Kp.refl w).alloc (.cells #[.int .i64 o.n, .int .i64 o.r, .int .i64 o.node, .int .i64 o.up, .string o.name] 33)
  simp only [aggO]
  go_enter Tryd.func15, Tryd.ntmps15
  go_upto_region 1 with (fail)
  generalize World.alloc _ _ = w1 at hB kB ⊢
  generalize w.heap.size = B at hB ⊢
  have b0 := hB.cell 0
  have b1 := hB.cell 1
  have b2 := hB.cell 2
  have b3 := hB.cell 3
  have b4 := hB.cell 4
  simp at b0 b1 b2 b3 b4
  go_wp2_with fail
  refine (HR.out _ _ hB).mono ?_
  rintro e w2 ⟨rfl, h2, k2⟩
  have k2 := kB.trans k2
  clear b0 b1 b2 b3 b4 hB kB hs
  go_upto_region 3 with (fail)
  go_cut [5] from 11 to 17 (fun v wx => ∃ A, v = .pointer (some ⟨A, 0, none⟩) ∧ Sat wx (own A (.cells (locCells (f o.node)).toArray 49 (0, 0)) :: own B (.cells #[.int .i64 o.n, .int .i64 o.r, .int .i64 o.node, .int .i64 o.up, .string o.name] 33 (0, 0)) :: treeP t f ds :: l) ∧ Kp w wx)
  case first =>
    obtain ⟨bm, v, hv⟩ := treeP_E (h2.pull 1)
    have c0 := hv.cell 0
    have b2 := h2.cell 2
    simp at c0 b2
    have hl := (look ((hv.pull 1).drew) o.node).1
    have hl2 := (look (((hv.pull 1).alloc' (.cells #[.bool false, .int .i64 0, .string ⟨#[]⟩] 49)).drew) o.node).1
    have hBl := h2.lt
    have htl := hv.lt
    have hA := (h2.alloc (.cells (locCells (f o.node)).toArray 49)).drew
    have kA := (k2.alloc (.cells (locCells (f o.node)).toArray 49)).drew
    cases hf : f o.node with
    | none =>
      rw [hf] at hl hl2 hA kA
      simp only [vL] at hl hl2
      go_region
      all_goals
        go_wp2_with fail
        go_meet
        case rel =>
          refine ⟨_, rfl, ?_, kA⟩
          rw [hf]
          exact hA
    | some s =>
      rw [hf] at hl hl2 hA kA
      simp only [vL] at hl hl2
      go_region
      all_goals
        go_wp2_with fail
        go_meet
        case rel =>
          refine ⟨_, rfl, ?_, kA⟩
          rw [hf]
          exact hA
  case rest =>
    clear h2 k2
    obtain ⟨A, rfl, h2, k2⟩ := hcut
    obtain ⟨q, z, nm, hx, hvl⟩ := locCells_form (f o.node)
    rw [hx] at h2
    have a0 := h2.cell 0
    have a1 := h2.cell 1
    have a2 := h2.cell 2
    have b2 := (h2.pull 1).cell 2
    simp at a0 a1 a2 b2
    have hC := h2.alloc (.cells #[.int .i64 o.node, .bool q, .int .i64 z, .string nm, .bool q, .int .i64 z, .string nm] 71)
    have kC := k2.alloc (.cells #[.int .i64 o.node, .bool q, .int .i64 z, .string nm, .bool q, .int .i64 z, .string nm] 71)
    go_upto_region 5 with (fail)
    generalize World.alloc _ _ = w3 at hC kC ⊢
    generalize wc.heap.size = C at hC ⊢
    clear h2 k2 a0 a1 a2 b2
    go_cut [7] from 23 to 35 (fun v wx => v = .bool r ∧ Sat wx (own C (.cells #[.int .i64 o.node, .bool q, .int .i64 z, .string nm, .bool q, .int .i64 z, .string nm] 71 (0, 0)) :: own A (.cells #[.bool q, .int .i64 z, .string nm] 49 (0, 0)) :: own B (.cells #[.int .i64 o.n, .int .i64 o.r, .int .i64 o.node, .int .i64 o.up, .string o.name] 33 (0, 0)) :: treeP t f ds :: l) ∧ Kp w wx)
    case first =>
      have b3 := (hC.pull 2).cell 3
      simp at b3
      go_wp2_with fail
      refine (tree_known (hC.pull 3)).mono ?_
      rintro e w4 ⟨rfl, h4, k4⟩
      cases hkn : known f o.up with
      | false =>
        have hr' : r = false := by
          cases r with
          | false => rfl
          | true => have := (Hr.out.1 rfl).1; rw [hkn] at this; cases this
        subst hr'
        go_wp2_with fail
        go_meet
        case rel => exact ⟨rfl, h4.push 3, kC.trans k4⟩
      | true =>
        have b2 := (h4.pull 3).cell 2
        have b3 := (h4.pull 3).cell 3
        simp at b2 b3
        have hab : (!r) = true ↔ known f o.up = true ∧ Anc f o.node o.up := by
          have := Hr.out
          rw [hkn] at this ⊢
          cases r <;> simp_all
        have hcall := tree_above h4 HK.out hab
        clear hab hkn
        go_wp2_with fail
        refine hcall.mono ?_
        rintro e w5 ⟨rfl, h5, k5⟩
        go_wp2_with fail
        go_meet
        case rel => exact ⟨by simp, h5.push 3, (kC.trans k4).trans k5⟩
    case rest =>
      clear hC kC
      obtain ⟨rfl, h4, k4⟩ := hcut
      cases r with
      | false =>
        have d0 := h4.cell 0
        have d1 := h4.cell 1
        have d2 := h4.cell 2
        have d3 := h4.cell 3
        have d4 := h4.cell 4
        have d5 := h4.cell 5
        have d6 := h4.cell 6
        have c2 := (h4.pull 2).cell 2
        simp at d0 d1 d2 d3 d4 d5 d6 c2
        have hset := tree_set (n := o.node) (s := f o.node) (h4.pull 3)
        rw [hvl, upd_self] at hset
        go_wp2_with fail
        refine hset.mono ?_
        rintro e w5 ⟨rfl, h5, k5⟩
        have k5 := k4.trans k5
        clear hset h4 k4 d0 d1 d2 d3 d4 d5 d6 c2
        obtain ⟨bm, v, hv⟩ := treeP_E h5
        obtain ⟨ao, cap, rfl⟩ := (hv.pull 2).tLen
        have t1 := hv.cell 1
        have f1 := hv.free 1
        have htl := hv.lt
        have hCl := (hv.pull 3).lt
        have d0 := (hv.pull 3).cell 0
        have d1 := (hv.pull 3).cell 1
        have d2 := (hv.pull 3).cell 2
        have d3 := (hv.pull 3).cell 3
        have d4 := (hv.pull 3).cell 4
        have d5 := (hv.pull 3).cell 5
        have d6 := (hv.pull 3).cell 6
        simp at t1 d0 d1 d2 d3 d4 d5 d6
        go_upto_region 9 with (fail)
        go_region_law ((refine step_append_lit (by rfl) (.tmp 53) (.tmp 55) 67 (by rfl) 71 i0 _ 7 72 Tryd.underlying67 hi hz0 hz1 hz2 (by rfl) (by omega) _ _ _ _ _ _ _ (by rfl) (Sat.pull 3 (hv.drew.alloc _)) 0 1 (by rfl) (by rfl) (by rfl) (by unfold maxLen; omega) (by omega) ?_; intro g off q' cap' w6 h6 k6; have e1 := (h6.pull 2).cell 1; have e2 := (h6.pull 2).free 1; simp at e1))
        all_goals
          go_wp2
          go_ret
          have h7 := (((h6.pull 2).set 1 (.slice (some ⟨g, off, none⟩) q' cap')).pull 2).tail
          have h8 := treeP_I ((Sat.tSnoc (f := fC) (x := ⟨o.node, f o.node, f o.node⟩) (h7.pull 1) (by simp only [fC, hx]; rfl)).push 2)
          exact ⟨rfl, (((h8.pull 1).tail.pull 1).tail.pull 1).tail, ((k5.drew.alloc _).trans k6).setCell _ _⟩
      | true =>
        have c2 := (h4.pull 2).cell 2
        have c3 := (h4.pull 2).cell 3
        have c4 := (h4.pull 2).cell 4
        have g4 := h4.cell 4
        have g5 := h4.cell 5
        have g6 := h4.cell 6
        have e4 := h4.free 4
        have e5 := h4.free 5
        have e6 := h4.free 6
        simp at c2 c3 c4 g4 g5 g6
        have h9 := ((h4.set 4 (.bool true)).set 5 (.int .i64 o.up)).set 6 (.string o.name)
        have k9 := ((k4.setCell ⟨C, 4, none⟩ (.bool true)).setCell ⟨C, 5, none⟩ (.int .i64 o.up)).setCell ⟨C, 6, none⟩ (.string o.name)
        go_upto_region 8 with (fail)
        generalize World.setCell _ _ _ = w4' at h9 k9 ⊢
        clear h4 k4 c2 c3 c4 g4 g5 g6 e4 e5 e6
        have h4 := h9
        have k4 := k9
        clear h9 k9
        have d0 := h4.cell 0
        have d1 := h4.cell 1
        have d2 := h4.cell 2
        have d3 := h4.cell 3
        have d4 := h4.cell 4
        have d5 := h4.cell 5
        have d6 := h4.cell 6
        have c2 := (h4.pull 2).cell 2
        simp at d0 d1 d2 d3 d4 d5 d6 c2
        have hset := tree_set (n := o.node) (s := some ⟨o.up, o.name⟩) (h4.pull 3)
        simp only [vL] at hset
        go_wp2_with fail
        refine hset.mono ?_
        rintro e w5 ⟨rfl, h5, k5⟩
        have k5 := k4.trans k5
        clear hset h4 k4 d0 d1 d2 d3 d4 d5 d6 c2
        obtain ⟨bm, v, hv⟩ := treeP_E h5
        obtain ⟨ao, cap, rfl⟩ := (hv.pull 2).tLen
        have t1 := hv.cell 1
        have f1 := hv.free 1
        have htl := hv.lt
        have hCl := (hv.pull 3).lt
        have d0 := (hv.pull 3).cell 0
        have d1 := (hv.pull 3).cell 1
        have d2 := (hv.pull 3).cell 2
        have d3 := (hv.pull 3).cell 3
        have d4 := (hv.pull 3).cell 4
        have d5 := (hv.pull 3).cell 5
        have d6 := (hv.pull 3).cell 6
        simp at t1 d0 d1 d2 d3 d4 d5 d6
        go_upto_region 9 with (fail)
        go_region_law ((refine step_append_lit (by rfl) (.tmp 53) (.tmp 55) 67 (by rfl) 71 i0 _ 7 72 Tryd.underlying67 hi hz0 hz1 hz2 (by rfl) (by omega) _ _ _ _ _ _ _ (by rfl) (Sat.pull 3 (hv.drew.alloc _)) 0 1 (by rfl) (by rfl) (by rfl) (by unfold maxLen; omega) (by omega) ?_; intro g off q' cap' w6 h6 k6; have e1 := (h6.pull 2).cell 1; have e2 := (h6.pull 2).free 1; simp at e1))
        all_goals
          go_wp2
          go_ret
          have h7 := (((h6.pull 2).set 1 (.slice (some ⟨g, off, none⟩) q' cap')).pull 2).tail
          have h8 := treeP_I ((Sat.tSnoc (f := fC) (x := ⟨o.node, f o.node, some ⟨o.up, o.name⟩⟩) (h7.pull 1) (by simp only [fC, hx]; rfl)).push 2)
          exact ⟨rfl, (((h8.pull 1).tail.pull 1).tail.pull 1).tail, ((k5.drew.alloc _).trans k6).setCell _ _⟩

end Go.Proofs.YtbnipieokpeadaaDoor

namespace Go.Proofs.YtbnipieokpeadaaDoor
open Go Go.RowKit
set_option linter.unusedVariables false
set_option linter.unusedSimpArgs false

theorem len_flatU {α : Type} {f : α → List Value} {size : Nat} (hf : ∀ x, (f x).length = size) : ∀ xs : List α, (xs.flatMap f).length = xs.length * size
  | [] => by simp
  | x :: xs => by rw [List.flatMap_cons, List.length_append, len_flatU hf xs, hf, List.length_cons, Nat.add_mul]; omega
/-- A slice, without its last element. -/
theorem Sat.tShort {α : Type} {f : α → List Value} {w : World} {e : TypeId} {size : Nat} {xs : List α} {x : α} {l : List HProp} {g off n cap : Nat} (hf : ∀ x, (f x).length = size) (hs : Sat w (rowT f (.slice (some ⟨g, off, none⟩) n cap) e size (xs ++ [x]) :: l)) :
    Sat w (rowT f (.slice (some ⟨g, off, none⟩) xs.length cap) e size xs :: l) := by
  rcases (Sat.rowE hs).2 with ⟨h, _⟩ | ⟨g', off', cap', cur, h, h1, h2, h3, h4, h5⟩
  · simp at h
  simp only [Value.slice.injEq, Option.some.injEq, Addr.mk.injEq, and_true] at h
  obtain ⟨⟨rfl, rfl⟩, rfl, rfl⟩ := h
  have hl : (xs ++ [x]).length = xs.length + 1 := by simp
  have h6 := h5.rowI (off := off) (size := size) (n := xs.length) (cap := cap) (by omega) h2 h3
  refine h6.tOf xs rfl ?_
  have hlen : (xs.flatMap f).length = xs.length * size := len_flatU hf xs
  have h7 : (cur.toList.drop off).take (xs.length * size) = ((cur.toList.drop off).take ((xs ++ [x]).length * size)).take (xs.length * size) := by
    rw [List.take_take, Nat.min_eq_left]
    exact Nat.mul_le_mul_right _ (by omega)
  rw [h7, h4, List.flatMap_append, ← hlen]
  exact List.take_left

set_option maxRecDepth 100000 in
set_option maxHeartbeats 2000000 in
theorem tree_undo_none {w : World} {l : List HProp} {t : Nat} {f : Int → Option Loc} (hs : Sat w (treeP t f [] :: l)) :
    Calls Tryd.prog 30 #[.pointer (some ⟨t, 0, none⟩)] w fun e w' => e = .returned (.bool false) ∧ Sat w' (treeP t f [] :: l) ∧ Kp w w' := by
  obtain ⟨b, v, hv⟩ := treeP_E hs
  obtain ⟨ao, cap, rfl⟩ := (hv.pull 2).tLen
  have t1 := hv.cell 1
  simp at t1
  go_enter Tryd.func30, Tryd.ntmps30
  go_wp2_with fail
  go_ret
  exact ⟨rfl, hs, Kp.refl w⟩

set_option maxRecDepth 100000 in
set_option maxHeartbeats 2000000 in
theorem tree_undo {w : World} {l : List HProp} {t : Nat} {f : Int → Option Loc} {ds : List ChD} {c : ChD} (hs : Sat w (treeP t f (ds ++ [c]) :: l)) (hn : ds.length ≤ 1000) :
    Calls Tryd.prog 30 #[.pointer (some ⟨t, 0, none⟩)] w fun e w' => e = .returned (.bool true) ∧ Sat w' (treeP t (upd f c.node c.old) ds :: l) ∧ Kp w w' := by
  obtain ⟨b, v, hv⟩ := treeP_E hs
  rcases (hv.pull 2).tForm with ⟨_, hp⟩ | ⟨g, off, cap, rfl⟩
  · simp at hp
  have hll : (ds ++ [c]).length = ds.length + 1 := by simp
  have hx : (ds ++ [c])[ds.length]? = some c := by simp
  obtain ⟨k, hk⟩ : ∃ k, k = ds.length := ⟨_, rfl⟩
  have HK := Lib.hid hk
  obtain ⟨n, hnk⟩ : ∃ n, n = k + 1 := ⟨_, rfl⟩
  rw [← hk] at hx hn
  rw [hll, ← hk, ← hnk] at hv
  have hcap := (hv.pull 2).tCap
  obtain ⟨q, z, nm, ho, hvo⟩ := locCells_form c.old
  obtain ⟨q2, z2, nm2, hne, hvn⟩ := locCells_form c.new
  have hcs : fC c = [.int .i64 c.node, .bool q, .int .i64 z, .string nm, .bool q2, .int .i64 z2, .string nm2] := by simp [fC, ho, hne]
  have x0 := (hv.pull 2).tCell len_fC k 0 hx (by rw [hcs]; rfl)
  have x1 := (hv.pull 2).tCell len_fC k 1 hx (by rw [hcs]; rfl)
  have x2 := (hv.pull 2).tCell len_fC k 2 hx (by rw [hcs]; rfl)
  have x3 := (hv.pull 2).tCell len_fC k 3 hx (by rw [hcs]; rfl)
  have x4 := (hv.pull 2).tCell len_fC k 4 hx (by rw [hcs]; rfl)
  have x5 := (hv.pull 2).tCell len_fC k 5 hx (by rw [hcs]; rfl)
  have x6 := (hv.pull 2).tCell len_fC k 6 hx (by rw [hcs]; rfl)
  rw [Nat.add_zero] at x0
  have t1 := hv.cell 1
  simp at t1
  have hC := hv.alloc (.cells #[.int .i64 c.node, .bool q, .int .i64 z, .string nm, .bool q2, .int .i64 z2, .string nm2] 71)
  have kC := (Kp.refl w).alloc (.cells #[.int .i64 c.node, .bool q, .int .i64 z, .string nm, .bool q2, .int .i64 z2, .string nm2] 71)
  have hcap1 : n ≤ cap := by rw [hnk, hk, ← hll]; exact hcap.1
  have hcapm := hcap.2.2
  unfold maxLen at hcapm
  have hne0 : ((n : Int) == 0) = false := by rw [hnk]; simp; omega
  have i0' : (0 : Int) ≤ (k : Int) := by omega
  have i1' : (k : Int) < (n : Int) := by omega
  have i2' : (k : Int) ≤ (cap : Int) := by omega
  have hsub : IntKind.i64.wrap ((n : Int) - 1) = (k : Int) := by rw [hnk]; push_cast; rw [IntWalk.i64_in _ (by omega)]; omega
  clear hx hll hcs ho hne hk hs hcap
  have HNK := Lib.hid hnk
  clear hnk hcap1
  go_enter Tryd.func30, Tryd.ntmps30
  go_upto_region 5 with (fail)
  generalize World.alloc _ _ = w1 at hC kC ⊢
  generalize w.heap.size = C at hC ⊢
  clear x0 x1 x2 x3 x4 x5 x6 t1 hv
  have d0 := hC.cell 0
  have d1 := hC.cell 1
  have d2 := hC.cell 2
  have d3 := hC.cell 3
  simp at d0 d1 d2 d3
  have hset := tree_set (n := c.node) (s := c.old) (treeP_I (hC.push 3))
  rw [hvo] at hset
  go_wp2_with fail
  refine hset.mono ?_
  rintro e w2 ⟨rfl, h2, k2⟩
  have k2 := kC.trans k2
  clear hset hC kC d0 d1 d2 d3
  obtain ⟨b2, v2, hv2⟩ := treeP_E h2
  clear h2
  rcases (hv2.pull 2).tForm with ⟨_, hp⟩ | ⟨g2, off2, cap2, rfl⟩
  · simp at hp
  have hll : (ds ++ [c]).length = n := by rw [HNK.out, HK.out]; simp
  rw [hll] at hv2
  have hcap := (hv2.pull 2).tCap
  rw [hll] at hcap
  have hcap1 := hcap.1
  have hcapm2 := hcap.2.2
  unfold maxLen at hcapm2
  have i3' : (k : Int) ≤ (cap2 : Int) := by have := HNK.out; omega
  have t1 := hv2.cell 1
  have f1 := hv2.free 1
  simp at t1
  have h5 := (hv2.set 1 (.slice (some ⟨g2, off2, none⟩) k cap2)).pull 2
  have h6 := Sat.tShort len_fC h5
  rw [← HK.out] at h6
  have h7 := treeP_I (h6.push 2)
  have k7 := k2.setCell ⟨t, 1, none⟩ (.slice (some ⟨g2, off2, none⟩) k cap2)
  clear h5 h6 hv2 hll hcap hcap1 hcapm
  go_wp2_with fail
  go_ret
  exact ⟨rfl, (h7.pull 1).tail, k7⟩

end Go.Proofs.YtbnipieokpeadaaDoor

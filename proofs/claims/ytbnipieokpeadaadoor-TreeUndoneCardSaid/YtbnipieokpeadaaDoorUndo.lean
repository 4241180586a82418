import Derived.Test.YtbnipieokpeadaaDoorTree3
namespace Go.Proofs.YtbnipieokpeadaaDoor
open Go Go.RowKit
set_option linter.unusedVariables false
set_option linter.unusedSimpArgs false

theorem len_flatU {α : Type} {f : α → List Value} {size : Nat} (hf : ∀ x, (f x).length = size) : ∀ xs : List α, (xs.flatMap f).length = xs.length * size
  | [] => by simp
  | x :: xs => by rw [List.flatMap_cons, List.length_append, len_flatU hf xs, hf, List.length_cons, Nat.add_mul]; omega
/-- A slice, without its last element. -/
theorem Sat.tShort {α : Type} {f : α → List Value} {w : World} {e : TypeId} {size : Nat} {xs : List α} {x : α} {l : List HProp} {g off n cap : Nat} (hf : ∀ x, (f x).length = size) (hs : Sat w (rowT f (.slice (some ⟨g, off, none⟩) n cap) e size (xs ++ [x]) :: l)) :
    Sat w (rowT f (.slice (some ⟨g, off, none⟩) xs.length cap) e size xs :: l) := by
  rcases (Sat.rowE hs).2 with ⟨h, _⟩ | ⟨g', off', cap', cur, h, h1, h2, h3, h4, h5⟩
  · simp at h
  simp only [Value.slice.injEq, Option.some.injEq, Addr.mk.injEq, and_true] at h
  obtain ⟨⟨rfl, rfl⟩, rfl, rfl⟩ := h
  have hl : (xs ++ [x]).length = xs.length + 1 := by simp
  have h6 := h5.rowI (off := off) (size := size) (n := xs.length) (cap := cap) (by omega) h2 h3
  refine h6.tOf xs rfl ?_
  have hlen : (xs.flatMap f).length = xs.length * size := len_flatU hf xs
  have h7 : (cur.toList.drop off).take (xs.length * size) = ((cur.toList.drop off).take ((xs ++ [x]).length * size)).take (xs.length * size) := by
    rw [List.take_take, Nat.min_eq_left]
    exact Nat.mul_le_mul_right _ (by omega)
  rw [h7, h4, List.flatMap_append, ← hlen]
  exact List.take_left

set_option maxRecDepth 100000 in
set_option maxHeartbeats 2000000 in
theorem tree_undo_none {w : World} {l : List HProp} {t : Nat} {f : Int → Option Loc} (hs : Sat w (treeP t f [] :: l)) :
    Calls Tryd.prog 30 #[.pointer (some ⟨t, 0, none⟩)] w fun e w' => e = .returned (.bool false) ∧ Sat w' (treeP t f [] :: l) ∧ Kp w w' := by
  obtain ⟨b, v, hv⟩ := treeP_E hs
  obtain ⟨ao, cap, rfl⟩ := (hv.pull 2).tLen
  have t1 := hv.cell 1
  simp at t1
  go_enter Tryd.func30, Tryd.ntmps30
  go_wp2_with fail
  go_ret
  exact ⟨rfl, hs, Kp.refl w⟩

set_option maxRecDepth 100000 in
set_option maxHeartbeats 2000000 in
theorem tree_undo {w : World} {l : List HProp} {t : Nat} {f : Int → Option Loc} {ds : List ChD} {c : ChD} (hs : Sat w (treeP t f (ds ++ [c]) :: l)) (hn : ds.length ≤ 1000) :
    Calls Tryd.prog 30 #[.pointer (some ⟨t, 0, none⟩)] w fun e w' => e = .returned (.bool true) ∧ Sat w' (treeP t (upd f c.node c.old) ds :: l) ∧ Kp w w' := by
  obtain ⟨b, v, hv⟩ := treeP_E hs
  rcases (hv.pull 2).tForm with ⟨_, hp⟩ | ⟨g, off, cap, rfl⟩
  · simp at hp
  have hll : (ds ++ [c]).length = ds.length + 1 := by simp
  have hx : (ds ++ [c])[ds.length]? = some c := by simp
  obtain ⟨k, hk⟩ : ∃ k, k = ds.length := ⟨_, rfl⟩
  have HK := Lib.hid hk
  obtain ⟨n, hnk⟩ : ∃ n, n = k + 1 := ⟨_, rfl⟩
  rw [← hk] at hx hn
  rw [hll, ← hk, ← hnk] at hv
  have hcap := (hv.pull 2).tCap
  obtain ⟨q, z, nm, ho, hvo⟩ := locCells_form c.old
  obtain ⟨q2, z2, nm2, hne, hvn⟩ := locCells_form c.new
  have hcs : fC c = [.int .i64 c.node, .bool q, .int .i64 z, .string nm, .bool q2, .int .i64 z2, .string nm2] := by simp [fC, ho, hne]
  have x0 := (hv.pull 2).tCell len_fC k 0 hx (by rw [hcs]; rfl)
  have x1 := (hv.pull 2).tCell len_fC k 1 hx (by rw [hcs]; rfl)
  have x2 := (hv.pull 2).tCell len_fC k 2 hx (by rw [hcs]; rfl)
  have x3 := (hv.pull 2).tCell len_fC k 3 hx (by rw [hcs]; rfl)
  have x4 := (hv.pull 2).tCell len_fC k 4 hx (by rw [hcs]; rfl)
  have x5 := (hv.pull 2).tCell len_fC k 5 hx (by rw [hcs]; rfl)
  have x6 := (hv.pull 2).tCell len_fC k 6 hx (by rw [hcs]; rfl)
  rw [Nat.add_zero] at x0
  have t1 := hv.cell 1
  simp at t1
  have hC := hv.alloc (.cells #[.int .i64 c.node, .bool q, .int .i64 z, .string nm, .bool q2, .int .i64 z2, .string nm2] 71)
  have kC := (Kp.refl w).alloc (.cells #[.int .i64 c.node, .bool q, .int .i64 z, .string nm, .bool q2, .int .i64 z2, .string nm2] 71)
  have hcap1 : n ≤ cap := by rw [hnk, hk, ← hll]; exact hcap.1
  have hcapm := hcap.2.2
  unfold maxLen at hcapm
  have hne0 : ((n : Int) == 0) = false := by rw [hnk]; simp; omega
  have i0' : (0 : Int) ≤ (k : Int) := by omega
  have i1' : (k : Int) < (n : Int) := by omega
  have i2' : (k : Int) ≤ (cap : Int) := by omega
  have hsub : IntKind.i64.wrap ((n : Int) - 1) = (k : Int) := by rw [hnk]; push_cast; rw [IntWalk.i64_in _ (by omega)]; omega
  clear hx hll hcs ho hne hk hs hcap
  have HNK := Lib.hid hnk
  clear hnk hcap1
  go_enter Tryd.func30, Tryd.ntmps30
  go_upto_region 5 with (fail)
  generalize World.alloc _ _ = w1 at hC kC ⊢
  generalize w.heap.size = C at hC ⊢
  clear x0 x1 x2 x3 x4 x5 x6 t1 hv
  have d0 := hC.cell 0
  have d1 := hC.cell 1
  have d2 := hC.cell 2
  have d3 := hC.cell 3
  simp at d0 d1 d2 d3
  have hset := tree_set (n := c.node) (s := c.old) (treeP_I (hC.push 3))
  rw [hvo] at hset
  go_wp2_with fail
  refine hset.mono ?_
  rintro e w2 ⟨rfl, h2, k2⟩
  have k2 := kC.trans k2
  clear hset hC kC d0 d1 d2 d3
  obtain ⟨b2, v2, hv2⟩ := treeP_E h2
  clear h2
  rcases (hv2.pull 2).tForm with ⟨_, hp⟩ | ⟨g2, off2, cap2, rfl⟩
  · simp at hp
  have hll : (ds ++ [c]).length = n := by rw [HNK.out, HK.out]; simp
  rw [hll] at hv2
  have hcap := (hv2.pull 2).tCap
  rw [hll] at hcap
  have hcap1 := hcap.1
  have hcapm2 := hcap.2.2
  unfold maxLen at hcapm2
  have i3' : (k : Int) ≤ (cap2 : Int) := by have := HNK.out; omega
  have t1 := hv2.cell 1
  have f1 := hv2.free 1
  simp at t1
  have h5 := (hv2.set 1 (.slice (some ⟨g2, off2, none⟩) k cap2)).pull 2
  have h6 := Sat.tShort len_fC h5
  rw [← HK.out] at h6
  have h7 := treeP_I (h6.push 2)
  have k7 := k2.setCell ⟨t, 1, none⟩ (.slice (some ⟨g2, off2, none⟩) k cap2)
  clear h5 h6 hv2 hll hcap hcap1 hcapm
  go_wp2_with fail
  go_ret
  exact ⟨rfl, (h7.pull 1).tail, k7⟩

end Go.Proofs.YtbnipieokpeadaaDoor

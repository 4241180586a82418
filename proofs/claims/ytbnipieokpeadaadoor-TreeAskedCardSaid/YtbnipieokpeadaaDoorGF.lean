import Derived.Shelf.SlSortCmp.NoneTotal
import Derived.Test.YtbnipieokpeadaaDoorProg
import Derived.Test.YtbnipieokpeadaaDoorGE
namespace Go.Proofs.YtbnipieokpeadaaDoor
open Go Go.Proofs Go.Shelf
set_option maxRecDepth 100000

def sortKid_ren : Go.Shelf.Ren := ⟨fun | 6 => 58 | 15 => 68 | 14 => 67 | 28 => 84 | 29 => 85 | 20 => 76 | 21 => 77 | 22 => 78 | 23 => 79 | 24 => 80 | 25 => 81 | 26 => 82 | 27 => 83 | 46 => 91 | 47 => 92 | 48 => 93 | 49 => 94 | 50 => 95 | 57 => 100 | n => n, fun | 22 => 36 | 24 => 39 | 25 => 88 | 3 => 3 | 39 => 96 | 0 => 0 | 53 => 117 | 55 => 119 | 4 => 4 | 46 => 110 | 45 => 109 | 50 => 114 | 5 => 5 | 9 => 9 | 66 => 122 | 70 => 126 | 76 => 132 | 77 => 133 | n => n, fun | n => n⟩
theorem sortKid : Go.Proofs.SlLaysF0.n6 Tryd.prog sortKid_ren where
  mixed := by kernel_rfl
  f6 := ⟨ "slices.SortFunc[[]holt/api.Kid,holt/api.Kid]", by decide, Tryd.func58.trans (congrArg some (by kernel_rfl))⟩
  f14 := ⟨ "slices.pdqsortCmpFunc[holt/api.Kid]", by decide, Tryd.func67.trans (congrArg some (by kernel_rfl))⟩
  f15 := Tryd.func68.trans (congrArg some (by kernel_rfl))
  f20 := ⟨ "slices.insertionSortCmpFunc[holt/api.Kid]", by decide, Tryd.func76.trans (congrArg some (by kernel_rfl))⟩
  f21 := ⟨ "slices.heapSortCmpFunc[holt/api.Kid]", by decide, Tryd.func77.trans (congrArg some (by kernel_rfl))⟩
  f22 := ⟨ "slices.breakPatternsCmpFunc[holt/api.Kid]", by decide, Tryd.func78.trans (congrArg some (by kernel_rfl))⟩
  f23 := ⟨ "slices.choosePivotCmpFunc[holt/api.Kid]", by decide, Tryd.func79.trans (congrArg some (by kernel_rfl))⟩
  f24 := ⟨ "slices.reverseRangeCmpFunc[holt/api.Kid]", by decide, Tryd.func80.trans (congrArg some (by kernel_rfl))⟩
  f25 := ⟨ "slices.partialInsertionSortCmpFunc[holt/api.Kid]", by decide, Tryd.func81.trans (congrArg some (by kernel_rfl))⟩
  f26 := ⟨ "slices.partitionEqualCmpFunc[holt/api.Kid]", by decide, Tryd.func82.trans (congrArg some (by kernel_rfl))⟩
  f27 := ⟨ "slices.partitionCmpFunc[holt/api.Kid]", by decide, Tryd.func83.trans (congrArg some (by kernel_rfl))⟩
  f28 := Tryd.func84.trans (congrArg some (by kernel_rfl))
  f29 := Tryd.func85.trans (congrArg some (by kernel_rfl))
  f46 := ⟨ "slices.siftDownCmpFunc[holt/api.Kid]", by decide, Tryd.func91.trans (congrArg some (by kernel_rfl))⟩
  f47 := Tryd.func92.trans (congrArg some (by kernel_rfl))
  f48 := Tryd.func93.trans (congrArg some (by kernel_rfl))
  f49 := ⟨ "slices.medianAdjacentCmpFunc[holt/api.Kid]", by decide, Tryd.func94.trans (congrArg some (by kernel_rfl))⟩
  f50 := ⟨ "slices.medianCmpFunc[holt/api.Kid]", by decide, Tryd.func95.trans (congrArg some (by kernel_rfl))⟩
  f57 := ⟨ "slices.order2CmpFunc[holt/api.Kid]", by decide, Tryd.func100.trans (congrArg some (by kernel_rfl))⟩
  t0 := Tryd.underlying0
  a0 := Tryd.isAgg0
  z0 := Tryd.sizeOf0
  v0 := Tryd.zeroValue0
  t3 := Tryd.underlying3
  a3 := Tryd.isAgg3
  z3 := Tryd.sizeOf3
  v3 := Tryd.zeroValue3
  t4 := Tryd.underlying4
  a4 := Tryd.isAgg4
  z4 := Tryd.sizeOf4
  v4 := Tryd.zeroValue4
  t5 := Tryd.underlying5
  a5 := Tryd.isAgg5
  z5 := Tryd.sizeOf5
  v5 := Tryd.zeroValue5
  t9 := Tryd.underlying9
  a9 := Tryd.isAgg9
  z9 := Tryd.sizeOf9
  v9 := Tryd.zeroValue9
  t22 := Tryd.underlying36
  a22 := Tryd.isAgg36
  z22 := Tryd.sizeOf36
  v22 := Tryd.zeroValue36
  t25 := Tryd.underlying88
  a25 := Tryd.isAgg88
  z25 := Tryd.sizeOf88
  v25 := Tryd.zeroValue88
  t39 := Tryd.underlying96
  a39 := Tryd.isAgg96
  z39 := Tryd.sizeOf96
  v39 := Tryd.zeroValue96
  t45 := Tryd.underlying109
  a45 := Tryd.isAgg109
  z45 := Tryd.sizeOf109
  v45 := Tryd.zeroValue109
  t46 := Tryd.underlying110
  a46 := Tryd.isAgg110
  z46 := Tryd.sizeOf110
  v46 := Tryd.zeroValue110
  t50 := Tryd.underlying114
  a50 := Tryd.isAgg114
  z50 := Tryd.sizeOf114
  v50 := Tryd.zeroValue114
  t53 := Tryd.underlying117
  a53 := Tryd.isAgg117
  z53 := Tryd.sizeOf117
  v53 := Tryd.zeroValue117
  t55 := Tryd.underlying119
  a55 := Tryd.isAgg119
  z55 := Tryd.sizeOf119
  v55 := Tryd.zeroValue119
  t66 := Tryd.underlying122
  a66 := Tryd.isAgg122
  z66 := Tryd.sizeOf122
  v66 := Tryd.zeroValue122
  t70 := Tryd.underlying126
  a70 := Tryd.isAgg126
  z70 := Tryd.sizeOf126
  v70 := Tryd.zeroValue126
  t76 := Tryd.underlying132
  a76 := Tryd.isAgg132
  z76 := Tryd.sizeOf132
  v76 := Tryd.zeroValue132
  t77 := Tryd.underlying133
  a77 := Tryd.isAgg133
  z77 := Tryd.sizeOf133
  v77 := Tryd.zeroValue133

end Go.Proofs.YtbnipieokpeadaaDoor

namespace Go.Proofs.YtbnipieokpeadaaDoor
open Go Go.RowKit Go.Sort
set_option linter.unusedVariables false
set_option linter.unusedSimpArgs false

instance : Inhabited KidD := ⟨⟨0, ⟨#[]⟩, 0⟩⟩

theorem grow_three (w : World) (a b c : Obj) : (((w.alloc a).alloc b).drewN 1).alloc c = grow (w.drewN 1) #[a, b, c] := by
  rw [alloc_eq_grow, alloc_eq_grow, alloc_eq_grow]
  show grow (grow (grow (w.drewN 1) #[a]) #[b]) #[c] = _
  rw [grow_grow, grow_grow]
  rfl

set_option maxRecDepth 100000 in
set_option maxHeartbeats 1000000 in
theorem tree_order_exact (w : World) (a b : KidD) :
    Calls Tryd.prog 59 #[aggK a, aggK b] w fun e w' => e = .returned (.int .i64 (kord a b)) ∧ ∃ q os', w' = grow (w.drewN q) os' := by
  have hB := ((Sat.nil w).alloc (.cells #[.int .i64 a.up, .string a.name, .int .i64 a.node] 39)).alloc (.cells #[.int .i64 b.up, .string b.name, .int .i64 b.node] 39)
  simp only [World.size_alloc] at hB
  simp only [aggK]
  go_enter Tryd.func59, Tryd.ntmps59
  go_upto_region 1 with (fail)
  generalize hw1 : World.alloc _ _ = w1 at hB ⊢
  have hne := hB.ne
  generalize w.heap.size + 1 = B at hB hne ⊢
  generalize w.heap.size = A at hB hne ⊢
  have b0 := hB.cell 0
  have b1 := hB.cell 1
  have b2 := hB.cell 2
  have a0 := (hB.pull 1).cell 0
  have a1 := (hB.pull 1).cell 1
  have a2 := (hB.pull 1).cell 2
  simp at b0 b1 b2 a0 a1 a2
  have hX := ((hB.drewN 1).alloc (.cells #[.int .i64 (cmpI a.up b.up), .int .i64 (cmpS a.name b.name), .int .i64 (cmpI a.node b.node)] 3))
  have x0 := hX.cell 0
  have x1 := hX.cell 1
  have x2 := hX.cell 2
  simp at x0 x1 x2
  go_region_held3 (fun w' => w'.cell? ⟨A, 0, none⟩ = some (.int .i64 a.up) ∧ w'.cell? ⟨A, 1, none⟩ = some (.string a.name) ∧ w'.cell? ⟨A, 2, none⟩ = some (.int .i64 a.node) ∧ w'.cell? ⟨B, 0, none⟩ = some (.int .i64 b.up) ∧ w'.cell? ⟨B, 1, none⟩ = some (.string b.name) ∧ w'.cell? ⟨B, 2, none⟩ = some (.int .i64 b.node)) (first | exact ⟨a0, a1, a2, b0, b1, b2⟩ | go_keep)
    (first | (go_at_call 70; refine (cmp_int _ _).mono ?_; rintro e w9 ⟨rfl, rfl⟩) | (go_at_call 71; refine (cmp_str _ _).mono ?_; rintro e w9 ⟨rfl, rfl⟩) | (go_at_call 69; refine (cmp_or _ _ _ x0 x1 x2).mono ?_; rintro e w9 ⟨rfl, rfl⟩))
  all_goals
    go_wp2_with fail
    go_ret
    exact ⟨rfl, 1, #[.cells #[.int .i64 a.up, .string a.name, .int .i64 a.node] 39, .cells #[.int .i64 b.up, .string b.name, .int .i64 b.node] 39, .cells #[.int .i64 (cmpI a.up b.up), .int .i64 (cmpS a.name b.name), .int .i64 (cmpI a.node b.node)] 3], by rw [← hw1]; exact grow_three w _ _ _⟩

theorem kid_lays (blk off size : Nat) (w : World) : CmpLays Tryd.prog 59 #[] fK 3 kord blk off size w :=
  fun _ _ _ _ x y => tree_order_exact _ x y

theorem klt_is : ltOf kord = klt := rfl
theorem klt_swo : SWO (ltOf kord) where
  irrefl := strict_klt.irr
  trans := strict_klt.trans
  ntrans x y z h1 h2 := by
    rw [klt_is] at *
    cases h : klt x z with
    | false => rfl
    | true =>
      rcases strict_klt.tri x y with e | e | e
      · rw [h1] at e; cases e
      · subst e; rw [h2] at h; cases h
      · have := strict_klt.trans y x z e h
        rw [h2] at this
        cases this
theorem klt_total (x y : KidD) (h1 : (ltOf kord) x y = false) (h2 : (ltOf kord) y x = false) : x = y := by
  rw [klt_is] at *
  rcases strict_klt.tri x y with e | e | e
  · rw [h1] at e; cases e
  · exact e
  · rw [h2] at e; cases e
theorem msort_isort (l : List KidD) : (l.mergeSort fun x y => !(ltOf kord) y x) = isort klt l := by
  rw [klt_is]
  have hp : (l.mergeSort fun x y => !klt y x).Perm l := List.mergeSort_perm ..
  have hs : (l.mergeSort fun x y => !klt y x).Pairwise fun a b => (!klt b a) = true := by
    apply List.pairwise_mergeSort
    · intro a b c h1 h2
      have := klt_swo.ntrans c b a (by rw [klt_is]; simpa using h2) (by rw [klt_is]; simpa using h1)
      rw [klt_is] at this
      simp [this]
    · intro a b
      cases h : klt b a with
      | false => simp
      | true => simp [strict_klt.asymm h]
  have h1 : SortedR klt (l.mergeSort fun x y => !klt y x).reverse := by
    unfold SortedR
    rw [List.pairwise_reverse]
    exact hs.imp fun h => by simpa using h
  have h2 := sorted_unique strict_klt h1 (isortR_sorted strict_klt l) ((List.reverse_perm _).trans (hp.trans (by
    have := isort_perm klt l
    unfold isort at this
    exact ((List.reverse_perm _).symm.trans this).symm)))
  unfold isort
  rw [← h2, List.reverse_reverse]

end Go.Proofs.YtbnipieokpeadaaDoor

namespace Go.Proofs.YtbnipieokpeadaaDoor
open Go Go.RowKit Go.Sort
set_option linter.unusedVariables false
set_option linter.unusedSimpArgs false

theorem len_flatK : ∀ ks : List KidD, (ks.flatMap fK).length = ks.length * 3
  | [] => by simp
  | k :: ks => by rw [List.flatMap_cons, List.length_append, len_flatK ks, len_fK, List.length_cons, Nat.add_mul]; omega
theorem flat_get (ks : List KidD) (j : Nat) (hj : j < ks.length * 3) : (ks.flatMap fK)[j]? = some (flatK fK 3 ks.toArray)[j]! := by
  have hi : j / 3 < ks.length := by omega
  have hr : j % 3 < 3 := by omega
  have h1 := get_flat len_fK ks (j / 3) (j % 3) ks[j / 3] (List.getElem?_eq_getElem hi) (by omega)
  rw [show j / 3 * 3 + j % 3 = j by omega] at h1
  rw [h1, get_flatK _ _ _ _ (by simpa using hj)]
  have h2 : ks.toArray[j / 3]! = ks[j / 3] := by
    rw [getElem!_pos _ _ (by simpa using hi)]
    simp
  rw [h2]
  have h3 : j % 3 < (fK ks[j / 3]).length := by rw [len_fK]; exact hr
  rw [List.getElem?_eq_getElem h3]
  exact congrArg some (getElem!_pos (fK ks[j / 3]) (j % 3) h3).symm

theorem holds_row {w : World} {l : List HProp} {g off cap : Nat} {ks : List KidD} (hs : Sat w (rowT fK (.slice (some ⟨g, off, none⟩) ks.length cap) 39 3 ks :: l)) : HoldsK fK 3 w g off ks.toArray := by
  intro j hj
  have hj' : j < ks.length * 3 := by simpa using hj
  refine ⟨?_, ?_⟩
  · rw [Sat.rowCell hs j hj', flat_get ks j hj']
    rfl
  · exact Sat.rowFree hs (off + j)

theorem sorted_row {w w' : World} {l : List HProp} {g off cap n : Nat} {ks js : List KidD} {os : Array Obj} (hs : Sat w (rowT fK (.slice (some ⟨g, off, none⟩) ks.length cap) 39 3 ks :: l)) (hl : js.length = ks.length)
    (hw : w' = sortWorldK fK 3 w g off n js.toArray os) : Sat w' (rowT fK (.slice (some ⟨g, off, none⟩) ks.length cap) 39 3 js :: l) ∧ Kp w w' := by
  subst hw
  rcases (Sat.rowE hs).2 with ⟨h, _⟩ | ⟨g', off', cap', cur, h, h1, h2, h3, h4, h5⟩
  · simp at h
  simp only [Value.slice.injEq, Option.some.injEq, Addr.mk.injEq, and_true, true_and] at h
  obtain ⟨⟨rfl, rfl⟩, rfl⟩ := h
  have hg := h5.get
  have hlt := h5.lt
  have hF : (flatK fK 3 js.toArray).size = ks.length * 3 := by simp [hl]
  have hcap : ks.length * 3 ≤ cap * 3 := Nat.mul_le_mul_right _ h1
  have h6 : Sat (sortWorldK fK 3 w g off n js.toArray os) (own g (.cells (putCells id off (flatK fK 3 js.toArray) cur) 39 (0, 0)) :: l) := by
    refine h5.turn ?_ ?_
    · show ((w.heap.modify g (onCells (putCells id off (flatK fK 3 js.toArray)))) ++ os)[g]? = _
      rw [Array.getElem?_append_left (by simpa using hlt), Array.getElem?_modify, if_pos rfl, hg]
      rfl
    · intro k hk hkg
      show ((w.heap.modify g (onCells (putCells id off (flatK fK 3 js.toArray)))) ++ os)[k]? = _
      rw [Array.getElem?_append_left (by simpa using hk), Array.getElem?_modify, if_neg (Ne.symm hkg)]
  have hsz : (putCells id off (flatK fK 3 js.toArray) cur).size = cur.size := by simp [putCells]
  have h7 := h6.rowI (off := off) (size := 3) (n := ks.length) (cap := cap) h1 h2 (by rw [hsz]; exact h3)
  refine ⟨?_, rfl, rfl, rfl, ?_⟩
  · rw [← hl] at h7 ⊢
    refine h7.tOf js rfl ?_
    apply List.ext_getElem?
    intro j
    by_cases hj : j < js.length * 3
    · rw [drop_take_getElem? _ _ _ _ hj, flat_get js j hj, Array.getElem?_toList]
      unfold putCells
      have hoj : off + j < cur.size := by omega
      rw [Array.getElem?_mapIdx, Array.getElem?_eq_getElem hoj, Option.map_some, if_pos ⟨Nat.le_add_right _ _, by omega⟩, Nat.add_sub_cancel_left]
      rfl
    · rw [List.getElem?_eq_none (by rw [List.length_take]; omega), List.getElem?_eq_none (by
        have := len_flatK js
        omega)]
  · show w.heap.size ≤ ((w.heap.modify g _) ++ os).size
    simp

set_option maxHeartbeats 1000000 in
/-- The sort, at any length. -/
theorem kid_sort_any {w : World} {l : List HProp} {v : Value} {ks : List KidD} (hs : Sat w (rowT fK v 39 3 ks :: l)) (hn : ks.length ≤ 1000) :
    Calls Tryd.prog 58 #[v, .func (.func 59) #[] #[]] w fun e w' => e = .returned (.tuple #[]) ∧ Sat w' (rowT fK v 39 3 (isort klt ks) :: l) ∧ Kp w w' := by
  rcases hs.tForm with ⟨rfl, rfl⟩ | ⟨g, off, cap, rfl⟩
  · exact kid_sort hs (by simp)
  have eg : ∀ args w, (callFunc 59 args).run Tryd.prog w = .ok (.enter 59 args) w := enters_of Tryd.func59 (by kernel_rfl) rfl
  have h := AnyQ.slices_SortFunc_total sortKid 3 Tryd.isAgg39 Tryd.sizeOf39 fK len_fK (fun x v hv => by simp [fK] at hv; rcases hv with rfl | rfl | rfl <;> rfl) kord klt_swo 59 #[] g off cap ks.toArray w eg (kid_lays g off ks.toArray.size w) (holds_row hs) (Sat.rowBlock hs) (by simp; omega) klt_total
  have e1 : ks.toArray.size = ks.length := by simp
  rw [e1] at h
  change Calls Tryd.prog 58 _ _ _ at h
  refine h.mono ?_
  rintro e w' ⟨rfl, n, os, hw⟩
  rw [show ks.toArray.toList = ks from rfl, msort_isort] at hw
  have := sorted_row hs (isort_perm klt ks).length_eq hw
  exact ⟨rfl, this.1, this.2⟩

end Go.Proofs.YtbnipieokpeadaaDoor

import Derived.Shelf.SlSortCmp.NoneTotal
import Derived.Test.YtddglbjhhnipgaaGreatDoorProg
import Derived.Test.YtddglbjhhnipgaaGreatDoorGE
namespace Go.Proofs.YtddglbjhhnipgaaGreatDoor
open Go Go.Proofs Go.Shelf
open Go Go.RowKit Go.Sort
set_option linter.unusedVariables false
set_option linter.unusedSimpArgs false
set_option maxRecDepth 100000
set_option maxHeartbeats 8000000
set_option maxRecDepth 100000
def sortKid_ren : Go.Shelf.Ren := ⟨fun | 6 => 151 | 15 => 176 | 14 => 175 | 28 => 206 | 29 => 207 | 20 => 198 | 21 => 199 | 22 => 200 | 23 => 201 | 24 => 202 | 25 => 203 | 26 => 204 | 27 => 205 | 46 => 212 | 47 => 213 | 48 => 214 | 49 => 215 | 50 => 216 | 57 => 217 | n => n, fun | 22 => 26 | 24 => 73 | 25 => 130 | 3 => 3 | 39 => 226 | 0 => 0 | 53 => 298 | 55 => 256 | 4 => 4 | 46 => 291 | 45 => 290 | 50 => 295 | 5 => 5 | 9 => 9 | 66 => 302 | 70 => 173 | 76 => 307 | 77 => 308 | n => n, fun | n => n⟩
theorem sortKid : Go.Proofs.SlLaysF0.n6 Tryz.prog sortKid_ren where
 mixed := by kernel_rfl
 f6 := ⟨ "slices.SortFunc[[]holt/api.Kid,holt/api.Kid]", by decide, Tryz.func151.trans (congrArg some (by kernel_rfl))⟩
 f14 := ⟨ "slices.pdqsortCmpFunc[holt/api.Kid]", by decide, Tryz.func175.trans (congrArg some (by kernel_rfl))⟩
 f15 := Tryz.func176.trans (congrArg some (by kernel_rfl))
 f20 := ⟨ "slices.insertionSortCmpFunc[holt/api.Kid]", by decide, Tryz.func198.trans (congrArg some (by kernel_rfl))⟩
 f21 := ⟨ "slices.heapSortCmpFunc[holt/api.Kid]", by decide, Tryz.func199.trans (congrArg some (by kernel_rfl))⟩
 f22 := ⟨ "slices.breakPatternsCmpFunc[holt/api.Kid]", by decide, Tryz.func200.trans (congrArg some (by kernel_rfl))⟩
 f23 := ⟨ "slices.choosePivotCmpFunc[holt/api.Kid]", by decide, Tryz.func201.trans (congrArg some (by kernel_rfl))⟩
 f24 := ⟨ "slices.reverseRangeCmpFunc[holt/api.Kid]", by decide, Tryz.func202.trans (congrArg some (by kernel_rfl))⟩
 f25 := ⟨ "slices.partialInsertionSortCmpFunc[holt/api.Kid]", by decide, Tryz.func203.trans (congrArg some (by kernel_rfl))⟩
 f26 := ⟨ "slices.partitionEqualCmpFunc[holt/api.Kid]", by decide, Tryz.func204.trans (congrArg some (by kernel_rfl))⟩
 f27 := ⟨ "slices.partitionCmpFunc[holt/api.Kid]", by decide, Tryz.func205.trans (congrArg some (by kernel_rfl))⟩
 f28 := Tryz.func206.trans (congrArg some (by kernel_rfl))
 f29 := Tryz.func207.trans (congrArg some (by kernel_rfl))
 f46 := ⟨ "slices.siftDownCmpFunc[holt/api.Kid]", by decide, Tryz.func212.trans (congrArg some (by kernel_rfl))⟩
 f47 := Tryz.func213.trans (congrArg some (by kernel_rfl))
 f48 := Tryz.func214.trans (congrArg some (by kernel_rfl))
 f49 := ⟨ "slices.medianAdjacentCmpFunc[holt/api.Kid]", by decide, Tryz.func215.trans (congrArg some (by kernel_rfl))⟩
 f50 := ⟨ "slices.medianCmpFunc[holt/api.Kid]", by decide, Tryz.func216.trans (congrArg some (by kernel_rfl))⟩
 f57 := ⟨ "slices.order2CmpFunc[holt/api.Kid]", by decide, Tryz.func217.trans (congrArg some (by kernel_rfl))⟩
 t0 := Tryz.underlying0
 a0 := Tryz.isAgg0
 z0 := Tryz.sizeOf0
 v0 := Tryz.zeroValue0
 t3 := Tryz.underlying3
 a3 := Tryz.isAgg3
 z3 := Tryz.sizeOf3
 v3 := Tryz.zeroValue3
 t4 := Tryz.underlying4
 a4 := Tryz.isAgg4
 z4 := Tryz.sizeOf4
 v4 := Tryz.zeroValue4
 t5 := Tryz.underlying5
 a5 := Tryz.isAgg5
 z5 := Tryz.sizeOf5
 v5 := Tryz.zeroValue5
 t9 := Tryz.underlying9
 a9 := Tryz.isAgg9
 z9 := Tryz.sizeOf9
 v9 := Tryz.zeroValue9
 t22 := Tryz.underlying26
 a22 := Tryz.isAgg26
 z22 := Tryz.sizeOf26
 v22 := Tryz.zeroValue26
 t25 := Tryz.underlying130
 a25 := Tryz.isAgg130
 z25 := Tryz.sizeOf130
 v25 := Tryz.zeroValue130
 t39 := Tryz.underlying226
 a39 := Tryz.isAgg226
 z39 := Tryz.sizeOf226
 v39 := Tryz.zeroValue226
 t45 := Tryz.underlying290
 a45 := Tryz.isAgg290
 z45 := Tryz.sizeOf290
 v45 := Tryz.zeroValue290
 t46 := Tryz.underlying291
 a46 := Tryz.isAgg291
 z46 := Tryz.sizeOf291
 v46 := Tryz.zeroValue291
 t50 := Tryz.underlying295
 a50 := Tryz.isAgg295
 z50 := Tryz.sizeOf295
 v50 := Tryz.zeroValue295
 t53 := Tryz.underlying298
 a53 := Tryz.isAgg298
 z53 := Tryz.sizeOf298
 v53 := Tryz.zeroValue298
 t55 := Tryz.underlying256
 a55 := Tryz.isAgg256
 z55 := Tryz.sizeOf256
 v55 := Tryz.zeroValue256
 t66 := Tryz.underlying302
 a66 := Tryz.isAgg302
 z66 := Tryz.sizeOf302
 v66 := Tryz.zeroValue302
 t70 := Tryz.underlying173
 a70 := Tryz.isAgg173
 z70 := Tryz.sizeOf173
 v70 := Tryz.zeroValue173
 t76 := Tryz.underlying307
 a76 := Tryz.isAgg307
 z76 := Tryz.sizeOf307
 v76 := Tryz.zeroValue307
 t77 := Tryz.underlying308
 a77 := Tryz.isAgg308
 z77 := Tryz.sizeOf308
 v77 := Tryz.zeroValue308
instance : Inhabited KidD := ⟨⟨0, ⟨#[]⟩, 0⟩⟩
theorem grow_three (w : World) (a b c : Obj) : (((w.alloc a).alloc b).drewN 1).alloc c = grow (w.drewN 1) #[a, b, c] := by
 rw [alloc_eq_grow, alloc_eq_grow, alloc_eq_grow]
 show grow (grow (grow (w.drewN 1) #[a]) #[b]) #[c] = _
 rw [grow_grow, grow_grow]
 rfl
theorem klt_is : ltOf kord = klt := rfl
theorem klt_swo : SWO (ltOf kord) where
 irrefl := strict_klt.irr
 trans := strict_klt.trans
 ntrans x y z h1 h2 := by
   rw [klt_is] at *
   cases h : klt x z with
   | false => rfl
   | true =>
     rcases strict_klt.tri x y with e | e | e
     · rw [h1] at e; cases e
     · subst e; rw [h2] at h; cases h
     · have := strict_klt.trans y x z e h
       rw [h2] at this
       cases this
theorem klt_total (x y : KidD) (h1 : (ltOf kord) x y = false) (h2 : (ltOf kord) y x = false) : x = y := by
 rw [klt_is] at *
 rcases strict_klt.tri x y with e | e | e
 · rw [h1] at e; cases e
 · exact e
 · rw [h2] at e; cases e
theorem msort_isort (l : List KidD) : (l.mergeSort fun x y => !(ltOf kord) y x) = isort klt l := by
 rw [klt_is]
 have hp : (l.mergeSort fun x y => !klt y x).Perm l := List.mergeSort_perm ..
 have hs : (l.mergeSort fun x y => !klt y x).Pairwise fun a b => (!klt b a) = true := by
   apply List.pairwise_mergeSort
   · intro a b c h1 h2
     have := klt_swo.ntrans c b a (by rw [klt_is]; simpa using h2) (by rw [klt_is]; simpa using h1)
     rw [klt_is] at this
     simp [this]
   · intro a b
     cases h : klt b a with
     | false => simp
     | true => simp [strict_klt.asymm h]
 have h1 : SortedR klt (l.mergeSort fun x y => !klt y x).reverse := by
   unfold SortedR
   rw [List.pairwise_reverse]
   exact hs.imp fun h => by simpa using h
 have h2 := sorted_unique strict_klt h1 (isortR_sorted strict_klt l) ((List.reverse_perm _).trans (hp.trans (by
   have := isort_perm klt l
   unfold isort at this
   exact ((List.reverse_perm _).symm.trans this).symm)))
 unfold isort
 rw [← h2, List.reverse_reverse]
theorem len_flatK : ∀ ks : List KidD, (ks.flatMap fK).length = ks.length * 3
 | [] => by simp
 | k :: ks => by rw [List.flatMap_cons, List.length_append, len_flatK ks, len_fK, List.length_cons, Nat.add_mul]; omega
theorem flat_get (ks : List KidD) (j : Nat) (hj : j < ks.length * 3) : (ks.flatMap fK)[j]? = some (flatK fK 3 ks.toArray)[j]! := by
 have hi : j / 3 < ks.length := by omega
 have hr : j % 3 < 3 := by omega
 have h1 := get_flat len_fK ks (j / 3) (j % 3) ks[j / 3] (List.getElem?_eq_getElem hi) (by omega)
 rw [show j / 3 * 3 + j % 3 = j by omega] at h1
 rw [h1, get_flatK _ _ _ _ (by simpa using hj)]
 have h2 : ks.toArray[j / 3]! = ks[j / 3] := by
   rw [getElem!_pos _ _ (by simpa using hi)]
   simp
 rw [h2]
 have h3 : j % 3 < (fK ks[j / 3]).length := by rw [len_fK]; exact hr
 rw [List.getElem?_eq_getElem h3]
 exact congrArg some (getElem!_pos (fK ks[j / 3]) (j % 3) h3).symm
theorem holds_row {w : World} {l : List HProp} {g off cap : Nat} {ks : List KidD} (hs : Sat w (rowT fK (.slice (some ⟨g, off, none⟩) ks.length cap) 73 3 ks :: l)) : HoldsK fK 3 w g off ks.toArray := by
 intro j hj
 have hj' : j < ks.length * 3 := by simpa using hj
 refine ⟨?_, ?_⟩
 · rw [Sat.rowCell hs j hj', flat_get ks j hj']
   rfl
 · exact Sat.rowFree hs (off + j)
theorem sorted_row {w w' : World} {l : List HProp} {g off cap n : Nat} {ks js : List KidD} {os : Array Obj} (hs : Sat w (rowT fK (.slice (some ⟨g, off, none⟩) ks.length cap) 73 3 ks :: l)) (hl : js.length = ks.length)
   (hw : w' = sortWorldK fK 3 w g off n js.toArray os) : Sat w' (rowT fK (.slice (some ⟨g, off, none⟩) ks.length cap) 73 3 js :: l) ∧ Kp w w' := by
 subst hw
 rcases (Sat.rowE hs).2 with ⟨h, _⟩ | ⟨g', off', cap', cur, h, h1, h2, h3, h4, h5⟩
 · simp at h
 simp only [Value.slice.injEq, Option.some.injEq, Addr.mk.injEq, and_true, true_and] at h
 obtain ⟨⟨rfl, rfl⟩, rfl⟩ := h
 have hg := h5.get
 have hlt := h5.lt
 have hF : (flatK fK 3 js.toArray).size = ks.length * 3 := by simp [hl]
 have hcap : ks.length * 3 ≤ cap * 3 := Nat.mul_le_mul_right _ h1
 have h6 : Sat (sortWorldK fK 3 w g off n js.toArray os) (own g (.cells (putCells id off (flatK fK 3 js.toArray) cur) 73 (0, 0)) :: l) := by
   refine h5.turn ?_ ?_
   · show ((w.heap.modify g (onCells (putCells id off (flatK fK 3 js.toArray)))) ++ os)[g]? = _
     rw [Array.getElem?_append_left (by simpa using hlt), Array.getElem?_modify, if_pos rfl, hg]
     rfl
   · intro k hk hkg
     show ((w.heap.modify g (onCells (putCells id off (flatK fK 3 js.toArray)))) ++ os)[k]? = _
     rw [Array.getElem?_append_left (by simpa using hk), Array.getElem?_modify, if_neg (Ne.symm hkg)]
 have hsz : (putCells id off (flatK fK 3 js.toArray) cur).size = cur.size := by simp [putCells]
 have h7 := h6.rowI (off := off) (size := 3) (n := ks.length) (cap := cap) h1 h2 (by rw [hsz]; exact h3)
 refine ⟨?_, rfl, rfl, rfl, ?_⟩
 · rw [← hl] at h7 ⊢
   refine h7.tOf js rfl ?_
   apply List.ext_getElem?
   intro j
   by_cases hj : j < js.length * 3
   · rw [drop_take_getElem? _ _ _ _ hj, flat_get js j hj, Array.getElem?_toList]
     unfold putCells
     have hoj : off + j < cur.size := by omega
     rw [Array.getElem?_mapIdx, Array.getElem?_eq_getElem hoj, Option.map_some, if_pos ⟨Nat.le_add_right _ _, by omega⟩, Nat.add_sub_cancel_left]
     rfl
   · rw [List.getElem?_eq_none (by rw [List.length_take]; omega), List.getElem?_eq_none (by
       have := len_flatK js
       omega)]
 · show w.heap.size ≤ ((w.heap.modify g _) ++ os).size
   simp
end Go.Proofs.YtddglbjhhnipgaaGreatDoor

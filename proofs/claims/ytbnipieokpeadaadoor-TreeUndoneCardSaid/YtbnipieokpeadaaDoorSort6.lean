import Derived.Test.YtbnipieokpeadaaDoorSort5
namespace Go.Proofs.YtbnipieokpeadaaDoor
open Go Go.RowKit Go.Sort
set_option linter.unusedVariables false
set_option linter.unusedSimpArgs false

theorem len_flatK : ∀ ks : List KidD, (ks.flatMap fK).length = ks.length * 3
  | [] => by simp
  | k :: ks => by rw [List.flatMap_cons, List.length_append, len_flatK ks, len_fK, List.length_cons, Nat.add_mul]; omega
theorem flat_get (ks : List KidD) (j : Nat) (hj : j < ks.length * 3) : (ks.flatMap fK)[j]? = some (flatK fK 3 ks.toArray)[j]! := by
  have hi : j / 3 < ks.length := by omega
  have hr : j % 3 < 3 := by omega
  have h1 := get_flat len_fK ks (j / 3) (j % 3) ks[j / 3] (List.getElem?_eq_getElem hi) (by omega)
  rw [show j / 3 * 3 + j % 3 = j by omega] at h1
  rw [h1, get_flatK _ _ _ _ (by simpa using hj)]
  have h2 : ks.toArray[j / 3]! = ks[j / 3] := by
    rw [getElem!_pos _ _ (by simpa using hi)]
    simp
  rw [h2]
  have h3 : j % 3 < (fK ks[j / 3]).length := by rw [len_fK]; exact hr
  rw [List.getElem?_eq_getElem h3]
  exact congrArg some (getElem!_pos (fK ks[j / 3]) (j % 3) h3).symm

theorem holds_row {w : World} {l : List HProp} {g off cap : Nat} {ks : List KidD} (hs : Sat w (rowT fK (.slice (some ⟨g, off, none⟩) ks.length cap) 39 3 ks :: l)) : HoldsK fK 3 w g off ks.toArray := by
  intro j hj
  have hj' : j < ks.length * 3 := by simpa using hj
  refine ⟨?_, ?_⟩
  · rw [Sat.rowCell hs j hj', flat_get ks j hj']
    rfl
  · exact Sat.rowFree hs (off + j)

theorem sorted_row {w w' : World} {l : List HProp} {g off cap n : Nat} {ks js : List KidD} {os : Array Obj} (hs : Sat w (rowT fK (.slice (some ⟨g, off, none⟩) ks.length cap) 39 3 ks :: l)) (hl : js.length = ks.length)
    (hw : w' = sortWorldK fK 3 w g off n js.toArray os) : Sat w' (rowT fK (.slice (some ⟨g, off, none⟩) ks.length cap) 39 3 js :: l) ∧ Kp w w' := by
  subst hw
  rcases (Sat.rowE hs).2 with ⟨h, _⟩ | ⟨g', off', cap', cur, h, h1, h2, h3, h4, h5⟩
  · simp at h
  simp only [Value.slice.injEq, Option.some.injEq, Addr.mk.injEq, and_true, true_and] at h
  obtain ⟨⟨rfl, rfl⟩, rfl⟩ := h
  have hg := h5.get
  have hlt := h5.lt
  have hF : (flatK fK 3 js.toArray).size = ks.length * 3 := by simp [hl]
  have hcap : ks.length * 3 ≤ cap * 3 := Nat.mul_le_mul_right _ h1
  have h6 : Sat (sortWorldK fK 3 w g off n js.toArray os) (own g (.cells (putCells id off (flatK fK 3 js.toArray) cur) 39 (0, 0)) :: l) := by
    refine h5.turn ?_ ?_
    · show ((w.heap.modify g (onCells (putCells id off (flatK fK 3 js.toArray)))) ++ os)[g]? = _
      rw [Array.getElem?_append_left (by simpa using hlt), Array.getElem?_modify, if_pos rfl, hg]
      rfl
    · intro k hk hkg
      show ((w.heap.modify g (onCells (putCells id off (flatK fK 3 js.toArray)))) ++ os)[k]? = _
      rw [Array.getElem?_append_left (by simpa using hk), Array.getElem?_modify, if_neg (Ne.symm hkg)]
  have hsz : (putCells id off (flatK fK 3 js.toArray) cur).size = cur.size := by simp [putCells]
  have h7 := h6.rowI (off := off) (size := 3) (n := ks.length) (cap := cap) h1 h2 (by rw [hsz]; exact h3)
  refine ⟨?_, rfl, rfl, rfl, ?_⟩
  · rw [← hl] at h7 ⊢
    refine h7.tOf js rfl ?_
    apply List.ext_getElem?
    intro j
    by_cases hj : j < js.length * 3
    · rw [drop_take_getElem? _ _ _ _ hj, flat_get js j hj, Array.getElem?_toList]
      unfold putCells
      have hoj : off + j < cur.size := by omega
      rw [Array.getElem?_mapIdx, Array.getElem?_eq_getElem hoj, Option.map_some, if_pos ⟨Nat.le_add_right _ _, by omega⟩, Nat.add_sub_cancel_left]
      rfl
    · rw [List.getElem?_eq_none (by rw [List.length_take]; omega), List.getElem?_eq_none (by
        have := len_flatK js
        omega)]
  · show w.heap.size ≤ ((w.heap.modify g _) ++ os).size
    simp

set_option maxHeartbeats 1000000 in
/-- The sort, at any length. -/
theorem kid_sort_any {w : World} {l : List HProp} {v : Value} {ks : List KidD} (hs : Sat w (rowT fK v 39 3 ks :: l)) (hn : ks.length ≤ 1000) :
    Calls Tryd.prog 58 #[v, .func (.func 59) #[] #[]] w fun e w' => e = .returned (.tuple #[]) ∧ Sat w' (rowT fK v 39 3 (isort klt ks) :: l) ∧ Kp w w' := by
  rcases hs.tForm with ⟨rfl, rfl⟩ | ⟨g, off, cap, rfl⟩
  · exact kid_sort hs (by simp)
  have eg : ∀ args w, (callFunc 59 args).run Tryd.prog w = .ok (.enter 59 args) w := enters_of Tryd.func59 (by kernel_rfl) rfl
  have h := AnyQ.slices_SortFunc_total sortKid 3 Tryd.isAgg39 Tryd.sizeOf39 fK len_fK (fun x v hv => by simp [fK] at hv; rcases hv with rfl | rfl | rfl <;> rfl) kord klt_swo 59 #[] g off cap ks.toArray w eg (kid_lays g off ks.toArray.size w) (holds_row hs) (Sat.rowBlock hs) (by simp; omega) klt_total
  have e1 : ks.toArray.size = ks.length := by simp
  rw [e1] at h
  change Calls Tryd.prog 58 _ _ _ at h
  refine h.mono ?_
  rintro e w' ⟨rfl, n, os, hw⟩
  rw [show ks.toArray.toList = ks from rfl, msort_isort] at hw
  have := sorted_row hs (isort_perm klt ks).length_eq hw
  exact ⟨rfl, this.1, this.2⟩

end Go.Proofs.YtbnipieokpeadaaDoor

import Derived.Shelf.Unicode.ValidAny
import Derived.Lib.LaidU8T
import Derived.MakeChecks
import Derived.Test.YtbnipieokpeadaaDoorLaw
namespace Go.Proofs.YtbnipieokpeadaaDoor
open Go Go.Proofs Go.Shelf Go.RowKit
set_option maxRecDepth 100000
set_option linter.unusedVariables false

def validS_ren : Go.Shelf.Ren := ⟨fun | 196 => 66 | 259 => 75 | n => n, fun | 9 => 9 | 4 => 4 | 3 => 3 | 5 => 5 | 12 => 12 | 119 => 104 | 0 => 0 | 46 => 96 | 139 => 107 | 138 => 106 | 53 => 119 | n => n, fun | 3 => 0 | 4 => 1 | n => n⟩
theorem validS : Go.Proofs.Lays.n196 Tryd.prog validS_ren where
  mixed := by kernel_rfl
  f196 := Tryd.func66.trans (congrArg some (by kernel_rfl))
  f259 := Tryd.func75.trans (congrArg some (by kernel_rfl))
  t0 := Tryd.underlying0
  a0 := Tryd.isAgg0
  z0 := Tryd.sizeOf0
  v0 := Tryd.zeroValue0
  t3 := Tryd.underlying3
  a3 := Tryd.isAgg3
  z3 := Tryd.sizeOf3
  v3 := Tryd.zeroValue3
  t4 := Tryd.underlying4
  a4 := Tryd.isAgg4
  z4 := Tryd.sizeOf4
  v4 := Tryd.zeroValue4
  t5 := Tryd.underlying5
  a5 := Tryd.isAgg5
  z5 := Tryd.sizeOf5
  v5 := Tryd.zeroValue5
  t9 := Tryd.underlying9
  a9 := Tryd.isAgg9
  z9 := Tryd.sizeOf9
  v9 := Tryd.zeroValue9
  t12 := Tryd.underlying12
  a12 := Tryd.isAgg12
  z12 := Tryd.sizeOf12
  v12 := Tryd.zeroValue12
  t46 := Tryd.underlying96
  a46 := Tryd.isAgg96
  z46 := Tryd.sizeOf96
  v46 := Tryd.zeroValue96
  t53 := Tryd.underlying119
  a53 := Tryd.isAgg119
  z53 := Tryd.sizeOf119
  v53 := Tryd.zeroValue119
  t119 := Tryd.underlying104
  a119 := Tryd.isAgg104
  z119 := Tryd.sizeOf104
  t138 := Tryd.underlying106
  a138 := Tryd.isAgg106
  z138 := Tryd.sizeOf106
  v138 := Tryd.zeroValue106
  t139 := Tryd.underlying107
  a139 := Tryd.isAgg107
  z139 := Tryd.sizeOf107
  v139 := Tryd.zeroValue107
  g3 := by kernel_rfl
  g4 := by kernel_rfl

theorem u8extra : U8Extra Tryd.prog validS_ren where
  n3 := by kernel_rfl
  n4 := by kernel_rfl
  y3 := by kernel_rfl
  y4 := by kernel_rfl
  c5 := by kernel_rfl
  c119 := by kernel_rfl
  c138 := by kernel_rfl
theorem accept_same : Lib.acceptData = Rows.laid_unicode_utf8_acceptRanges := by kernel_rfl
theorem first_same : Lib.firstData = Rows.laid_unicode_utf8_first := by kernel_rfl
theorem laid_plain {W : World} (h : laidMetH Tryd.prog [("unicode/utf8.acceptRanges", Rows.laid_unicode_utf8_acceptRanges), ("unicode/utf8.first", Rows.laid_unicode_utf8_first)] W) : laidMet Tryd.prog [("unicode/utf8.acceptRanges", Rows.laid_unicode_utf8_acceptRanges), ("unicode/utf8.first", Rows.laid_unicode_utf8_first)] W := by
  rwa [MakeChecks.laidMetH_plain _ _ _ (by kernel_rfl)] at h
/-- The two tables of unicode/utf8. -/
theorem u8tabs {W : World} (h : laidMetH Tryd.prog [("unicode/utf8.acceptRanges", Rows.laid_unicode_utf8_acceptRanges), ("unicode/utf8.first", Rows.laid_unicode_utf8_first)] W) : Lib.Utf8Tabs (validS_ren.g 3) (validS_ren.g 4) W := by
  have h2 := laid_plain h
  refine utf8Tabs_of_readsT (U8Types.of196 validS) u8extra ?_ ?_
  · rw [first_same]
    exact Lib.laidMet.reads h2 (by simp)
  · rw [accept_same]
    exact Lib.laidMet.reads h2 (by simp)

theorem tabs_old {W w : World} {l : List HProp} {a b : Nat} (h : Lib.Utf8Tabs a b W) (hs : Sat w (oldH W :: l)) : Lib.Utf8Tabs a b w :=
  ⟨fun c hc => hs.oldCell (h.1 c hc), fun i hi => ⟨hs.oldCell (h.2 i hi).1, hs.oldCell (h.2 i hi).2⟩⟩

theorem valid_string {W w : World} {l : List HProp} (hT : Lib.Utf8Tabs (validS_ren.g 3) (validS_ren.g 4) W) (hs : Sat w (oldH W :: l)) (s : ByteArray) (hz : s.size ≤ 1000) :
    Calls Tryd.prog 66 #[.string s] w fun e w' => e = .returned (.bool (Lib.validD s.data.toList)) ∧ Sat w' (oldH W :: l) ∧ Kp w w' := by
  have h := Any.utf8_ValidString validS s w (by omega) (tabs_old hT hs)
  change Calls Tryd.prog 66 _ _ _ at h
  refine h.mono ?_
  rintro e w' ⟨rfl, hb⟩
  have := hs.belowed hb
  exact ⟨rfl, this.1, this.2⟩

end Go.Proofs.YtbnipieokpeadaaDoor

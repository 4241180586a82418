import Derived.Test.YtbnipieokpeadaaDoorOp
import Derived.Test.YtbnipieokpeadaaDoorKids
import Derived.Lib.Strings
import Derived.Lib.Slices
import Derived.Lib.Walk
import Derived.Lib.Bytealg
import Derived.LoopN
namespace Go.Proofs.YtbnipieokpeadaaDoor
open Go Go.RowKit
set_option linter.unusedVariables false
set_option linter.unusedSimpArgs false

def fSt (s : ByteArray) : List Value := [.string s]
def slash : ByteArray := ⟨#[47]⟩

set_option maxHeartbeats 1000000 in
set_option maxRecDepth 100000 in
theorem count_slash {w : World} (s : ByteArray) : Calls Tryd.prog 89 #[.string s, .string ⟨#[47]⟩] w fun e w' => e = .returned (.int .i64 (Lib.countByte s.data.toList 47)) ∧ w = w' := by
  go_enter Tryd.func89, Tryd.ntmps89
  go_wp2
  rw [run_callFunc_extern Tryd.func98 (by kernel_rfl) (by kernel_rfl) (by kernel_rfl) (e := Extern.BytealgCount.count) (by kernel_rfl), Lib.run_countString]
  simp only [Result.andThen]
  rw [Oper.upon_value]
  go_wp2
  go_ret
  exact ⟨rfl, rfl⟩

set_option maxHeartbeats 1000000 in
set_option maxRecDepth 100000 in
theorem prefix_slash {w : World} : Calls Tryd.prog 60 #[.string ⟨#[47, 97, 47, 98]⟩, .string ⟨#[47]⟩] w fun e w' => e = .returned (.bool true) ∧ w = w' := by
  have hx : (((⟨#[47, 97, 47, 98]⟩ : ByteArray).extract 0 1).toList == [47]) = true := by decide +kernel
  go_enter Tryd.func60, Tryd.ntmps60
  go_wp2
  go_ret
  exact ⟨rfl, rfl⟩

set_option maxHeartbeats 1000000 in
set_option maxRecDepth 100000 in
theorem index_byte {w : World} (s : ByteArray) (c : Int) : Calls Tryd.prog 102 #[.string s, .int .u8 c] w fun e w' => e = .returned (.int .i64 (Lib.indexByte s.data.toList c.toNat.toUInt8)) ∧ w = w' := by
  go_enter Tryd.func102, Tryd.ntmps102
  go_wp2
  rw [run_callFunc_extern Tryd.func106 (by kernel_rfl) (by kernel_rfl) (by kernel_rfl) (e := Extern.BytealgIndexByte.indexByte) (by kernel_rfl), Lib.run_indexByteString]
  simp only [Result.andThen]
  rw [Oper.upon_value]
  go_wp2
  go_ret
  exact ⟨rfl, rfl⟩

set_option maxHeartbeats 1000000 in
set_option maxRecDepth 100000 in
theorem index_slash {w : World} : Calls Tryd.prog 90 #[.string ⟨#[97, 47, 98]⟩, .string ⟨#[47]⟩] w fun e w' => e = .returned (.int .i64 1) ∧ w = w' := by
  have hx : (([47] : List UInt8) == (⟨#[97, 47, 98]⟩ : ByteArray).toList) = false := by decide +kernel
  go_enter Tryd.func90, Tryd.ntmps90
  go_wp2_with (first | (go_at_call 102; refine (index_byte _ _).mono ?_; rintro e w1 ⟨rfl, rfl⟩) | go_in)
  go_ret
  exact ⟨by kernel_rfl, rfl⟩

theorem Tryd.infoStr : (Tryd.prog.info? 9).map (fun i => (i.zero, i.size, i.bytes)) = some (some (.string ⟨#[]⟩), 1, 16) := by kernel_rfl

set_option maxHeartbeats 2000000 in
set_option maxRecDepth 100000 in
theorem split_gen {w : World} {l : List HProp} (hs : Sat w l) : Calls Tryd.prog 73 #[.string ⟨#[97, 47, 98]⟩, .string ⟨#[47]⟩, .int .i64 0, .int .i64 (-1)] w fun e w' => ∃ v, e = .returned v ∧ Sat w' (rowT fSt v 9 1 [letter 0, letter 1] :: l) ∧ Kp w w' := by
  obtain ⟨i0, hi, hz0, hz1, hz2⟩ := info_parts Tryd.infoStr
  have hmk1 := fun W => run_make_rowN (P := Tryd.prog) 75 9 i0 (.string ⟨#[]⟩) Tryd.underlying75 hi hz0 .i64 .i64 2 2 (Nat.le_refl _) (by rw [hz2]; omega) (by omega) W
  rw [hz1] at hmk1
  have hmk2 : ∀ W : World, (Instr.makeSlice 75 (.int .i64 2) (.int .i64 2)).run Tryd.prog W = .ok (.slice (some ⟨W.heap.size, 0, none⟩) 2 2) (W.alloc (.cells #[.string ⟨#[]⟩, .string ⟨#[]⟩] 9)) := fun W => by
    have e : madeCells (Value.string ⟨#[]⟩).cells (2 * 1) = #[.string ⟨#[]⟩, .string ⟨#[]⟩] := by first | rfl | kernel_rfl | simp [madeCells, Value.cells]
    have := hmk1 W
    rw [e] at this
    exact this
  clear hmk1
  have hmin : min (2 : Int) 4 = 2 := by decide
  have hc : Lib.countByte (⟨#[97, 47, 98]⟩ : ByteArray).data.toList 47 = 1 := by decide +kernel
  have hx0 : (⟨#[97, 47, 98]⟩ : ByteArray).extract 0 1 = ⟨#[97]⟩ := by decide +kernel
  have hx1 : (⟨#[97, 47, 98]⟩ : ByteArray).extract 2 3 = ⟨#[98]⟩ := by decide +kernel
  have hA := hs.alloc (.cells #[.string ⟨#[]⟩, .string ⟨#[]⟩] 9)
  have kA := (Kp.refl w).alloc (.cells #[.string ⟨#[]⟩, .string ⟨#[]⟩] 9)
  go_enter Tryd.func73, Tryd.ntmps73
  go_wp2_with fail
  refine (count_slash _).mono ?_
  rintro e w1 ⟨rfl, rfl⟩
  rw [hc]
  go_wp2_with fail
  generalize World.alloc _ _ = w1 at hA kA ⊢
  generalize w.heap.size = g at hA ⊢
  have a0 := hA.cell 0
  have a1 := hA.cell 1
  have f0 := hA.free 0
  have f1 := hA.free 1
  simp at a0 a1
  refine wp_loop_rounds 2 ?_
  rw [rounds_succ]
  go_wp2_with fail
  refine index_slash.mono ?_
  rintro e w2 ⟨rfl, rfl⟩
  go_wp2_with fail
  rw [rounds_succ]
  go_wp2_with fail
  go_ret
  have h9 := (((hA.set 0 (.string ⟨#[97]⟩)).set 1 (.string ⟨#[98]⟩)).rowI (n := 2) (off := 0) (cap := 2) (size := 1) (by omega) (by unfold maxLen; omega) (by decide)).tOf (f := fSt) [letter 0, letter 1] rfl rfl
  exact ⟨_, rfl, h9, (kA.setCell _ _).setCell _ _⟩

end Go.Proofs.YtbnipieokpeadaaDoor

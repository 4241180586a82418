import Derived.Test.YtkcgbenhnhbhhaaEpoch6
import Derived.Test.YtkcgbenhnhbhhaaEpoch7
namespace Go.Proofs.Ytkcgbenhnhbhhaa
open Go Go.RowKit
set_option linter.unusedVariables false
set_option linter.unusedSimpArgs false

theorem readIn_row {α : Type} {l : List HProp} {f : α → List Value} {ao : Option Addr} {n cap : Nat} {e : TypeId} {size : Nat} {xs : List α} : ReadIn (rowT f (.slice ao n cap) e size xs :: l) f ao n cap xs := by
  intro w hs
  obtain ⟨ao', cap', he, ha⟩ := hs.argRow
  simp only [Value.slice.injEq] at he
  obtain ⟨rfl, rfl, rfl⟩ := he
  exact ha
theorem readIn_tail {α : Type} {A : HProp} {l : List HProp} {f : α → List Value} {ao : Option Addr} {n cap : Nat} {xs : List α} (h : ReadIn l f ao n cap xs) : ReadIn (A :: l) f ao n cap xs := fun w hs => h w hs.tail
theorem readIn_old {α : Type} {W : World} {f : α → List Value} {ao : Option Addr} {n cap : Nat} {xs : List α} {l : List HProp} (h : ArgRow W f ao n cap xs) : ReadIn (oldH W :: l) f ao n cap xs := fun w hs => h.old hs

theorem Sat.litH {w : World} {l : List HProp} {B : Nat} (a g : Int) (hs : Sat w (own B (.cells #[.int .i64 a, .int .i64 g] 70) :: l)) :
    Sat w (rowT fH (.slice (some ⟨B, 0, none⟩) 1 1) 70 2 [⟨a, g⟩] :: l) :=
  hs.rowI (off := 0) (size := 2) (n := 1) (cap := 1) (by omega) (by unfold maxLen; omega) (by simp)

set_option maxRecDepth 100000 in
set_option maxHeartbeats 1000000 in
theorem epoch_awake {w : World} {l : List HProp} (hs : Sat w l) :
    Calls Try.prog 35 #[] w fun e w' => e = .returned (.bool true) ∧ Sat w' l ∧ Kp w w' := by
  go_enter Try.func35, Try.ntmps35
  go_wp2_with fail
  refine (limbo_new w l hs).mono ?_
  rintro e w1 ⟨b, rfl, h1, k1⟩
  have h2 := ((h1.alloc (.cells #[.int .i64 3, .int .i64 4] 70)).litH).swap
  have k2 := k1.alloc (.cells #[.int .i64 3, .int .i64 4] 70)
  go_wp2_with fail
  generalize hW : w1.alloc _ = w2 at h2 k2 ⊢
  clear hW
  generalize w1.heap.size = B at h2 ⊢
  refine (limbo_retire h2 readIn_row (by omega) (by simp)).mono ?_
  rintro e w3 ⟨rfl, h3, k3⟩
  go_wp2_with fail
  refine (limbo_advance h3 (by omega) (by omega)).mono ?_
  rintro e w4 ⟨rfl, h4, k4⟩
  go_wp2_with fail
  refine (limbo_advance h4 (by omega) (by omega)).mono ?_
  rintro e w5 ⟨rfl, h5, k5⟩
  go_wp2_with fail
  refine (limbo_free (least := 0) h5 (by omega) (by omega) (by simp)).mono ?_
  rintro e w6 ⟨v6, rfl, h6, k6⟩
  go_wp2_with fail
  have h6' := h6.pull 1
  simp [may] at h6'
  refine (limbo_free (least := 1) h6' (by omega) (by omega) (by simp)).mono ?_
  rintro e w7 ⟨v7, rfl, h7, k7⟩
  simp [may, WaitD.h] at h7
  obtain ⟨a6, c6, rfl⟩ := (h7.pull 2).tLen
  obtain ⟨a7, c7, e7, g7⟩ := h7.argRow
  subst e7
  obtain ⟨a8, c8, e8, g8⟩ := (h7.pull 3).argRow
  simp only [Value.slice.injEq, true_and] at e8
  obtain ⟨rfl, -, rfl⟩ := e8
  have kA := ((((k2.trans k3).trans k4).trans k5).trans k6).trans k7
  go_wp2_with fail
  refine (handles_same g7 g8 rfl).mono ?_
  rintro e w8 ⟨rfl, q8, rfl⟩
  go_wp2_with fail
  refine (limbo_waiting ((h7.drewN q8).pull 1) (by simp)).mono ?_
  rintro e w9 ⟨v9, rfl, h9, k9⟩
  obtain ⟨a9, c9, rfl⟩ := h9.tLen
  go_wp2_with fail
  refine (limbo_now (h9.pull 1)).mono ?_
  rintro e w10 ⟨rfl, rfl⟩
  have hI := h9.alloc (.cells #[.int .i64 0, .int .i64 5, .int .i64 3] 3)
  have hI2 : Sat _ (rowT fI (.slice (some ⟨w9.heap.size, 0, none⟩) 3 3) 3 1 [0, 5, 3] :: _) := hI.rowI (off := 0) (size := 1) (n := 3) (cap := 3) (by omega) (by unfold maxLen; omega) (by simp)
  obtain ⟨a11, c11, e11, g11⟩ := hI2.argRow
  simp only [Value.slice.injEq, true_and] at e11
  obtain ⟨rfl, -, rfl⟩ := e11
  have kB := ((kA.drewN q8).trans k9).alloc (.cells #[.int .i64 0, .int .i64 5, .int .i64 3] 3)
  go_wp2_with fail
  refine (epoch_least hI g11 (by simp)).mono ?_
  rintro e w11 ⟨rfl, rfl⟩
  have hle : leastOf [0, 5, 3] = 2 := by decide
  go_wp2_with fail
  go_ret
  exact ⟨rfl, hI.tail.tail.tail.tail.tail.tail, kB⟩

end Go.Proofs.Ytkcgbenhnhbhhaa

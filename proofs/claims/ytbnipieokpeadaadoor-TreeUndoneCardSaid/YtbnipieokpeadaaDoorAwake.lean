import Derived.Test.YtbnipieokpeadaaDoorFind
namespace Go.Proofs.YtbnipieokpeadaaDoor
open Go Go.RowKit
set_option linter.unusedVariables false
set_option linter.unusedSimpArgs false

def fe : Int → Option Loc := fun _ => none
def f1 : Int → Option Loc := upd fe 256 (some ⟨0, letter 0⟩)
def f2 : Int → Option Loc := upd f1 257 (some ⟨256, letter 1⟩)
theorem f1_at : f1 256 = some ⟨0, letter 0⟩ := upd_same _ _ _
theorem f2_b : f2 257 = some ⟨256, letter 1⟩ := upd_same _ _ _
theorem f2_a : f2 256 = some ⟨0, letter 0⟩ := by unfold f2; rw [upd_other (by decide)]; exact f1_at
theorem f1_0 : f1 0 = none := by unfold f1; rw [upd_other (by decide)]; rfl
theorem f2_0 : f2 0 = none := by unfold f2; rw [upd_other (by decide)]; exact f1_0
theorem not1 : ¬ Anc fe 256 0 := Anc.stops rfl (by decide)
theorem not2 : ¬ Anc f1 257 256 := by
  rw [Anc.step f1_at (by decide)]
  exact Anc.stops f1_0 (by decide)
theorem is3 : Anc f2 256 257 := .up f2_b .here
theorem ac1 : Acyc f1 := acyc_empty.put not1
theorem ac2 : Acyc f2 := ac1.put not2
theorem few1 : Few f1 := few_empty.put (by decide) (by decide)
theorem few2 : Few f2 := few1.put (by decide) (by decide)

set_option maxRecDepth 100000 in
set_option maxHeartbeats 2000000 in
theorem tree_awake {w : World} {l : List HProp} (hs : Sat w l) : Calls Tryd.prog 11 #[] w fun e w' => e = .returned (.bool true) ∧ Sat w' l ∧ Kp w w' := by
  have A1 : ∀ (w : World) (t : Nat) (l : List HProp), Sat w (treeP t fe [] :: l) → Calls Tryd.prog 15 #[.pointer (some ⟨t, 0, none⟩), .agg #[.int .i64 1, .int .i64 0, .int .i64 256, .int .i64 0, .string ⟨#[97]⟩]] w fun e w' => ∃ ds, ds.length = 1 ∧ e = .returned (.bool true) ∧ Sat w' (treeP t f1 ds :: l) ∧ Kp w w' := fun w t l h =>
    (tree_apply (o := ⟨1, 0, 256, 0, letter 0⟩) (r := true) h acyc_empty (isRight_small ⟨by decide, by decide, by decide, by decide, by decide, by decide, .inl rfl, 0, by decide, rfl⟩) ⟨fun _ => ⟨rfl, not1⟩, fun _ => rfl⟩ (by simp)).mono fun e w' ⟨h1, h2, h3⟩ => ⟨_, rfl, h1, h2, h3⟩
  have A2 : ∀ (w : World) (t : Nat) (ds : List ChD) (l : List HProp), ds.length = 1 → Sat w (treeP t f1 ds :: l) → Calls Tryd.prog 15 #[.pointer (some ⟨t, 0, none⟩), .agg #[.int .i64 1, .int .i64 0, .int .i64 257, .int .i64 256, .string ⟨#[98]⟩]] w fun e w' => ∃ ds, ds.length = 2 ∧ e = .returned (.bool true) ∧ Sat w' (treeP t f2 ds :: l) ∧ Kp w w' := fun w t ds l hd h =>
    (tree_apply (o := ⟨1, 0, 257, 256, letter 1⟩) (r := true) h ac1 (isRight_small ⟨by decide, by decide, by decide, by decide, by decide, by decide, .inr (.inr ⟨by decide, by decide⟩), 1, by decide, rfl⟩) ⟨fun _ => ⟨by simp [known, f1_at], not2⟩, fun _ => rfl⟩ (by omega)).mono fun e w' ⟨h1, h2, h3⟩ => ⟨_, by simp [hd], h1, h2, h3⟩
  have A3 : ∀ (w : World) (t : Nat) (ds : List ChD) (l : List HProp), ds.length = 2 → Sat w (treeP t f2 ds :: l) → Calls Tryd.prog 15 #[.pointer (some ⟨t, 0, none⟩), .agg #[.int .i64 1, .int .i64 0, .int .i64 256, .int .i64 257, .string ⟨#[99]⟩]] w fun e w' => ∃ ds, e = .returned (.bool false) ∧ Sat w' (treeP t f2 ds :: l) ∧ Kp w w' := fun w t ds l hd h =>
    (tree_apply (o := ⟨1, 0, 256, 257, letter 2⟩) (r := false) h ac2 (isRight_small ⟨by decide, by decide, by decide, by decide, by decide, by decide, .inr (.inr ⟨by decide, by decide⟩), 2, by decide, rfl⟩) ⟨fun h => by (cases h), fun h => absurd is3 h.2⟩ (by omega)).mono fun e w' ⟨h1, h2, h3⟩ => ⟨_, h1, h2, h3⟩
  obtain ⟨k3, hk3⟩ := ac2 257
  go_enter Tryd.func11, Tryd.ntmps11
  go_wp2_with fail
  refine (tree_new hs).mono ?_
  rintro e w1 ⟨t, rfl, h1, k1⟩
  have hS := (h1.alloc (.cells #[.int .i64 1, .int .i64 0] 31)).swap
  have kS := k1.alloc (.cells #[.int .i64 1, .int .i64 0] 31)
  go_upto_region 5 with (fail)
  generalize World.alloc _ _ = w2 at hS kS ⊢
  generalize w1.heap.size = S at hS ⊢
  have s0 := (hS.pull 1).cell 0
  have s1 := (hS.pull 1).cell 1
  simp at s0 s1
  go_wp2_with fail
  refine (A1 _ _ _ hS).mono ?_
  rintro e w3 ⟨ds1, hd1, rfl, h3, k3⟩
  clear s0 s1
  have s0 := (h3.pull 1).cell 0
  have s1 := (h3.pull 1).cell 1
  simp at s0 s1
  go_wp2_with fail
  refine (A2 _ _ _ _ hd1 h3).mono ?_
  rintro e w4 ⟨ds2, hd2, rfl, h4, k4⟩
  clear s0 s1
  have s0 := (h4.pull 1).cell 0
  have s1 := (h4.pull 1).cell 1
  simp at s0 s1
  go_wp2_with fail
  refine (find_ab h4 few2 f2_a f2_b ?_).mono ?_
  · intro k s hk
    by_cases h1 : k = 257
    · exact .inr h1
    · by_cases h2 : k = 256
      · exact .inl h2
      · unfold f2 f1 at hk
        rw [upd_other h1, upd_other h2] at hk
        cases hk
  rintro e w5 ⟨rfl, h5, k5⟩
  clear s0 s1
  have s0 := (h5.pull 1).cell 0
  have s1 := (h5.pull 1).cell 1
  simp at s0 s1
  go_wp2_with fail
  refine (A3 _ _ _ _ hd2 h5).mono ?_
  rintro e w6 ⟨ds3, rfl, h6, k6⟩
  go_wp2_with fail
  refine (tree_above (r := true) h6 hk3 ⟨fun _ => ⟨by simp [known, f2_b], is3⟩, fun _ => rfl⟩).mono ?_
  rintro e w7 ⟨rfl, h7, k7⟩
  go_wp2_with fail
  go_ret
  exact ⟨rfl, h7.tail.tail, ((((kS.trans k3).trans k4).trans k5).trans k6).trans k7⟩

end Go.Proofs.YtbnipieokpeadaaDoor

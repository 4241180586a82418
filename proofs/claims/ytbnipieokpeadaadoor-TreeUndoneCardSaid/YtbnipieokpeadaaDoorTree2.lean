import Derived.Test.YtbnipieokpeadaaDoorTree
namespace Go.Proofs.YtbnipieokpeadaaDoor
open Go Go.RowKit
set_option linter.unusedVariables false
set_option linter.unusedSimpArgs false

set_option maxRecDepth 100000 in
set_option maxHeartbeats 1000000 in
theorem tree_set {w : World} {l : List HProp} {t : Nat} {f : Int → Option Loc} {ds : List ChD} {n : Int} {s : Option Loc} (hs : Sat w (treeP t f ds :: l)) :
    Calls Tryd.prog 40 #[.pointer (some ⟨t, 0, none⟩), .int .i64 n, vL s] w fun e w' => e = .returned (.tuple #[]) ∧ Sat w' (treeP t (upd f n s) ds :: l) ∧ Kp w w' := by
  obtain ⟨b, v, hv⟩ := treeP_E hs
  cases s with
  | some s =>
    have hB := hv.alloc (.cells #[.bool true, .int .i64 s.up, .string s.name] 49)
    have kB := (Kp.refl w).alloc (.cells #[.bool true, .int .i64 s.up, .string s.name] 49)
    simp only [vL]
    go_enter Tryd.func40, Tryd.ntmps40
    go_upto_region 1 with (fail)
    generalize World.alloc _ _ = w1 at hB kB ⊢
    generalize w.heap.size = B at hB ⊢
    have b0 := hB.cell 0
    have b1 := hB.cell 1
    have b2 := hB.cell 2
    have c0 := (hB.pull 1).cell 0
    simp at b0 b1 b2 c0
    go_upto_region 2 with (fail)
    obtain ⟨w2, hrun, h2, k2⟩ := run_store (P := Tryd.prog) (hB.pull 2).drew Tryd.underlying66 Tryd.underlying3 n s
    simp only [vL] at hrun
    go_region
    all_goals
      go_wp2_with fail
      go_end0
      exact ⟨rfl, treeP_I ((h2.pull 1).tail.pull 1), kB.drew.trans k2⟩
  | none =>
    have hB := hv.alloc (.cells #[.bool false, .int .i64 0, .string ⟨#[]⟩] 49)
    have kB := (Kp.refl w).alloc (.cells #[.bool false, .int .i64 0, .string ⟨#[]⟩] 49)
    simp only [vL]
    go_enter Tryd.func40, Tryd.ntmps40
    go_upto_region 1 with (fail)
    generalize World.alloc _ _ = w1 at hB kB ⊢
    generalize w.heap.size = B at hB ⊢
    have b0 := hB.cell 0
    have b1 := hB.cell 1
    have b2 := hB.cell 2
    have c0 := (hB.pull 1).cell 0
    simp at b0 b1 b2 c0
    go_wp2_with (at_delete; refine wpList_deleteM _ rfl (.tmp 17) (.tmp 18) 66 3 rfl Tryd.underlying66 Tryd.underlying3 rfl (hB.pull 2) n rfl ?_; intro w2 h2 k2)
    all_goals
      go_wp2_with fail
      go_end0
      exact ⟨rfl, treeP_I ((h2.pull 1).tail.pull 1), kB.trans k2⟩

theorem reads_empty : Reads #[] 0 (fun _ => none) := ⟨MapKept.stamped_empty 0, by simp, fun k l h => by cases h⟩

theorem tree_new {w : World} {l : List HProp} (hs : Sat w l) :
    Calls Tryd.prog 31 #[] w fun e w' => ∃ t, e = .returned (.pointer (some ⟨t, 0, none⟩)) ∧ Sat w' (treeP t (fun _ => none) [] :: l) ∧ Kp w w' := by
  have hmm := @run_makeMap Tryd.prog
  go_enter Tryd.func31, Tryd.ntmps31
  have h1 := (hs.alloc (.map #[] 0)).mapI reads_empty
  have h2 := ((h1.tNil fC 71 7).swap.alloc (.cells #[.map (some w.heap.size), .slice none 0 0] 69))
  go_wp2_with fail
  simp only [World.size_alloc] at h2
  go_ret
  exact ⟨_, rfl, treeP_I h2, ((Kp.refl w).alloc _).alloc _⟩

end Go.Proofs.YtbnipieokpeadaaDoor

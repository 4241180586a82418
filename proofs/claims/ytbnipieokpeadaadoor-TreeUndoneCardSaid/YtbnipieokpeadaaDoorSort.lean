import Derived.Test.YtbnipieokpeadaaDoorTree2
import Derived.Deep.CutRange
import Derived.Deep.CutBlock
import Derived.LoopN
namespace Go.Proofs.YtbnipieokpeadaaDoor
open Go Go.RowKit
set_option linter.unusedVariables false
set_option linter.unusedSimpArgs false

/-! ### cmp.Compare, cmp.Or, the order of nodes -/

def cmpI (x y : Int) : Int := if x < y then -1 else if y < x then 1 else 0
def slt (x y : ByteArray) : Bool := Op.bytesLess x.toList y.toList
def sEq (x y : ByteArray) : Bool := x.toList == y.toList
def cmpS (x y : ByteArray) : Int := if slt x y then -1 else if sEq x y then 0 else 1
def or3 (x y z : Int) : Int := if x = 0 then (if y = 0 then z else y) else x

theorem cmp_int {w : World} (x y : Int) : Calls Tryd.prog 70 #[.int .i64 x, .int .i64 y] w fun e w' => e = .returned (.int .i64 (cmpI x y)) ∧ w = w' := by
  have hx : (x != x) = false := by simp
  have hy : (y != y) = false := by simp
  have h3 : (x < y ∧ cmpI x y = -1) ∨ (¬ x < y ∧ y < x ∧ cmpI x y = 1) ∨ (¬ x < y ∧ ¬ y < x ∧ cmpI x y = 0) := by
    unfold cmpI
    by_cases h1 : x < y
    · exact .inl ⟨h1, by simp [h1]⟩
    · by_cases h2 : y < x
      · exact .inr (.inl ⟨h1, h2, by simp [h1, h2]⟩)
      · exact .inr (.inr ⟨h1, h2, by simp [h1, h2]⟩)
  rcases h3 with ⟨h1, h2⟩ | ⟨h1, h3, h2⟩ | ⟨h1, h3, h2⟩
  all_goals
    rw [h2]
    clear h2
    go_enter Tryd.func70, Tryd.ntmps70
    go_wp2
    go_ret
    exact ⟨rfl, rfl⟩
theorem gtr_str (x y : ByteArray) (W : World) : (binOp BinOp.gtr 9 (.string x) (.string y)).run Tryd.prog W = .ok (.bool (!(Op.bytesLess x.toList y.toList || x.toList == y.toList))) W := by
  first | rfl | kernel_rfl | simp [binOp, Op.stringOp, run_underlying Tryd.underlying9]
theorem cmp_str {w : World} (x y : ByteArray) : Calls Tryd.prog 71 #[.string x, .string y] w fun e w' => e = .returned (.int .i64 (cmpS x y)) ∧ w = w' := by
  have hg := fun W => gtr_str x y W
  have hx : (x.toList == x.toList) = true := by simp
  have hy : (y.toList == y.toList) = true := by simp
  have h3 : (Op.bytesLess x.toList y.toList = true ∧ cmpS x y = -1) ∨ (Op.bytesLess x.toList y.toList = false ∧ (x.toList == y.toList) = true ∧ cmpS x y = 0) ∨ (Op.bytesLess x.toList y.toList = false ∧ (x.toList == y.toList) = false ∧ cmpS x y = 1) := by
    unfold cmpS slt sEq
    cases h1 : Op.bytesLess x.toList y.toList with
    | true => exact .inl ⟨rfl, by simp⟩
    | false =>
      cases h2 : x.toList == y.toList with
      | true => exact .inr (.inl ⟨rfl, rfl, by simp⟩)
      | false => exact .inr (.inr ⟨rfl, rfl, by simp⟩)
  rcases h3 with ⟨h1, h2⟩ | ⟨h1, h3, h2⟩ | ⟨h1, h3, h2⟩
  all_goals
    rw [h2]
    clear h2
    go_enter Tryd.func71, Tryd.ntmps71
    go_wp2
    go_ret
    exact ⟨rfl, rfl⟩
theorem cmp_or {w : World} {b : Nat} (x y z : Int) (h0 : w.cell? ⟨b, 0, none⟩ = some (.int .i64 x)) (h1 : w.cell? ⟨b, 1, none⟩ = some (.int .i64 y)) (h2 : w.cell? ⟨b, 2, none⟩ = some (.int .i64 z)) :
    Calls Tryd.prog 69 #[.slice (some ⟨b, 0, none⟩) 3 3] w fun e w' => e = .returned (.int .i64 (or3 x y z)) ∧ w = w' := by
  by_cases e0 : x = 0
  · by_cases e1 : y = 0
    · by_cases e2 : z = 0
      · subst e0 e1 e2
        go_enter Tryd.func69, Tryd.ntmps69
        go_wp2
        refine wp_loop_rounds 4 ?_
        iterate 4 (rw [rounds_succ]; go_wp2)
        go_ret
        exact ⟨rfl, rfl⟩
      · have n2 : (z != 0) = true := by simpa using e2
        subst e0 e1
        go_enter Tryd.func69, Tryd.ntmps69
        go_wp2
        refine wp_loop_rounds 4 ?_
        iterate 3 (rw [rounds_succ]; go_wp2)
        go_ret
        exact ⟨rfl, rfl⟩
    · have n1 : (y != 0) = true := by simpa using e1
      subst e0
      have hr : or3 0 y z = y := by simp [or3, e1]
      rw [hr]
      clear hr
      go_enter Tryd.func69, Tryd.ntmps69
      go_wp2
      refine wp_loop_rounds 4 ?_
      iterate 2 (rw [rounds_succ]; go_wp2)
      go_ret
      exact ⟨rfl, rfl⟩
  · have n0 : (x != 0) = true := by simpa using e0
    have hr : or3 x y z = x := by simp [or3, e0]
    rw [hr]
    clear hr
    go_enter Tryd.func69, Tryd.ntmps69
    go_wp2
    refine wp_loop_rounds 4 ?_
    rw [rounds_succ]; go_wp2
    go_ret
    exact ⟨rfl, rfl⟩

end Go.Proofs.YtbnipieokpeadaaDoor

import Derived.Test.YtddglbjhhnipgaaGreatDoorGB
import Derived.Test.YtddglbjhhnipgaaGreatDoorGA
import Derived.Deep.CutRange
import Derived.Deep.CutBlock
import Derived.LoopN
namespace Go.Proofs.YtddglbjhhnipgaaGreatDoor
open Go Go.RowKit
set_option linter.unusedVariables false
set_option linter.unusedSimpArgs false
set_option maxRecDepth 100000
set_option maxHeartbeats 8000000
/-! ### the program's tree -/
def locCells : Option Loc → List Value
 | some l => [.bool true, .int .i64 l.up, .string l.name]
 | none => [.bool false, .int .i64 0, .string ⟨#[]⟩]
theorem locCells_len (s : Option Loc) : (locCells s).length = 3 := by cases s <;> rfl
/-- A change: a node, where it was, where it is. -/
structure ChD where
 node : Int
 old : Option Loc
 new : Option Loc
def fC (c : ChD) : List Value := .int .i64 c.node :: (locCells c.old ++ locCells c.new)
theorem len_fC (c : ChD) : (fC c).length = 7 := by simp [fC, locCells_len]
theorem mapZero (w : World) : (zeroValue 98).run Tryz.prog w = .ok (vL none) w := by kernel_rfl
theorem reads_empty : Reads #[] 0 (fun _ => none) := ⟨MapKept.stamped_empty 0, by simp, fun k l h => by cases h⟩
/-! ### cmp.Compare, cmp.Or, the order of nodes -/
def cmpI (x y : Int) : Int := if x < y then -1 else if y < x then 1 else 0
def slt (x y : ByteArray) : Bool := Op.bytesLess x.toList y.toList
def sEq (x y : ByteArray) : Bool := x.toList == y.toList
def cmpS (x y : ByteArray) : Int := if slt x y then -1 else if sEq x y then 0 else 1
def or3 (x y z : Int) : Int := if x = 0 then (if y = 0 then z else y) else x
theorem cmp_int {w : World} (x y : Int) : Calls Tryz.prog 63 #[.int .i64 x, .int .i64 y] w fun e w' => e = .returned (.int .i64 (cmpI x y)) ∧ w = w' := by
 have hx : (x != x) = false := by simp
 have hy : (y != y) = false := by simp
 have h3 : (x < y ∧ cmpI x y = -1) ∨ (¬ x < y ∧ y < x ∧ cmpI x y = 1) ∨ (¬ x < y ∧ ¬ y < x ∧ cmpI x y = 0) := by
   unfold cmpI
   by_cases h1 : x < y
   · exact .inl ⟨h1, by simp [h1]⟩
   · by_cases h2 : y < x
     · exact .inr (.inl ⟨h1, h2, by simp [h1, h2]⟩)
     · exact .inr (.inr ⟨h1, h2, by simp [h1, h2]⟩)
 rcases h3 with ⟨h1, h2⟩ | ⟨h1, h3, h2⟩ | ⟨h1, h3, h2⟩
 all_goals
   rw [h2]
   clear h2
   go_enter Tryz.func63, Tryz.ntmps63
   go_wp2
   go_ret
   exact ⟨rfl, rfl⟩
theorem gtr_str (x y : ByteArray) (W : World) : (binOp BinOp.gtr 9 (.string x) (.string y)).run Tryz.prog W = .ok (.bool (!(Op.bytesLess x.toList y.toList || x.toList == y.toList))) W := by
 first | rfl | kernel_rfl | simp [binOp, Op.stringOp, run_underlying Tryz.underlying9]
theorem cmp_str {w : World} (x y : ByteArray) : Calls Tryz.prog 91 #[.string x, .string y] w fun e w' => e = .returned (.int .i64 (cmpS x y)) ∧ w = w' := by
 have hg := fun W => gtr_str x y W
 have hx : (x.toList == x.toList) = true := by simp
 have hy : (y.toList == y.toList) = true := by simp
 have h3 : (Op.bytesLess x.toList y.toList = true ∧ cmpS x y = -1) ∨ (Op.bytesLess x.toList y.toList = false ∧ (x.toList == y.toList) = true ∧ cmpS x y = 0) ∨ (Op.bytesLess x.toList y.toList = false ∧ (x.toList == y.toList) = false ∧ cmpS x y = 1) := by
   unfold cmpS slt sEq
   cases h1 : Op.bytesLess x.toList y.toList with
   | true => exact .inl ⟨rfl, by simp⟩
   | false =>
     cases h2 : x.toList == y.toList with
     | true => exact .inr (.inl ⟨rfl, rfl, by simp⟩)
     | false => exact .inr (.inr ⟨rfl, rfl, by simp⟩)
 rcases h3 with ⟨h1, h2⟩ | ⟨h1, h3, h2⟩ | ⟨h1, h3, h2⟩
 all_goals
   rw [h2]
   clear h2
   go_enter Tryz.func91, Tryz.ntmps91
   go_wp2
   go_ret
   exact ⟨rfl, rfl⟩
theorem cmp_or {w : World} {b : Nat} (x y z : Int) (h0 : w.cell? ⟨b, 0, none⟩ = some (.int .i64 x)) (h1 : w.cell? ⟨b, 1, none⟩ = some (.int .i64 y)) (h2 : w.cell? ⟨b, 2, none⟩ = some (.int .i64 z)) :
   Calls Tryz.prog 90 #[.slice (some ⟨b, 0, none⟩) 3 3] w fun e w' => e = .returned (.int .i64 (or3 x y z)) ∧ w = w' := by
 by_cases e0 : x = 0
 · by_cases e1 : y = 0
   · by_cases e2 : z = 0
     · subst e0 e1 e2
       go_enter Tryz.func90, Tryz.ntmps90
       go_wp2
       refine wp_loop_rounds 4 ?_
       iterate 4 (rw [rounds_succ]; go_wp2)
       go_ret
       exact ⟨rfl, rfl⟩
     · have n2 : (z != 0) = true := by simpa using e2
       subst e0 e1
       go_enter Tryz.func90, Tryz.ntmps90
       go_wp2
       refine wp_loop_rounds 4 ?_
       iterate 3 (rw [rounds_succ]; go_wp2)
       go_ret
       exact ⟨rfl, rfl⟩
   · have n1 : (y != 0) = true := by simpa using e1
     subst e0
     have hr : or3 0 y z = y := by simp [or3, e1]
     rw [hr]
     clear hr
     go_enter Tryz.func90, Tryz.ntmps90
     go_wp2
     refine wp_loop_rounds 4 ?_
     iterate 2 (rw [rounds_succ]; go_wp2)
     go_ret
     exact ⟨rfl, rfl⟩
 · have n0 : (x != 0) = true := by simpa using e0
   have hr : or3 x y z = x := by simp [or3, e0]
   rw [hr]
   clear hr
   go_enter Tryz.func90, Tryz.ntmps90
   go_wp2
   refine wp_loop_rounds 4 ?_
   rw [rounds_succ]; go_wp2
   go_ret
   exact ⟨rfl, rfl⟩
/-- A node below another one. -/
structure KidD where
 up : Int
 name : ByteArray
 node : Int
def fK (k : KidD) : List Value := [.int .i64 k.up, .string k.name, .int .i64 k.node]
theorem len_fK (k : KidD) : (fK k).length = 3 := rfl
def aggK (k : KidD) : Value := .agg #[.int .i64 k.up, .string k.name, .int .i64 k.node]
def kord (a b : KidD) : Int := or3 (cmpI a.up b.up) (cmpS a.name b.name) (cmpI a.node b.node)
def klt (a b : KidD) : Bool := decide (kord a b < 0)
end Go.Proofs.YtddglbjhhnipgaaGreatDoor

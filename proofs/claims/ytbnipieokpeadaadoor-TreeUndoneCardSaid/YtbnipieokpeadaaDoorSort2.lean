import Derived.Test.YtbnipieokpeadaaDoorSort
namespace Go.Proofs.YtbnipieokpeadaaDoor
open Go Go.RowKit
set_option linter.unusedVariables false
set_option linter.unusedSimpArgs false

/-- A node below another one. -/
structure KidD where
  up : Int
  name : ByteArray
  node : Int
def fK (k : KidD) : List Value := [.int .i64 k.up, .string k.name, .int .i64 k.node]
theorem len_fK (k : KidD) : (fK k).length = 3 := rfl
def aggK (k : KidD) : Value := .agg #[.int .i64 k.up, .string k.name, .int .i64 k.node]
def kord (a b : KidD) : Int := or3 (cmpI a.up b.up) (cmpS a.name b.name) (cmpI a.node b.node)
def klt (a b : KidD) : Bool := decide (kord a b < 0)

set_option maxRecDepth 100000 in
set_option maxHeartbeats 1000000 in
theorem tree_order {w : World} {l : List HProp} (hs : Sat w l) (a b : KidD) :
    Calls Tryd.prog 59 #[aggK a, aggK b] w fun e w' => e = .returned (.int .i64 (kord a b)) ∧ Sat w' l ∧ Kp w w' := by
  have hB := (hs.alloc (.cells #[.int .i64 a.up, .string a.name, .int .i64 a.node] 39)).alloc (.cells #[.int .i64 b.up, .string b.name, .int .i64 b.node] 39)
  have kB := ((Kp.refl w).alloc (.cells #[.int .i64 a.up, .string a.name, .int .i64 a.node] 39)).alloc (.cells #[.int .i64 b.up, .string b.name, .int .i64 b.node] 39)
  simp only [World.size_alloc] at hB
  simp only [aggK]
  go_enter Tryd.func59, Tryd.ntmps59
  go_upto_region 1 with (fail)
  generalize World.alloc _ _ = w1 at hB kB ⊢
  have hne := hB.ne
  generalize w.heap.size + 1 = B at hB hne ⊢
  generalize w.heap.size = A at hB hne ⊢
  have b0 := hB.cell 0
  have b1 := hB.cell 1
  have b2 := hB.cell 2
  have a0 := (hB.pull 1).cell 0
  have a1 := (hB.pull 1).cell 1
  have a2 := (hB.pull 1).cell 2
  simp at b0 b1 b2 a0 a1 a2
  have hX := ((hB.drewN 1).alloc (.cells #[.int .i64 (cmpI a.up b.up), .int .i64 (cmpS a.name b.name), .int .i64 (cmpI a.node b.node)] 3))
  have x0 := hX.cell 0
  have x1 := hX.cell 1
  have x2 := hX.cell 2
  have kX := (kB.drewN 1).alloc (.cells #[.int .i64 (cmpI a.up b.up), .int .i64 (cmpS a.name b.name), .int .i64 (cmpI a.node b.node)] 3)
  simp at x0 x1 x2
  go_region_held3 (fun w' => w'.cell? ⟨A, 0, none⟩ = some (.int .i64 a.up) ∧ w'.cell? ⟨A, 1, none⟩ = some (.string a.name) ∧ w'.cell? ⟨A, 2, none⟩ = some (.int .i64 a.node) ∧ w'.cell? ⟨B, 0, none⟩ = some (.int .i64 b.up) ∧ w'.cell? ⟨B, 1, none⟩ = some (.string b.name) ∧ w'.cell? ⟨B, 2, none⟩ = some (.int .i64 b.node)) (first | exact ⟨a0, a1, a2, b0, b1, b2⟩ | go_keep)
    (first | (go_at_call 70; refine (cmp_int _ _).mono ?_; rintro e w9 ⟨rfl, rfl⟩) | (go_at_call 71; refine (cmp_str _ _).mono ?_; rintro e w9 ⟨rfl, rfl⟩) | (go_at_call 69; refine (cmp_or _ _ _ x0 x1 x2).mono ?_; rintro e w9 ⟨rfl, rfl⟩))
  all_goals
    go_wp2_with fail
    go_ret
    exact ⟨rfl, hX.tail.tail.tail, kX⟩

end Go.Proofs.YtbnipieokpeadaaDoor

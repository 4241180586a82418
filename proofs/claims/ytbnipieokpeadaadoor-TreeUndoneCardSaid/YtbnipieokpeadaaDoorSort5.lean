import Derived.Test.YtbnipieokpeadaaDoorLaySort
import Derived.Test.YtbnipieokpeadaaDoorSort4
import Derived.Test.YtbnipieokpeadaaDoorOrd
namespace Go.Proofs.YtbnipieokpeadaaDoor
open Go Go.RowKit Go.Sort
set_option linter.unusedVariables false
set_option linter.unusedSimpArgs false

instance : Inhabited KidD := ⟨⟨0, ⟨#[]⟩, 0⟩⟩

theorem grow_three (w : World) (a b c : Obj) : (((w.alloc a).alloc b).drewN 1).alloc c = grow (w.drewN 1) #[a, b, c] := by
  rw [alloc_eq_grow, alloc_eq_grow, alloc_eq_grow]
  show grow (grow (grow (w.drewN 1) #[a]) #[b]) #[c] = _
  rw [grow_grow, grow_grow]
  rfl

set_option maxRecDepth 100000 in
set_option maxHeartbeats 1000000 in
theorem tree_order_exact (w : World) (a b : KidD) :
    Calls Tryd.prog 59 #[aggK a, aggK b] w fun e w' => e = .returned (.int .i64 (kord a b)) ∧ ∃ q os', w' = grow (w.drewN q) os' := by
  have hB := ((Sat.nil w).alloc (.cells #[.int .i64 a.up, .string a.name, .int .i64 a.node] 39)).alloc (.cells #[.int .i64 b.up, .string b.name, .int .i64 b.node] 39)
  simp only [World.size_alloc] at hB
  simp only [aggK]
  go_enter Tryd.func59, Tryd.ntmps59
  go_upto_region 1 with (fail)
  generalize hw1 : World.alloc _ _ = w1 at hB ⊢
  have hne := hB.ne
  generalize w.heap.size + 1 = B at hB hne ⊢
  generalize w.heap.size = A at hB hne ⊢
  have b0 := hB.cell 0
  have b1 := hB.cell 1
  have b2 := hB.cell 2
  have a0 := (hB.pull 1).cell 0
  have a1 := (hB.pull 1).cell 1
  have a2 := (hB.pull 1).cell 2
  simp at b0 b1 b2 a0 a1 a2
  have hX := ((hB.drewN 1).alloc (.cells #[.int .i64 (cmpI a.up b.up), .int .i64 (cmpS a.name b.name), .int .i64 (cmpI a.node b.node)] 3))
  have x0 := hX.cell 0
  have x1 := hX.cell 1
  have x2 := hX.cell 2
  simp at x0 x1 x2
  go_region_held3 (fun w' => w'.cell? ⟨A, 0, none⟩ = some (.int .i64 a.up) ∧ w'.cell? ⟨A, 1, none⟩ = some (.string a.name) ∧ w'.cell? ⟨A, 2, none⟩ = some (.int .i64 a.node) ∧ w'.cell? ⟨B, 0, none⟩ = some (.int .i64 b.up) ∧ w'.cell? ⟨B, 1, none⟩ = some (.string b.name) ∧ w'.cell? ⟨B, 2, none⟩ = some (.int .i64 b.node)) (first | exact ⟨a0, a1, a2, b0, b1, b2⟩ | go_keep)
    (first | (go_at_call 70; refine (cmp_int _ _).mono ?_; rintro e w9 ⟨rfl, rfl⟩) | (go_at_call 71; refine (cmp_str _ _).mono ?_; rintro e w9 ⟨rfl, rfl⟩) | (go_at_call 69; refine (cmp_or _ _ _ x0 x1 x2).mono ?_; rintro e w9 ⟨rfl, rfl⟩))
  all_goals
    go_wp2_with fail
    go_ret
    exact ⟨rfl, 1, #[.cells #[.int .i64 a.up, .string a.name, .int .i64 a.node] 39, .cells #[.int .i64 b.up, .string b.name, .int .i64 b.node] 39, .cells #[.int .i64 (cmpI a.up b.up), .int .i64 (cmpS a.name b.name), .int .i64 (cmpI a.node b.node)] 3], by rw [← hw1]; exact grow_three w _ _ _⟩

theorem kid_lays (blk off size : Nat) (w : World) : CmpLays Tryd.prog 59 #[] fK 3 kord blk off size w :=
  fun _ _ _ _ x y => tree_order_exact _ x y

theorem klt_is : ltOf kord = klt := rfl
theorem klt_swo : SWO (ltOf kord) where
  irrefl := strict_klt.irr
  trans := strict_klt.trans
  ntrans x y z h1 h2 := by
    rw [klt_is] at *
    cases h : klt x z with
    | false => rfl
    | true =>
      rcases strict_klt.tri x y with e | e | e
      · rw [h1] at e; cases e
      · subst e; rw [h2] at h; cases h
      · have := strict_klt.trans y x z e h
        rw [h2] at this
        cases this
theorem klt_total (x y : KidD) (h1 : (ltOf kord) x y = false) (h2 : (ltOf kord) y x = false) : x = y := by
  rw [klt_is] at *
  rcases strict_klt.tri x y with e | e | e
  · rw [h1] at e; cases e
  · exact e
  · rw [h2] at e; cases e
theorem msort_isort (l : List KidD) : (l.mergeSort fun x y => !(ltOf kord) y x) = isort klt l := by
  rw [klt_is]
  have hp : (l.mergeSort fun x y => !klt y x).Perm l := List.mergeSort_perm ..
  have hs : (l.mergeSort fun x y => !klt y x).Pairwise fun a b => (!klt b a) = true := by
    apply List.pairwise_mergeSort
    · intro a b c h1 h2
      have := klt_swo.ntrans c b a (by rw [klt_is]; simpa using h2) (by rw [klt_is]; simpa using h1)
      rw [klt_is] at this
      simp [this]
    · intro a b
      cases h : klt b a with
      | false => simp
      | true => simp [strict_klt.asymm h]
  have h1 : SortedR klt (l.mergeSort fun x y => !klt y x).reverse := by
    unfold SortedR
    rw [List.pairwise_reverse]
    exact hs.imp fun h => by simpa using h
  have h2 := sorted_unique strict_klt h1 (isortR_sorted strict_klt l) ((List.reverse_perm _).trans (hp.trans (by
    have := isort_perm klt l
    unfold isort at this
    exact ((List.reverse_perm _).symm.trans this).symm)))
  unfold isort
  rw [← h2, List.reverse_reverse]

end Go.Proofs.YtbnipieokpeadaaDoor

import Derived.Test.YtbnipieokpeadaaDoorGrown
import Derived.Laws.StructEq
namespace Go.Proofs.YtbnipieokpeadaaDoor
open Go Go.RowKit
set_option linter.unusedVariables false
set_option linter.unusedSimpArgs false

def kidEq (a b : KidD) : Bool := a.up == b.up && (a.name.toList == b.name.toList && a.node == b.node)
set_option maxRecDepth 100000 in
theorem kid_eq (a b : KidD) (W : World) : (binOp BinOp.eql 39 (.agg #[.int .i64 a.up, .string a.name, .int .i64 a.node]) (.agg #[.int .i64 b.up, .string b.name, .int .i64 b.node])).run Tryd.prog W = .ok (.bool (kidEq a b)) W := by
  unfold kidEq
  cases h1 : a.up == b.up <;> cases h2 : a.name.toList == b.name.toList <;> cases h3 : a.node == b.node
  all_goals
    go_simp
    try simp_all

/-- Among the nodes below the root just one is the one that was put there by that name. -/
theorem last_count {f : Int → Option Loc} {S : List (Int × Loc)} {node : Int} {name : ByteArray} (hS : Enum f S) (hf : f node = some ⟨0, name⟩) :
    ((isort klt (kidsOf (fun p => p.2.up == 0) S)).filter fun k => kidEq k ⟨0, name, node⟩).length = 1 := by
  rw [((isort_perm klt (kidsOf (fun p => p.2.up == 0) S)).filter _).length_eq]
  have h : (S.filter fun p => p.2.up == 0).filter (fun p => kidEq (kidOf p) ⟨0, name, node⟩) = [(node, ⟨0, name⟩)] := by
    refine single (((nodup_of_map Prod.fst hS.nodup).filter _).filter _) (fun x hx => ?_) ?_
    · obtain ⟨h1, h2⟩ := List.mem_filter.1 hx
      obtain ⟨h3, _⟩ := List.mem_filter.1 h1
      have h4 : x.1 = node := by
        simp only [kidEq, kidOf, Bool.and_eq_true, beq_iff_eq] at h2
        exact h2.2.2
      have h5 := hS.mem x h3
      rw [h4, hf] at h5
      cases x
      cases h5
      simp only at h4
      rw [h4]
    · refine List.mem_filter.2 ⟨List.mem_filter.2 ⟨hS.all _ _ hf, rfl⟩, ?_⟩
      simp [kidEq, kidOf]
  unfold kidsOf
  rw [List.filter_map, List.length_map]
  have e : ((fun k => kidEq k ⟨0, name, node⟩) ∘ kidOf) = fun p => kidEq (kidOf p) ⟨0, name, node⟩ := rfl
  rw [e, h]
  rfl

end Go.Proofs.YtbnipieokpeadaaDoor

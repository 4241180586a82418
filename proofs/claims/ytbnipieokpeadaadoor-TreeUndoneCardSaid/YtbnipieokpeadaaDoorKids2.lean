import Derived.Test.YtbnipieokpeadaaDoorKids
import Derived.Test.YtbnipieokpeadaaDoorPick2
namespace Go.Proofs.YtbnipieokpeadaaDoor
open Go Go.RowKit
set_option linter.unusedVariables false
set_option linter.unusedSimpArgs false

theorem tree_kids2 {w : World} {l : List HProp} {t : Nat} {f : Int → Option Loc} {ds : List ChD} {n : Int} (hs : Sat w (treeP t f ds :: l)) (hF : Bnd f) :
    Calls Tryd.prog 16 #[.pointer (some ⟨t, 0, none⟩), .int .i64 n] w fun e w' => ∃ S v, Enum f S ∧ e = .returned v ∧ Sat w' (rowT fK v 39 3 (isort klt (kidsOf (fun p => p.2.up == n) S)) :: treeP t f ds :: l) ∧ Kp w w' := by
  have hmf : ∀ (fn : Fn) (first cap : Array Value) (w : World), (Instr.makeFunc fn first cap).run Tryd.prog w = .ok (.func fn first cap) w := fun _ _ _ _ => rfl
  have hB := (hs.alloc (.cells #[.int .i64 n] 3)).swap
  have kB := (Kp.refl w).alloc (.cells #[.int .i64 n] 3)
  go_enter Tryd.func16, Tryd.ntmps16
  go_wp2_with fail
  refine (picked_kids2 hB hF).mono ?_
  rintro e w1 ⟨S, v, hS, rfl, h1, k1⟩
  go_wp2_with fail
  go_ret
  exact ⟨S, v, hS, rfl, (h1.pull 2).tail, kB.trans k1⟩
theorem tree_all2 {w : World} {l : List HProp} {t : Nat} {f : Int → Option Loc} {ds : List ChD} (hs : Sat w (treeP t f ds :: l)) (hF : Bnd f) :
    Calls Tryd.prog 27 #[.pointer (some ⟨t, 0, none⟩)] w fun e w' => ∃ S v, Enum f S ∧ e = .returned v ∧ Sat w' (rowT fK v 39 3 (isort klt (kidsOf (fun _ => true) S)) :: treeP t f ds :: l) ∧ Kp w w' := by
  go_enter Tryd.func27, Tryd.ntmps27
  go_wp2_with fail
  refine (picked_all2 hs hF).mono ?_
  rintro e w1 ⟨S, v, hS, rfl, h1, k1⟩
  go_wp2_with fail
  go_ret
  exact ⟨S, v, hS, rfl, h1, k1⟩

end Go.Proofs.YtbnipieokpeadaaDoor

import Derived.Test.YtddglbjhhnipgaaGreatDoorHL
namespace Go.Proofs.YtddglbjhhnipgaaGreatDoor
open Go Go.RowKit
set_option linter.unusedVariables false
set_option linter.unusedSimpArgs false

set_option maxRecDepth 100000 in
set_option maxHeartbeats 2000000 in
theorem cw_early1 {W : World} {x : CallD} {r : RepD} {full closed : Bool} (hd : ¬ (x.text.size ≤ 450 ∧ x.dn ≤ 400)) :
    LawCalls Tryz.prog 3 #[aggCa x, aggA r, .bool full, .bool closed] W := by
  have hB := (Sat.start W).alloc (.cells #[.int .i64 x.kind, .int .i64 x.node, .int .i64 x.up, .string x.text, .slice x.dao x.dn x.dc] 24)
  have kB := (Kp.refl W).alloc (.cells #[.int .i64 x.kind, .int .i64 x.node, .int .i64 x.up, .string x.text, .slice x.dao x.dn x.dc] 24)
  have hO := hB.alloc (.cells #[.int .i64 r.e, .int .i64 r.version, .int .i64 r.node, .slice r.kao r.kn r.kc, .slice r.dao r.dn r.dc] 28)
  have kO := kB.alloc (.cells #[.int .i64 r.e, .int .i64 r.version, .int .i64 r.node, .slice r.kao r.kn r.kc, .slice r.dao r.dn r.dc] 28)
  simp only [World.size_alloc] at hO
  have hmf : ∀ (fn : Fn) (first cap : Array Value) (w : World), (Instr.makeFunc fn first cap).run Tryz.prog w = .ok (.func fn first cap) w := fun _ _ _ _ => rfl
  clear hB kB
  unfold LawCalls
  unfold aggCa aggA
  go_enter Tryz.func3, Tryz.ntmps3
  go_upto_region 1 with (fail)
  generalize World.alloc _ _ = w1 at hO kO ⊢
  generalize W.heap.size + 1 = BA at hO ⊢
  generalize W.heap.size = BX at hO ⊢
  go_wp2_with fail
  refine (client_awake hO).mono ?_
  rintro e w2 ⟨rfl, h2, k2⟩
  have k2 := kO.trans k2
  clear hO kO
  have x0 := (h2.pull 1).cell 0
  have x1 := (h2.pull 1).cell 1
  have x2 := (h2.pull 1).cell 2
  have x3 := (h2.pull 1).cell 3
  have x4 := (h2.pull 1).cell 4
  simp at x0 x1 x2 x3 x4
  have a3 := (h2).cell 3
  have a4 := (h2).cell 4
  simp at a3 a4
  have h3 := rowCa1 x h2
  have k3 := k2.alloc (.cells #[.int .i64 x.kind, .int .i64 x.node, .int .i64 x.up, .string x.text, .slice x.dao x.dn x.dc] 24)
  go_wp2_with fail
  refine (few_one (b := false) h3 (by simp; omega)).mono ?_
  rintro e w4 ⟨rfl, h4, k4⟩
  have k4 := k3.trans k4
  have h4 := h4.tail
  clear x0 x1 x2 x3 x4 a3 a4 h3 k3 h2 k2
  have x0 := (h4.pull 1).cell 0
  have x1 := (h4.pull 1).cell 1
  have x2 := (h4.pull 1).cell 2
  have x3 := (h4.pull 1).cell 3
  have x4 := (h4.pull 1).cell 4
  simp at x0 x1 x2 x3 x4
  have a3 := (h4).cell 3
  have a4 := (h4).cell 4
  simp at a3 a4
  go_wp2_with fail
  go_ret
  exact ⟨rfl, Sat.below (h4.pull 2) k4⟩

set_option maxRecDepth 100000 in
set_option maxHeartbeats 2000000 in
theorem cw_early2 {W : World} {x : CallD} {r : RepD} {full closed : Bool} (hd : x.text.size ≤ 450 ∧ x.dn ≤ 400) (hkn : ¬ r.kn ≤ 12) :
    LawCalls Tryz.prog 3 #[aggCa x, aggA r, .bool full, .bool closed] W := by
  have hB := (Sat.start W).alloc (.cells #[.int .i64 x.kind, .int .i64 x.node, .int .i64 x.up, .string x.text, .slice x.dao x.dn x.dc] 24)
  have kB := (Kp.refl W).alloc (.cells #[.int .i64 x.kind, .int .i64 x.node, .int .i64 x.up, .string x.text, .slice x.dao x.dn x.dc] 24)
  have hO := hB.alloc (.cells #[.int .i64 r.e, .int .i64 r.version, .int .i64 r.node, .slice r.kao r.kn r.kc, .slice r.dao r.dn r.dc] 28)
  have kO := kB.alloc (.cells #[.int .i64 r.e, .int .i64 r.version, .int .i64 r.node, .slice r.kao r.kn r.kc, .slice r.dao r.dn r.dc] 28)
  simp only [World.size_alloc] at hO
  have hmf : ∀ (fn : Fn) (first cap : Array Value) (w : World), (Instr.makeFunc fn first cap).run Tryz.prog w = .ok (.func fn first cap) w := fun _ _ _ _ => rfl
  clear hB kB
  unfold LawCalls
  unfold aggCa aggA
  go_enter Tryz.func3, Tryz.ntmps3
  go_upto_region 1 with (fail)
  generalize World.alloc _ _ = w1 at hO kO ⊢
  generalize W.heap.size + 1 = BA at hO ⊢
  generalize W.heap.size = BX at hO ⊢
  go_wp2_with fail
  refine (client_awake hO).mono ?_
  rintro e w2 ⟨rfl, h2, k2⟩
  have k2 := kO.trans k2
  clear hO kO
  have x0 := (h2.pull 1).cell 0
  have x1 := (h2.pull 1).cell 1
  have x2 := (h2.pull 1).cell 2
  have x3 := (h2.pull 1).cell 3
  have x4 := (h2.pull 1).cell 4
  simp at x0 x1 x2 x3 x4
  have a3 := (h2).cell 3
  have a4 := (h2).cell 4
  simp at a3 a4
  have h3 := rowCa1 x h2
  have k3 := k2.alloc (.cells #[.int .i64 x.kind, .int .i64 x.node, .int .i64 x.up, .string x.text, .slice x.dao x.dn x.dc] 24)
  go_wp2_with fail
  refine (few_one (b := true) h3 (by simp; omega)).mono ?_
  rintro e w4 ⟨rfl, h4, k4⟩
  have k4 := k3.trans k4
  have h4 := h4.tail
  clear x0 x1 x2 x3 x4 a3 a4 h3 k3 h2 k2
  have x0 := (h4.pull 1).cell 0
  have x1 := (h4.pull 1).cell 1
  have x2 := (h4.pull 1).cell 2
  have x3 := (h4.pull 1).cell 3
  have x4 := (h4.pull 1).cell 4
  simp at x0 x1 x2 x3 x4
  have a3 := (h4).cell 3
  have a4 := (h4).cell 4
  simp at a3 a4
  have hkn' : (12 : Int) < (r.kn : Int) := by omega
  have hdn' : True := trivial
  go_wp2_with fail
  go_ret
  exact ⟨rfl, Sat.below (h4.pull 2) k4⟩

set_option maxRecDepth 100000 in
set_option maxHeartbeats 2000000 in
theorem cw_early3 {W : World} {x : CallD} {r : RepD} {full closed : Bool} (hd : x.text.size ≤ 450 ∧ x.dn ≤ 400) (hkn : r.kn ≤ 12) (hdn : ¬ r.dn ≤ 400) :
    LawCalls Tryz.prog 3 #[aggCa x, aggA r, .bool full, .bool closed] W := by
  have hB := (Sat.start W).alloc (.cells #[.int .i64 x.kind, .int .i64 x.node, .int .i64 x.up, .string x.text, .slice x.dao x.dn x.dc] 24)
  have kB := (Kp.refl W).alloc (.cells #[.int .i64 x.kind, .int .i64 x.node, .int .i64 x.up, .string x.text, .slice x.dao x.dn x.dc] 24)
  have hO := hB.alloc (.cells #[.int .i64 r.e, .int .i64 r.version, .int .i64 r.node, .slice r.kao r.kn r.kc, .slice r.dao r.dn r.dc] 28)
  have kO := kB.alloc (.cells #[.int .i64 r.e, .int .i64 r.version, .int .i64 r.node, .slice r.kao r.kn r.kc, .slice r.dao r.dn r.dc] 28)
  simp only [World.size_alloc] at hO
  have hmf : ∀ (fn : Fn) (first cap : Array Value) (w : World), (Instr.makeFunc fn first cap).run Tryz.prog w = .ok (.func fn first cap) w := fun _ _ _ _ => rfl
  clear hB kB
  unfold LawCalls
  unfold aggCa aggA
  go_enter Tryz.func3, Tryz.ntmps3
  go_upto_region 1 with (fail)
  generalize World.alloc _ _ = w1 at hO kO ⊢
  generalize W.heap.size + 1 = BA at hO ⊢
  generalize W.heap.size = BX at hO ⊢
  go_wp2_with fail
  refine (client_awake hO).mono ?_
  rintro e w2 ⟨rfl, h2, k2⟩
  have k2 := kO.trans k2
  clear hO kO
  have x0 := (h2.pull 1).cell 0
  have x1 := (h2.pull 1).cell 1
  have x2 := (h2.pull 1).cell 2
  have x3 := (h2.pull 1).cell 3
  have x4 := (h2.pull 1).cell 4
  simp at x0 x1 x2 x3 x4
  have a3 := (h2).cell 3
  have a4 := (h2).cell 4
  simp at a3 a4
  have h3 := rowCa1 x h2
  have k3 := k2.alloc (.cells #[.int .i64 x.kind, .int .i64 x.node, .int .i64 x.up, .string x.text, .slice x.dao x.dn x.dc] 24)
  go_wp2_with fail
  refine (few_one (b := true) h3 (by simp; omega)).mono ?_
  rintro e w4 ⟨rfl, h4, k4⟩
  have k4 := k3.trans k4
  have h4 := h4.tail
  clear x0 x1 x2 x3 x4 a3 a4 h3 k3 h2 k2
  have x0 := (h4.pull 1).cell 0
  have x1 := (h4.pull 1).cell 1
  have x2 := (h4.pull 1).cell 2
  have x3 := (h4.pull 1).cell 3
  have x4 := (h4.pull 1).cell 4
  simp at x0 x1 x2 x3 x4
  have a3 := (h4).cell 3
  have a4 := (h4).cell 4
  simp at a3 a4
  have hkn' : ¬ (12 : Int) < (r.kn : Int) := by omega
  have hdn' : (400 : Int) < (r.dn : Int) := by omega
  go_wp2_with fail
  go_ret
  exact ⟨rfl, Sat.below (h4.pull 2) k4⟩

set_option maxRecDepth 100000 in
set_option maxHeartbeats 2000000 in
theorem cw_early4 {W : World} {x : CallD} {r : RepD} {full closed : Bool} (hd : x.text.size ≤ 450 ∧ x.dn ≤ 400) (hkn : r.kn ≤ 12) (hdn : r.dn ≤ 400) (hkr : x.kind = 3 ∨ x.kind = 4) :
    LawCalls Tryz.prog 3 #[aggCa x, aggA r, .bool full, .bool closed] W := by
  have hB := (Sat.start W).alloc (.cells #[.int .i64 x.kind, .int .i64 x.node, .int .i64 x.up, .string x.text, .slice x.dao x.dn x.dc] 24)
  have kB := (Kp.refl W).alloc (.cells #[.int .i64 x.kind, .int .i64 x.node, .int .i64 x.up, .string x.text, .slice x.dao x.dn x.dc] 24)
  have hO := hB.alloc (.cells #[.int .i64 r.e, .int .i64 r.version, .int .i64 r.node, .slice r.kao r.kn r.kc, .slice r.dao r.dn r.dc] 28)
  have kO := kB.alloc (.cells #[.int .i64 r.e, .int .i64 r.version, .int .i64 r.node, .slice r.kao r.kn r.kc, .slice r.dao r.dn r.dc] 28)
  simp only [World.size_alloc] at hO
  have hmf : ∀ (fn : Fn) (first cap : Array Value) (w : World), (Instr.makeFunc fn first cap).run Tryz.prog w = .ok (.func fn first cap) w := fun _ _ _ _ => rfl
  clear hB kB
  unfold LawCalls
  unfold aggCa aggA
  go_enter Tryz.func3, Tryz.ntmps3
  go_upto_region 1 with (fail)
  generalize World.alloc _ _ = w1 at hO kO ⊢
  generalize W.heap.size + 1 = BA at hO ⊢
  generalize W.heap.size = BX at hO ⊢
  go_wp2_with fail
  refine (client_awake hO).mono ?_
  rintro e w2 ⟨rfl, h2, k2⟩
  have k2 := kO.trans k2
  clear hO kO
  have x0 := (h2.pull 1).cell 0
  have x1 := (h2.pull 1).cell 1
  have x2 := (h2.pull 1).cell 2
  have x3 := (h2.pull 1).cell 3
  have x4 := (h2.pull 1).cell 4
  simp at x0 x1 x2 x3 x4
  have a3 := (h2).cell 3
  have a4 := (h2).cell 4
  simp at a3 a4
  have h3 := rowCa1 x h2
  have k3 := k2.alloc (.cells #[.int .i64 x.kind, .int .i64 x.node, .int .i64 x.up, .string x.text, .slice x.dao x.dn x.dc] 24)
  go_wp2_with fail
  refine (few_one (b := true) h3 (by simp; omega)).mono ?_
  rintro e w4 ⟨rfl, h4, k4⟩
  have k4 := k3.trans k4
  have h4 := h4.tail
  clear x0 x1 x2 x3 x4 a3 a4 h3 k3 h2 k2
  have x0 := (h4.pull 1).cell 0
  have x1 := (h4.pull 1).cell 1
  have x2 := (h4.pull 1).cell 2
  have x3 := (h4.pull 1).cell 3
  have x4 := (h4.pull 1).cell 4
  simp at x0 x1 x2 x3 x4
  have a3 := (h4).cell 3
  have a4 := (h4).cell 4
  simp at a3 a4
  have hkn' : ¬ (12 : Int) < (r.kn : Int) := by omega
  have hdn' : ¬ (400 : Int) < (r.dn : Int) := by omega
  go_wp2_with fail
  refine (reads_yes hkr).mono ?_
  rintro e w5 ⟨rfl, rfl⟩
  go_wp2_with fail
  go_ret
  exact ⟨rfl, Sat.below (h4.pull 2) k4⟩

end Go.Proofs.YtddglbjhhnipgaaGreatDoor

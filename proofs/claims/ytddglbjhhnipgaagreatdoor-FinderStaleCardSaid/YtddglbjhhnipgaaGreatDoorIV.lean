import Derived.Test.YtddglbjhhnipgaaGreatDoorIO
namespace Go.Proofs.YtddglbjhhnipgaaGreatDoor
open Go Go.RowKit
set_option linter.unusedVariables false
set_option linter.unusedSimpArgs false

/-! ### while a node is wanted; a node that isn't there -/
set_option maxRecDepth 100000 in
set_option maxHeartbeats 1000000 in
theorem find_answer_down {w : World} {l : List HProp} {f : Nat} {D : FindD} (hs : Sat w (findP f D :: l)) (hx : D.next = .down) :
    Calls Tryz.prog 36 #[.pointer (some ⟨f, 0, none⟩)] w fun x w' => x = .returned (.agg #[.int .i64 11, .int .i64 0, .int .i64 0, .slice none 0 0, .slice none 0 0]) ∧ Sat w' (findP f D :: l) ∧ Kp w w' := by
  obtain ⟨vn, vs, vk, h1⟩ := findP_E hs
  have hB := h1.alloc (.cells #[.int .i64 0, .int .i64 0, .int .i64 0, .slice none 0 0, .slice none 0 0] 28)
  have kB := (Kp.refl w).alloc (.cells #[.int .i64 0, .int .i64 0, .int .i64 0, .slice none 0 0, .slice none 0 0] 28)
  have hnf := fun w => run_neq_fn (P := Tryz.prog) w Tryz.underlying151 (.func 102) #[.pointer (some ⟨f, 0, none⟩)] #[]
  clear h1 hs
  go_enter Tryz.func36, Tryz.ntmps36
  go_upto_region 1 with (fail)
  generalize World.alloc _ _ = w1 at hB kB ⊢
  generalize w.heap.size = B at hB ⊢
  have hfl := (hB.pull 1).lt
  have hbl := hB.lt
  have f10 := (hB.pull 1).cell 10
  simp [findC, hx, nxV] at f10
  have b0 := (hB).cell 0
  have b1 := (hB).cell 1
  have b2 := (hB).cell 2
  have b3 := (hB).cell 3
  have b4 := (hB).cell 4
  have bf0 := (hB).free 0
  have bf1 := (hB).free 1
  have bf2 := (hB).free 2
  have bf3 := (hB).free 3
  have bf4 := (hB).free 4
  simp at b0 b1 b2 b3 b4
  have h2 := (((((hB.set 0 (.int .i64 11)).set 1 (.int .i64 0)).set 2 (.int .i64 0)).set 3 (.slice none 0 0)).set 4 (.slice none 0 0))
  have k2 := (((((kB.setCell ⟨B, 0, none⟩ (.int .i64 11)).setCell ⟨B, 1, none⟩ (.int .i64 0)).setCell ⟨B, 2, none⟩ (.int .i64 0)).setCell ⟨B, 3, none⟩ (.slice none 0 0)).setCell ⟨B, 4, none⟩ (.slice none 0 0))
  go_wp2_with fail
  exact bodyPost_ret (v := .agg #[.int .i64 11, .int .i64 0, .int .i64 0, .slice none 0 0, .slice none 0 0]) (by simp [results, Tryz.results36, go_sem, b0, bf0, b1, bf1, b2, bf2, b3, bf3, b4, bf4]) rfl ⟨rfl, findP_I h2.tail, k2⟩
set_option maxRecDepth 100000 in
set_option maxHeartbeats 1000000 in
theorem find_answer_through {w : World} {l : List HProp} {f : Nat} {D : FindD} (hs : Sat w (findP f D :: l)) (hx : D.next = .through) :
    Calls Tryz.prog 36 #[.pointer (some ⟨f, 0, none⟩)] w fun x w' => x = .returned (.agg #[.int .i64 11, .int .i64 0, .int .i64 0, .slice none 0 0, .slice none 0 0]) ∧ Sat w' (findP f D :: l) ∧ Kp w w' := by
  obtain ⟨vn, vs, vk, h1⟩ := findP_E hs
  have hB := h1.alloc (.cells #[.int .i64 0, .int .i64 0, .int .i64 0, .slice none 0 0, .slice none 0 0] 28)
  have kB := (Kp.refl w).alloc (.cells #[.int .i64 0, .int .i64 0, .int .i64 0, .slice none 0 0, .slice none 0 0] 28)
  have hnf := fun w => run_neq_fn (P := Tryz.prog) w Tryz.underlying151 (.func 103) #[.pointer (some ⟨f, 0, none⟩)] #[]
  clear h1 hs
  go_enter Tryz.func36, Tryz.ntmps36
  go_upto_region 1 with (fail)
  generalize World.alloc _ _ = w1 at hB kB ⊢
  generalize w.heap.size = B at hB ⊢
  have hfl := (hB.pull 1).lt
  have hbl := hB.lt
  have f10 := (hB.pull 1).cell 10
  simp [findC, hx, nxV] at f10
  have b0 := (hB).cell 0
  have b1 := (hB).cell 1
  have b2 := (hB).cell 2
  have b3 := (hB).cell 3
  have b4 := (hB).cell 4
  have bf0 := (hB).free 0
  have bf1 := (hB).free 1
  have bf2 := (hB).free 2
  have bf3 := (hB).free 3
  have bf4 := (hB).free 4
  simp at b0 b1 b2 b3 b4
  have h2 := (((((hB.set 0 (.int .i64 11)).set 1 (.int .i64 0)).set 2 (.int .i64 0)).set 3 (.slice none 0 0)).set 4 (.slice none 0 0))
  have k2 := (((((kB.setCell ⟨B, 0, none⟩ (.int .i64 11)).setCell ⟨B, 1, none⟩ (.int .i64 0)).setCell ⟨B, 2, none⟩ (.int .i64 0)).setCell ⟨B, 3, none⟩ (.slice none 0 0)).setCell ⟨B, 4, none⟩ (.slice none 0 0))
  go_wp2_with fail
  exact bodyPost_ret (v := .agg #[.int .i64 11, .int .i64 0, .int .i64 0, .slice none 0 0, .slice none 0 0]) (by simp [results, Tryz.results36, go_sem, b0, bf0, b1, bf1, b2, bf2, b3, bf3, b4, bf4]) rfl ⟨rfl, findP_I h2.tail, k2⟩
theorem find_answer_yet {w : World} {l : List HProp} {f : Nat} {D : FindD} (hs : Sat w (findP f D :: l)) (hn : D.next ≠ .no) :
    Calls Tryz.prog 36 #[.pointer (some ⟨f, 0, none⟩)] w fun x w' => x = .returned (.agg #[.int .i64 11, .int .i64 0, .int .i64 0, .slice none 0 0, .slice none 0 0]) ∧ Sat w' (findP f D :: l) ∧ Kp w w' := by
  cases hx : D.next with
  | no => exact absurd hx hn
  | down => exact find_answer_down hs hx
  | through => exact find_answer_through hs hx
set_option maxRecDepth 100000 in
set_option maxHeartbeats 2000000 in
theorem find_give_stale_down {w : World} {l : List HProp} {f : Nat} {D : FindD} {k : KidD} {b : Bool} {lh rh : Hd} {hi : Int} (hs : Sat w (findP f D :: l)) (hx : D.next = .down) (l0 : 0 ≤ D.loads) (l1 : D.loads ≤ 1000) :
    Calls Tryz.prog 41 #[.pointer (some ⟨f, 0, none⟩), .agg (nodC k b lh rh hi), .bool false] w fun x w' => x = .returned (.tuple #[]) ∧ Sat w' (findP f (staleF { D with loads := D.loads + 1 }) :: l) ∧ Kp w w' := by
  obtain ⟨vn, vs, vk, h1⟩ := findP_E hs
  have hB := h1.alloc (.cells (nodC k b lh rh hi) 75)
  have kB := (Kp.refl w).alloc (.cells (nodC k b lh rh hi) 75)
  have hw : IntKind.i64.wrap (D.loads + 1) = D.loads + 1 := by rw [IntWalk.i64_in _ (by omega)]
  have hef := fun w => run_eql_fn (P := Tryz.prog) w Tryz.underlying151 (.func 102) #[.pointer (some ⟨f, 0, none⟩)] #[]
  clear hs h1
  unfold nodC at hB kB ⊢
  go_enter Tryz.func41, Tryz.ntmps41
  go_upto_region 1 with (fail)
  generalize World.alloc _ _ = w1 at hB kB ⊢
  generalize w.heap.size = N at hB ⊢
  have hfl := (hB.pull 1).lt
  have f10 := (hB.pull 1).cell 10
  have f19 := (hB.pull 1).cell 19
  have ff10 := (hB.pull 1).free 10
  have ff19 := (hB.pull 1).free 19
  simp [findC, hx, nxV] at f10 f19
  have h2 := ((((hB.pull 1).set 19 (.int .i64 (D.loads + 1))).pull 1).tail)
  have k2 := kB.setCell ⟨f, 19, none⟩ (.int .i64 (D.loads + 1))
  have hen := find_end_stale (findP_I (D := { D with loads := D.loads + 1 }) h2)
  clear hB h2
  go_wp2_with fail
  refine hen.mono ?_
  rintro e w3 ⟨rfl, h3, k3⟩
  go_wp2_with fail
  exact bodyPost_ret (v := .tuple #[]) (by simp [results, Tryz.results41, go_sem]) rfl ⟨rfl, h3, k2.trans k3⟩
set_option maxRecDepth 100000 in
set_option maxHeartbeats 2000000 in
theorem find_give_stale_through {w : World} {l : List HProp} {f : Nat} {D : FindD} {k : KidD} {b : Bool} {lh rh : Hd} {hi : Int} (hs : Sat w (findP f D :: l)) (hx : D.next = .through) (l0 : 0 ≤ D.loads) (l1 : D.loads ≤ 1000) :
    Calls Tryz.prog 41 #[.pointer (some ⟨f, 0, none⟩), .agg (nodC k b lh rh hi), .bool false] w fun x w' => x = .returned (.tuple #[]) ∧ Sat w' (findP f (staleF { D with loads := D.loads + 1 }) :: l) ∧ Kp w w' := by
  obtain ⟨vn, vs, vk, h1⟩ := findP_E hs
  have hB := h1.alloc (.cells (nodC k b lh rh hi) 75)
  have kB := (Kp.refl w).alloc (.cells (nodC k b lh rh hi) 75)
  have hw : IntKind.i64.wrap (D.loads + 1) = D.loads + 1 := by rw [IntWalk.i64_in _ (by omega)]
  have hef := fun w => run_eql_fn (P := Tryz.prog) w Tryz.underlying151 (.func 103) #[.pointer (some ⟨f, 0, none⟩)] #[]
  clear hs h1
  unfold nodC at hB kB ⊢
  go_enter Tryz.func41, Tryz.ntmps41
  go_upto_region 1 with (fail)
  generalize World.alloc _ _ = w1 at hB kB ⊢
  generalize w.heap.size = N at hB ⊢
  have hfl := (hB.pull 1).lt
  have f10 := (hB.pull 1).cell 10
  have f19 := (hB.pull 1).cell 19
  have ff10 := (hB.pull 1).free 10
  have ff19 := (hB.pull 1).free 19
  simp [findC, hx, nxV] at f10 f19
  have h2 := ((((hB.pull 1).set 19 (.int .i64 (D.loads + 1))).pull 1).tail)
  have k2 := kB.setCell ⟨f, 19, none⟩ (.int .i64 (D.loads + 1))
  have hen := find_end_stale (findP_I (D := { D with loads := D.loads + 1 }) h2)
  clear hB h2
  go_wp2_with fail
  refine hen.mono ?_
  rintro e w3 ⟨rfl, h3, k3⟩
  go_wp2_with fail
  exact bodyPost_ret (v := .tuple #[]) (by simp [results, Tryz.results41, go_sem]) rfl ⟨rfl, h3, k2.trans k3⟩
theorem find_give_stale {w : World} {l : List HProp} {f : Nat} {D : FindD} {k : KidD} {b : Bool} {lh rh : Hd} {hi : Int} (hs : Sat w (findP f D :: l)) (hn : D.next ≠ .no) (l0 : 0 ≤ D.loads) (l1 : D.loads ≤ 1000) :
    Calls Tryz.prog 41 #[.pointer (some ⟨f, 0, none⟩), .agg (nodC k b lh rh hi), .bool false] w fun x w' => x = .returned (.tuple #[]) ∧ Sat w' (findP f (staleF { D with loads := D.loads + 1 }) :: l) ∧ Kp w w' := by
  cases hx : D.next with
  | no => exact absurd hx hn
  | down => exact find_give_stale_down hs hx l0 l1
  | through => exact find_give_stale_through hs hx l0 l1
set_option maxRecDepth 100000 in
set_option maxHeartbeats 1000000 in
theorem find_give_none {w : World} {l : List HProp} {f : Nat} {D : FindD} {k : KidD} {b ok : Bool} {lh rh : Hd} {hi : Int} (hs : Sat w (findP f D :: l)) (hn : D.next = .no) :
    Calls Tryz.prog 41 #[.pointer (some ⟨f, 0, none⟩), .agg (nodC k b lh rh hi), .bool ok] w fun x w' => x = .returned (.tuple #[]) ∧ Sat w' (findP f D :: l) ∧ Kp w w' := by
  obtain ⟨vn, vs, vk, h1⟩ := findP_E hs
  have hB := h1.alloc (.cells (nodC k b lh rh hi) 75)
  have kB := (Kp.refl w).alloc (.cells (nodC k b lh rh hi) 75)
  have hef := fun w => run_eql_fn0 (P := Tryz.prog) w Tryz.underlying151
  clear h1 hs
  unfold nodC at hB kB ⊢
  go_enter Tryz.func41, Tryz.ntmps41
  go_upto_region 1 with (fail)
  generalize World.alloc _ _ = w1 at hB kB ⊢
  generalize w.heap.size = N at hB ⊢
  have hfl := (hB.pull 1).lt
  have f10 := (hB.pull 1).cell 10
  simp [findC, hn, nxV] at f10
  go_wp2_with fail
  exact bodyPost_ret (v := .tuple #[]) (by simp [results, Tryz.results41, go_sem]) rfl ⟨rfl, findP_I hB.tail, kB⟩

end Go.Proofs.YtddglbjhhnipgaaGreatDoor

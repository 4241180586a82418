import Derived.Test.YtbnipieokpeadaaDoorSplit
namespace Go.Proofs.YtbnipieokpeadaaDoor
open Go Go.RowKit
set_option linter.unusedVariables false
set_option linter.unusedSimpArgs false

theorem len_fSt (s : ByteArray) : (fSt s).length = 1 := rfl

theorem split_ab {w : World} {l : List HProp} (hs : Sat w l) : Calls Tryd.prog 61 #[.string ⟨#[97, 47, 98]⟩, .string ⟨#[47]⟩] w fun e w' => ∃ v, e = .returned v ∧ Sat w' (rowT fSt v 9 1 [letter 0, letter 1] :: l) ∧ Kp w w' := by
  go_enter Tryd.func61, Tryd.ntmps61
  go_wp2_with fail
  refine (split_gen hs).mono ?_
  rintro e w1 ⟨v, rfl, h1, k1⟩
  go_wp2_with fail
  go_ret
  exact ⟨v, rfl, h1, k1⟩

set_option maxHeartbeats 2000000 in
set_option maxRecDepth 100000 in
theorem name_split_ab {w : World} {l : List HProp} (hs : Sat w l) : Calls Tryd.prog 43 #[.string ⟨#[47, 97, 47, 98]⟩] w fun e w' => ∃ v, e = .returned (.tuple #[v, .int .i64 0]) ∧ Sat w' (rowT fSt v 9 1 [letter 0, letter 1] :: l) ∧ Kp w w' := by
  have hne : ((⟨#[47, 97, 47, 98]⟩ : ByteArray).toList == [47]) = false := by decide +kernel
  have hx : (⟨#[47, 97, 47, 98]⟩ : ByteArray).extract 1 4 = ⟨#[97, 47, 98]⟩ := by decide +kernel
  go_enter Tryd.func43, Tryd.ntmps43
  go_wp2_with fail
  refine prefix_slash.mono ?_
  rintro e w1 ⟨rfl, rfl⟩
  go_wp2_with fail
  refine (split_ab hs).mono ?_
  rintro e w1 ⟨v, rfl, h1, k1⟩
  obtain ⟨g, off, cap, rfl⟩ := h1.tSome
  have x0 := h1.tCell len_fSt 0 0 rfl rfl
  have x1 := h1.tCell len_fSt 1 0 rfl rfl
  simp at x0 x1
  simp only [List.length_cons, List.length_nil, Nat.zero_add, Nat.reduceAdd]
  go_wp2_with fail
  refine wp_loop_rounds 3 ?_
  rw [rounds_succ]
  go_wp2_with fail
  refine (right_letter (k := 0) (by omega) h1).mono ?_
  rintro e w2 ⟨rfl, h2, k2⟩
  have x1 := h2.tCell len_fSt 1 0 rfl rfl
  simp at x1
  go_wp2_with fail
  rw [rounds_succ]
  go_wp2_with fail
  refine (right_letter (k := 1) (by omega) h2).mono ?_
  rintro e w3 ⟨rfl, h3, k3⟩
  go_wp2_with fail
  rw [rounds_succ]
  go_wp2_with fail
  go_ret2
  exact ⟨_, rfl, h3, (k1.trans k2).trans k3⟩

theorem single {α : Type} {p : α} : ∀ {l : List α}, l.Nodup → (∀ x ∈ l, x = p) → p ∈ l → l = [p]
  | [], _, _, h => by cases h
  | [x], _, h, _ => by rw [h x (List.mem_cons_self ..)]
  | x :: y :: l, hn, h, _ => by
    have h1 := h x (List.mem_cons_self ..)
    have h2 := h y (List.mem_cons_of_mem _ (List.mem_cons_self ..))
    have := (List.nodup_cons.1 hn).1
    rw [h1, h2] at this
    exact absurd (List.mem_cons_self ..) this
theorem nodup_of_map {α β : Type} (g : α → β) : ∀ {l : List α}, (l.map g).Nodup → l.Nodup
  | [], _ => List.nodup_nil
  | x :: l, h => by
    have h1 := List.nodup_cons.1 h
    exact List.nodup_cons.2 ⟨fun hx => h1.1 (List.mem_map.2 ⟨x, hx, rfl⟩), nodup_of_map g h1.2⟩
/-- Where just one thing fits, that is the list. -/
theorem kids_one {f : Int → Option Loc} {S : List (Int × Loc)} {test : Int × Loc → Bool} {p : Int × Loc} (hS : Enum f S) (hp : f p.1 = some p.2) (ht : test p = true) (ho : ∀ k s, f k = some s → test (k, s) = true → (k, s) = p) : isort klt (kidsOf test S) = [kidOf p] := by
  have h : S.filter test = [p] := by
    refine single ((nodup_of_map Prod.fst hS.nodup).filter _) (fun x hx => ?_) ?_
    · obtain ⟨h1, h2⟩ := List.mem_filter.1 hx
      exact ho x.1 x.2 (hS.mem x h1) h2
    · exact List.mem_filter.2 ⟨hS.all p.1 p.2 hp, ht⟩
  unfold kidsOf
  rw [h]
  rfl

set_option maxHeartbeats 4000000 in
set_option maxRecDepth 100000 in
/-- One step of Find down a path: the names of the node 'at'. -/
theorem find_ab {w : World} {l : List HProp} {t : Nat} {f : Int → Option Loc} {ds : List ChD} (hs : Sat w (treeP t f ds :: l)) (hF : Few f) (ha : f 256 = some ⟨0, letter 0⟩) (hb : f 257 = some ⟨256, letter 1⟩) (ho : ∀ k s, f k = some s → k = 256 ∨ k = 257) :
    Calls Tryd.prog 19 #[.pointer (some ⟨t, 0, none⟩), .string ⟨#[47, 97, 47, 98]⟩] w fun e w' => e = .returned (.tuple #[.int .i64 257, .int .i64 0]) ∧ Sat w' (treeP t f ds :: l) ∧ Kp w w' := by
  have hmf : ∀ (fn : Fn) (first cap : Array Value) (w : World), (Instr.makeFunc fn first cap).run Tryd.prog w = .ok (.func fn first cap) w := fun _ _ _ _ => rfl
  have K0 : ∀ S, Enum f S → isort klt (kidsOf (fun p => p.2.up == 0) S) = [⟨0, letter 0, 256⟩] := fun S hS => by
    refine kids_one (p := (256, ⟨0, letter 0⟩)) hS ha rfl (fun k s hk ht => ?_)
    rcases ho k s hk with rfl | rfl
    · rw [ha] at hk; cases hk; rfl
    · rw [hb] at hk; cases hk; exact absurd ht (by decide)
  have K1 : ∀ S, Enum f S → isort klt (kidsOf (fun p => p.2.up == 256) S) = [⟨256, letter 1, 257⟩] := fun S hS => by
    refine kids_one (p := (257, ⟨256, letter 1⟩)) hS hb rfl (fun k s hk ht => ?_)
    rcases ho k s hk with rfl | rfl
    · rw [ha] at hk; cases hk; exact absurd ht (by decide)
    · rw [hb] at hk; cases hk; rfl
  have eq0 : sEq (letter 0) (letter 0) = true := by decide +kernel
  have eq1 : sEq (letter 1) (letter 1) = true := by decide +kernel
  have HK0 := Lib.hid K0
  have HK1 := Lib.hid K1
  have HF := Lib.hid hF
  have E0 := Lib.hid eq0
  have E1 := Lib.hid eq1
  clear K0 K1 hF ha hb ho eq0 eq1
  go_enter Tryd.func19, Tryd.ntmps19
  go_wp2_with fail
  refine (name_split_ab hs).mono ?_
  rintro e w1 ⟨v, rfl, h0, k0⟩
  obtain ⟨g, off, cap, rfl⟩ := h0.tSome
  simp only [List.length_cons, List.length_nil, Nat.zero_add, Nat.reduceAdd] at h0 ⊢
  go_wp2_with fail
  refine wp_loop_rounds 3 ?_
  -- the first name
  rw [rounds_succ]
  have y0 := h0.tCell len_fSt 0 0 rfl rfl
  simp at y0
  have hC := h0.alloc (.cells #[.string (letter 0)] 9)
  have kC := k0.alloc (.cells #[.string (letter 0)] 9)
  go_wp2_with fail
  generalize World.alloc _ _ = w2 at hC kC ⊢
  generalize w1.heap.size = C at hC ⊢
  refine (tree_kids (hC.pull 2) HF.out).mono ?_
  rintro e w3 ⟨S, kv, hS, rfl, h3, k3⟩
  rw [HK0.out S hS] at h3
  clear hS
  go_wp2_with fail
  refine (kid_index (C := C) (nm := letter 0) (h3.pull 2 |>.pull 1) (by simp)).mono ?_
  rintro e w4 ⟨r, rfl, hr, h4, k4⟩
  have hr0 : r = 0 := by
    rcases hr with ⟨_, hno⟩ | ⟨j, k, rfl, hj, _⟩
    · have := hno _ (List.mem_cons_self ..)
      rw [E0.out] at this
      cases this
    · have := (List.getElem?_eq_some_iff.1 hj).1
      simp at this
      omega
  subst hr0
  clear hr
  obtain ⟨kg, koff, kcap, rfl⟩ := h4.tSome
  simp only [List.length_cons, List.length_nil, Nat.zero_add, Nat.reduceAdd] at h4 ⊢
  have z2 := h4.tCell len_fK 0 2 rfl rfl
  simp at z2
  go_wp2_with fail
  have h5 := h4.tail.tail
  have k5 := ((kC.trans k3).trans k4)
  clear h4 k4 h3 k3 hC kC h0 k0 y0 z2
  -- the second
  rw [rounds_succ]
  have y1 := (h5.pull 1).tCell len_fSt 1 0 rfl rfl
  simp at y1
  have hC := h5.alloc (.cells #[.string (letter 1)] 9)
  have kC := k5.alloc (.cells #[.string (letter 1)] 9)
  go_wp2_with fail
  generalize World.alloc _ _ = w5 at hC kC ⊢
  generalize w4.heap.size = C' at hC ⊢
  refine (tree_kids (hC.pull 1) HF.out).mono ?_
  rintro e w6 ⟨S', kv, hS, rfl, h3, k3⟩
  rw [HK1.out S' hS] at h3
  clear hS
  go_wp2_with fail
  refine (kid_index (C := C') (nm := letter 1) (h3.pull 2 |>.pull 1) (by simp)).mono ?_
  rintro e w7 ⟨r, rfl, hr, h4, k4⟩
  have hr0 : r = 0 := by
    rcases hr with ⟨_, hno⟩ | ⟨j, k, rfl, hj, _⟩
    · have := hno _ (List.mem_cons_self ..)
      rw [E1.out] at this
      cases this
    · have := (List.getElem?_eq_some_iff.1 hj).1
      simp at this
      omega
  subst hr0
  clear hr
  obtain ⟨kg, koff, kcap, rfl⟩ := h4.tSome
  simp only [List.length_cons, List.length_nil, Nat.zero_add, Nat.reduceAdd] at h4 ⊢
  have z2 := h4.tCell len_fK 0 2 rfl rfl
  simp at z2
  go_wp2_with fail
  rw [rounds_succ]
  go_wp2_with fail
  go_ret2
  exact ⟨rfl, (h4.tail.tail.pull 1).tail, (kC.trans k3).trans k4⟩

end Go.Proofs.YtbnipieokpeadaaDoor

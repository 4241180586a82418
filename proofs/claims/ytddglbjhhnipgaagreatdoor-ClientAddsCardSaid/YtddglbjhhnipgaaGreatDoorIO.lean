import Derived.Test.YtddglbjhhnipgaaGreatDoorIN
import Derived.Test.YtddglbjhhnipgaaGreatDoorGJ
namespace Go.Proofs.YtddglbjhhnipgaaGreatDoor
open Go Go.RowKit
set_option linter.unusedVariables false
set_option linter.unusedSimpArgs false
set_option maxRecDepth 100000
set_option maxHeartbeats 8000000
/-! ### through all that is right below a node -/
theorem rowOfT {α : Type} {f : α → List Value} {w : World} {ao : Option Addr} {n m cap : Nat} {e : TypeId} {size : Nat} {xs : List α} {l : List HProp} (hs : Sat w (rowT f (.slice ao m cap) e size xs :: l)) (hn : xs.length = n) : Sat w (row (.slice ao m cap) e size n (xs.flatMap f) :: l) := by
 unfold rowT at hs
 rw [hn] at hs
 exact hs
theorem find_through_eq {w : World} {l : List HProp} {f : Nat} {D : FindD} {k : KidD} {b : Bool} {lh rh : Hd} {hi : Int} (hs : Sat w (findP f D :: l)) (hS : D.stack.length ≤ 990) (hK : D.kids.length ≤ 11) (hc : k.up = D.at') :
   Calls Tryz.prog 103 #[.pointer (some ⟨f, 0, none⟩), .agg (nodC k b lh rh hi)] w fun e w' => e = .returned (.tuple #[]) ∧ Sat w' (findP f (throughF k lh rh D) :: l) ∧ Kp w w' := by
 obtain ⟨i1, hj, hy0, hy1, hy2⟩ := info_parts Tryz.infoKidC
 obtain ⟨i2, gj, gy0, gy1, gy2⟩ := info_parts Tryz.infoHdK
 obtain ⟨vn, vs, vk, h1⟩ := findP_E hs
 obtain ⟨sao, scap, hvs⟩ := (h1.pull 2).tLen
 obtain ⟨kao, kcap, hvk⟩ := (h1.pull 3).tLen
 obtain ⟨sn, hsn⟩ : ∃ n, n = D.stack.length := ⟨_, rfl⟩
 obtain ⟨kn, hkn⟩ : ∃ n, n = D.kids.length := ⟨_, rfl⟩
 rw [← hsn] at hvs
 rw [← hkn] at hvk
 subst hvs
 subst hvk
 have hre := fun (W : World) (l' : List HProp) (hW : Sat W (findP f { D with kids := D.kids ++ [k], stack := (D.stack ++ [lh]) ++ [rh] } :: l')) => find_rest hW (by simp only [List.length_append, List.length_cons, List.length_nil]; omega) (by simp only [List.length_append, List.length_cons, List.length_nil]; omega)
 have hF : throughF k lh rh D = restF { D with kids := D.kids ++ [k], stack := (D.stack ++ [lh]) ++ [rh] } := by
   unfold throughF noteF
   congr 1
   simp [hc]
 rw [hF]
 have HRE := Lib.hid hre
 have S0 := Lib.hid hsn.symm
 have K0 := Lib.hid hkn.symm
 have sb : sn ≤ 990 := by omega
 have kb : kn ≤ 11 := by omega
 have e1 : (k.up == D.at') = true := by simp [hc]
 have e2 : decide (D.at' ≤ k.up) = true := by simp [hc]
 have e3 : decide (k.up ≤ D.at') = true := by simp [hc]
 skip
 have hB := h1.alloc (.cells (nodC k b lh rh hi) 75)
 have kB := (Kp.refl w).alloc (.cells (nodC k b lh rh hi) 75)
 clear hre hF hs h1 hsn hkn hS hK hc
 unfold nodC at hB kB ⊢
 go_enter Tryz.func103, Tryz.ntmps103
 go_upto_region 1 with (fail)
 generalize World.alloc _ _ = w1 at hB kB ⊢
 generalize w.heap.size = N at hB ⊢
 have g1 : Sat w1 (own f (.cells (findC f D vn (.slice sao sn scap) (.slice kao kn kcap)) 153 (0, 0)) :: rowT fK (.slice kao kn kcap) 73 3 D.kids :: rowT fH (.slice sao sn scap) 56 2 D.stack :: rowT fSt vn 9 1 D.names :: own N (.cells #[.int .i64 k.up, .string k.name, .int .i64 k.node, .bool b, .int .i64 lh.s, .int .i64 lh.g, .int .i64 rh.s, .int .i64 rh.g, .int .i64 hi] 75 (0, 0)) :: l) := (((hB.pull 2).pull 3).pull 4).pull 4
 clear hB
 go_upto_region 1 with (fail)
 have n0 := (g1.pull 4).cell 0
 simp at n0
 have f7 := (g1).cell 7
 have ff7 := (g1).free 7
 simp [findC] at f7
 have hfl := g1.lt
 have hnl := (g1.pull 4).lt
 go_quiet (fail)
 have g2 := g1.drewN nq
 have k2 := kB.drewN nq
 generalize w1.drewN nq = w2 at g2 k2 ⊢
 clear g1 kB n0 f7 ff7 hfl hnl
 go_upto_region 2 with (fail)
 go_cut [] from 12 (fun wx => ∃ (a1 o1 q1 p1 : Nat), Sat wx (own f (.cells (findC f D vn (.slice sao sn scap) (.slice (some ⟨a1, o1, none⟩) q1 p1)) 153 (0, 0)) :: rowT fK (.slice (some ⟨a1, o1, none⟩) q1 p1) 73 3 (D.kids ++ [k]) :: rowT fH (.slice sao sn scap) 56 2 (D.stack) :: rowT fSt vn 9 1 D.names :: own N (.cells #[.int .i64 k.up, .string k.name, .int .i64 k.node, .bool b, .int .i64 lh.s, .int .i64 lh.g, .int .i64 rh.s, .int .i64 rh.g, .int .i64 hi] 75 (0, 0)) :: l) ∧ Kp w wx)
 case first =>
   have n0 := (g2.pull 4).cell 0
   have n1 := (g2.pull 4).cell 1
   have n2 := (g2.pull 4).cell 2
   simp at n0 n1 n2
   have f17 := (g2).cell 17
   have ff17 := (g2).free 17
   simp [findC] at f17
   have hfl := g2.lt
   have hnl := (g2.pull 4).lt
   have r1 := (rowOfT (n := kn) (g2.pull 1) K0.out).push 1
   go_region_law ((refine step_append_lit (by rfl) (.tmp 17) (.tmp 20) 26 (by rfl) 73 i1 _ 3 32 Tryz.underlying26 hj hy0 hy1 hy2 (by rfl) (by omega) _ _ _ _ _ _ _ (by rfl) (Sat.pull 2 (r1.drew.alloc (.cells #[.int .i64 k.up, .string k.name, .int .i64 k.node] 73))) 0 1 (by rfl) (by rfl) (by rfl) (by unfold maxLen; omega) (by omega) ?_; intro a1 o1 q1 p1 w3 hh kk; have e7 := (hh.pull 2).cell 17; have e8 := (hh.pull 2).free 17; simp [findC] at e7))
   all_goals
     go_wp2_with fail
     go_meet
     case rel =>
       rw [show kn + (0 + 1) = (D.kids).length + 1 by rw [K0.out]] at hh
       have h7 := Sat.tSnoc (f := fK) (x := k) hh rfl
       have h8 := (h7.pull 2).set 17 (.slice (some ⟨a1, o1, none⟩) q1 p1)
       exact ⟨a1, o1, q1, p1, (h8.pull 2).tail, ((k2.drew.alloc _).trans kk).setCell _ _⟩
 case rest =>
 obtain ⟨a1, o1, q1, p1, g3, k3⟩ := hcut
 clear g2 k2
 generalize wc = w3 at g3 k3 ⊢
 go_upto_region 3 with (fail)
 have n0 := (g3.pull 4).cell 0
 simp at n0
 have f7 := (g3).cell 7
 have ff7 := (g3).free 7
 simp [findC] at f7
 have hfl := g3.lt
 have hnl := (g3.pull 4).lt
 go_quiet (fail)
 have g4 := g3.drewN nq
 have k4 := k3.drewN nq
 generalize w3.drewN nq = w4 at g4 k4 ⊢
 clear g3 k3 n0 f7 ff7 hfl hnl
 go_upto_region 4 with (fail)
 go_cut [] from 32 (fun wx => ∃ (a2 o2 q2 p2 : Nat), Sat wx (own f (.cells (findC f D vn (.slice (some ⟨a2, o2, none⟩) q2 p2) (.slice (some ⟨a1, o1, none⟩) q1 p1)) 153 (0, 0)) :: rowT fK (.slice (some ⟨a1, o1, none⟩) q1 p1) 73 3 (D.kids ++ [k]) :: rowT fH (.slice (some ⟨a2, o2, none⟩) q2 p2) 56 2 (D.stack ++ [lh]) :: rowT fSt vn 9 1 D.names :: own N (.cells #[.int .i64 k.up, .string k.name, .int .i64 k.node, .bool b, .int .i64 lh.s, .int .i64 lh.g, .int .i64 rh.s, .int .i64 rh.g, .int .i64 hi] 75 (0, 0)) :: l) ∧ Kp w wx)
 case first =>
   have n4 := (g4.pull 4).cell 4
   have n5 := (g4.pull 4).cell 5
   simp at n4 n5
   have f13 := (g4).cell 13
   have ff13 := (g4).free 13
   simp [findC] at f13
   have hfl := g4.lt
   have hnl := (g4.pull 4).lt
   have r2 := (rowOfT (n := sn) (g4.pull 2) S0.out).push 2
   go_region_law ((refine step_append_lit (by rfl) (.tmp 37) (.tmp 40) 92 (by rfl) 56 i2 _ 2 16 Tryz.underlying92 gj gy0 gy1 gy2 (by rfl) (by omega) _ _ _ _ _ _ _ (by rfl) (Sat.pull 3 (r2.drew.alloc (.cells #[.int .i64 lh.s, .int .i64 lh.g] 56))) 0 1 (by rfl) (by rfl) (by rfl) (by unfold maxLen; omega) (by omega) ?_; intro a2 o2 q2 p2 w5 hh kk; have e7 := (hh.pull 2).cell 13; have e8 := (hh.pull 2).free 13; simp [findC] at e7))
   all_goals
     go_wp2_with fail
     go_meet
     case rel =>
       rw [show sn + (0 + 1) = (D.stack).length + 1 by rw [S0.out]] at hh
       have h7 := Sat.tSnoc (f := fH) (x := lh) hh rfl
       have h8 := (h7.pull 2).set 13 (.slice (some ⟨a2, o2, none⟩) q2 p2)
       exact ⟨a2, o2, q2, p2, (((h8.pull 2).tail.pull 2).pull 1), ((k4.drew.alloc _).trans kk).setCell _ _⟩
 case rest =>
 obtain ⟨a2, o2, q2, p2, g5, k5⟩ := hcut
 clear g4 k4
 generalize wc = w5 at g5 k5 ⊢
 go_upto_region 5 with (fail)
 have n0 := (g5.pull 4).cell 0
 simp at n0
 have f7 := (g5).cell 7
 have ff7 := (g5).free 7
 simp [findC] at f7
 have hfl := g5.lt
 have hnl := (g5.pull 4).lt
 go_quiet (fail)
 have g6 := g5.drewN nq
 have k6 := k5.drewN nq
 generalize w5.drewN nq = w6 at g6 k6 ⊢
 clear g5 k5 n0 f7 ff7 hfl hnl
 go_upto_region 6 with (fail)
 go_cut [] from 51 (fun wx => ∃ (a3 o3 q3 p3 : Nat), Sat wx (own f (.cells (findC f D vn (.slice (some ⟨a3, o3, none⟩) q3 p3) (.slice (some ⟨a1, o1, none⟩) q1 p1)) 153 (0, 0)) :: rowT fK (.slice (some ⟨a1, o1, none⟩) q1 p1) 73 3 (D.kids ++ [k]) :: rowT fH (.slice (some ⟨a3, o3, none⟩) q3 p3) 56 2 (D.stack ++ [lh] ++ [rh]) :: rowT fSt vn 9 1 D.names :: own N (.cells #[.int .i64 k.up, .string k.name, .int .i64 k.node, .bool b, .int .i64 lh.s, .int .i64 lh.g, .int .i64 rh.s, .int .i64 rh.g, .int .i64 hi] 75 (0, 0)) :: l) ∧ Kp w wx)
 case first =>
   have n6 := (g6.pull 4).cell 6
   have n7 := (g6.pull 4).cell 7
   simp at n6 n7
   have f13 := (g6).cell 13
   have ff13 := (g6).free 13
   simp [findC] at f13
   have hfl := g6.lt
   have hnl := (g6.pull 4).lt
   have r3 := (rowOfT (n := sn + 1) (g6.pull 2) (show (D.stack ++ [lh]).length = sn + 1 by rw [List.length_append, S0.out]; rfl)).push 2
   go_region_law ((refine step_append_lit (by rfl) (.tmp 56) (.tmp 59) 92 (by rfl) 56 i2 _ 2 16 Tryz.underlying92 gj gy0 gy1 gy2 (by rfl) (by omega) _ _ _ _ _ _ _ (by rfl) (Sat.pull 3 (r3.drew.alloc (.cells #[.int .i64 rh.s, .int .i64 rh.g] 56))) 0 1 (by rfl) (by rfl) (by rfl) (by unfold maxLen; omega) (by omega) ?_; intro a3 o3 q3 p3 w7 hh kk; have e7 := (hh.pull 2).cell 13; have e8 := (hh.pull 2).free 13; simp [findC] at e7))
   all_goals
     go_wp2_with fail
     go_meet
     case rel =>
       rw [show sn + 1 + (0 + 1) = (D.stack ++ [lh]).length + 1 by rw [(show (D.stack ++ [lh]).length = sn + 1 by rw [List.length_append, S0.out]; rfl)]] at hh
       have h7 := Sat.tSnoc (f := fH) (x := rh) hh rfl
       have h8 := (h7.pull 2).set 13 (.slice (some ⟨a3, o3, none⟩) q3 p3)
       exact ⟨a3, o3, q3, p3, (((h8.pull 2).tail.pull 2).pull 1), ((k6.drew.alloc _).trans kk).setCell _ _⟩
 case rest =>
 obtain ⟨a3, o3, q3, p3, g7, k7⟩ := hcut
 clear g6 k6
 generalize wc = w7 at g7 k7 ⊢
 have hre := HRE.out _ _ (findP_I (D := { D with kids := D.kids ++ [k], stack := (D.stack ++ [lh]) ++ [rh] }) ((((((g7.pull 4).tail).pull 1).pull 2).pull 3).pull 3))
 clear g7
 go_wp2_with fail
 refine hre.mono ?_
 rintro e w9 ⟨rfl, h9, k9⟩
 go_wp2_with fail
 go_end0
 exact ⟨rfl, h9, k7.trans k9⟩
theorem find_through_gt {w : World} {l : List HProp} {f : Nat} {D : FindD} {k : KidD} {b : Bool} {lh rh : Hd} {hi : Int} (hs : Sat w (findP f D :: l)) (hS : D.stack.length ≤ 990) (hK : D.kids.length ≤ 11) (hc : D.at' < k.up) :
   Calls Tryz.prog 103 #[.pointer (some ⟨f, 0, none⟩), .agg (nodC k b lh rh hi)] w fun e w' => e = .returned (.tuple #[]) ∧ Sat w' (findP f (throughF k lh rh D) :: l) ∧ Kp w w' := by
 obtain ⟨i1, hj, hy0, hy1, hy2⟩ := info_parts Tryz.infoKidC
 obtain ⟨i2, gj, gy0, gy1, gy2⟩ := info_parts Tryz.infoHdK
 obtain ⟨vn, vs, vk, h1⟩ := findP_E hs
 obtain ⟨sao, scap, hvs⟩ := (h1.pull 2).tLen
 obtain ⟨kao, kcap, hvk⟩ := (h1.pull 3).tLen
 obtain ⟨sn, hsn⟩ : ∃ n, n = D.stack.length := ⟨_, rfl⟩
 obtain ⟨kn, hkn⟩ : ∃ n, n = D.kids.length := ⟨_, rfl⟩
 rw [← hsn] at hvs
 rw [← hkn] at hvk
 subst hvs
 subst hvk
 have hre := fun (W : World) (l' : List HProp) (hW : Sat W (findP f { D with stack := D.stack ++ [lh] } :: l')) => find_rest hW (by simp only [List.length_append, List.length_cons, List.length_nil]; omega) (by simp only [List.length_append, List.length_cons, List.length_nil]; omega)
 have hF : throughF k lh rh D = restF { D with stack := D.stack ++ [lh] } := by
   unfold throughF noteF
   congr 1
   have h1 : ¬ k.up = D.at' := by omega
   have h2 : D.at' ≤ k.up := by omega
   have h3 : ¬ k.up ≤ D.at' := by omega
   simp [h1, h2, h3]
 rw [hF]
 have HRE := Lib.hid hre
 have S0 := Lib.hid hsn.symm
 have K0 := Lib.hid hkn.symm
 have sb : sn ≤ 990 := by omega
 have kb : kn ≤ 11 := by omega
 have e1 : (k.up == D.at') = false := by (first | (rw [beq_eq_false_iff_ne]; omega) | (rw [decide_eq_true_iff]; omega) | (rw [decide_eq_false_iff_not]; omega))
 have e2 : decide (D.at' ≤ k.up) = true := by (first | (rw [beq_eq_false_iff_ne]; omega) | (rw [decide_eq_true_iff]; omega) | (rw [decide_eq_false_iff_not]; omega))
 have e3 : decide (k.up ≤ D.at') = false := by (first | (rw [beq_eq_false_iff_ne]; omega) | (rw [decide_eq_true_iff]; omega) | (rw [decide_eq_false_iff_not]; omega))
 skip
 have hB := h1.alloc (.cells (nodC k b lh rh hi) 75)
 have kB := (Kp.refl w).alloc (.cells (nodC k b lh rh hi) 75)
 clear hre hF hs h1 hsn hkn hS hK hc
 unfold nodC at hB kB ⊢
 go_enter Tryz.func103, Tryz.ntmps103
 go_upto_region 1 with (fail)
 generalize World.alloc _ _ = w1 at hB kB ⊢
 generalize w.heap.size = N at hB ⊢
 have g1 : Sat w1 (own f (.cells (findC f D vn (.slice sao sn scap) (.slice kao kn kcap)) 153 (0, 0)) :: rowT fK (.slice kao kn kcap) 73 3 D.kids :: rowT fH (.slice sao sn scap) 56 2 D.stack :: rowT fSt vn 9 1 D.names :: own N (.cells #[.int .i64 k.up, .string k.name, .int .i64 k.node, .bool b, .int .i64 lh.s, .int .i64 lh.g, .int .i64 rh.s, .int .i64 rh.g, .int .i64 hi] 75 (0, 0)) :: l) := (((hB.pull 2).pull 3).pull 4).pull 4
 clear hB
 go_upto_region 1 with (fail)
 have n0 := (g1.pull 4).cell 0
 simp at n0
 have f7 := (g1).cell 7
 have ff7 := (g1).free 7
 simp [findC] at f7
 have hfl := g1.lt
 have hnl := (g1.pull 4).lt
 go_quiet (fail)
 have g2 := g1.drewN nq
 have k2 := kB.drewN nq
 generalize w1.drewN nq = w2 at g2 k2 ⊢
 clear g1 kB n0 f7 ff7 hfl hnl
 go_upto_region 3 with (fail)
 have n0 := (g2.pull 4).cell 0
 simp at n0
 have f7 := (g2).cell 7
 have ff7 := (g2).free 7
 simp [findC] at f7
 have hfl := g2.lt
 have hnl := (g2.pull 4).lt
 go_quiet (fail)
 have g3 := g2.drewN nq
 have k3 := k2.drewN nq
 generalize w2.drewN nq = w3 at g3 k3 ⊢
 clear g2 k2 n0 f7 ff7 hfl hnl
 go_upto_region 4 with (fail)
 go_cut [] from 32 (fun wx => ∃ (a1 o1 q1 p1 : Nat), Sat wx (own f (.cells (findC f D vn (.slice (some ⟨a1, o1, none⟩) q1 p1) (.slice kao kn kcap)) 153 (0, 0)) :: rowT fK (.slice kao kn kcap) 73 3 (D.kids) :: rowT fH (.slice (some ⟨a1, o1, none⟩) q1 p1) 56 2 (D.stack ++ [lh]) :: rowT fSt vn 9 1 D.names :: own N (.cells #[.int .i64 k.up, .string k.name, .int .i64 k.node, .bool b, .int .i64 lh.s, .int .i64 lh.g, .int .i64 rh.s, .int .i64 rh.g, .int .i64 hi] 75 (0, 0)) :: l) ∧ Kp w wx)
 case first =>
   have n4 := (g3.pull 4).cell 4
   have n5 := (g3.pull 4).cell 5
   simp at n4 n5
   have f13 := (g3).cell 13
   have ff13 := (g3).free 13
   simp [findC] at f13
   have hfl := g3.lt
   have hnl := (g3.pull 4).lt
   have r1 := (rowOfT (n := sn) (g3.pull 2) S0.out).push 2
   go_region_law ((refine step_append_lit (by rfl) (.tmp 37) (.tmp 40) 92 (by rfl) 56 i2 _ 2 16 Tryz.underlying92 gj gy0 gy1 gy2 (by rfl) (by omega) _ _ _ _ _ _ _ (by rfl) (Sat.pull 3 (r1.drew.alloc (.cells #[.int .i64 lh.s, .int .i64 lh.g] 56))) 0 1 (by rfl) (by rfl) (by rfl) (by unfold maxLen; omega) (by omega) ?_; intro a1 o1 q1 p1 w4 hh kk; have e7 := (hh.pull 2).cell 13; have e8 := (hh.pull 2).free 13; simp [findC] at e7))
   all_goals
     go_wp2_with fail
     go_meet
     case rel =>
       rw [show sn + (0 + 1) = (D.stack).length + 1 by rw [S0.out]] at hh
       have h7 := Sat.tSnoc (f := fH) (x := lh) hh rfl
       have h8 := (h7.pull 2).set 13 (.slice (some ⟨a1, o1, none⟩) q1 p1)
       exact ⟨a1, o1, q1, p1, (((h8.pull 2).tail.pull 2).pull 1), ((k3.drew.alloc _).trans kk).setCell _ _⟩
 case rest =>
 obtain ⟨a1, o1, q1, p1, g4, k4⟩ := hcut
 clear g3 k3
 generalize wc = w4 at g4 k4 ⊢
 go_upto_region 5 with (fail)
 have n0 := (g4.pull 4).cell 0
 simp at n0
 have f7 := (g4).cell 7
 have ff7 := (g4).free 7
 simp [findC] at f7
 have hfl := g4.lt
 have hnl := (g4.pull 4).lt
 go_quiet (fail)
 have g5 := g4.drewN nq
 have k5 := k4.drewN nq
 generalize w4.drewN nq = w5 at g5 k5 ⊢
 clear g4 k4 n0 f7 ff7 hfl hnl
 have hre := HRE.out _ _ (findP_I (D := { D with stack := D.stack ++ [lh] }) ((((((g5.pull 4).tail).pull 1).pull 2).pull 3).pull 3))
 clear g5
 go_wp2_with fail
 refine hre.mono ?_
 rintro e w9 ⟨rfl, h9, k9⟩
 go_wp2_with fail
 go_end0
 exact ⟨rfl, h9, k5.trans k9⟩
theorem find_through_lt {w : World} {l : List HProp} {f : Nat} {D : FindD} {k : KidD} {b : Bool} {lh rh : Hd} {hi : Int} (hs : Sat w (findP f D :: l)) (hS : D.stack.length ≤ 990) (hK : D.kids.length ≤ 11) (hc : k.up < D.at') :
   Calls Tryz.prog 103 #[.pointer (some ⟨f, 0, none⟩), .agg (nodC k b lh rh hi)] w fun e w' => e = .returned (.tuple #[]) ∧ Sat w' (findP f (throughF k lh rh D) :: l) ∧ Kp w w' := by
 obtain ⟨i1, hj, hy0, hy1, hy2⟩ := info_parts Tryz.infoKidC
 obtain ⟨i2, gj, gy0, gy1, gy2⟩ := info_parts Tryz.infoHdK
 obtain ⟨vn, vs, vk, h1⟩ := findP_E hs
 obtain ⟨sao, scap, hvs⟩ := (h1.pull 2).tLen
 obtain ⟨kao, kcap, hvk⟩ := (h1.pull 3).tLen
 obtain ⟨sn, hsn⟩ : ∃ n, n = D.stack.length := ⟨_, rfl⟩
 obtain ⟨kn, hkn⟩ : ∃ n, n = D.kids.length := ⟨_, rfl⟩
 rw [← hsn] at hvs
 rw [← hkn] at hvk
 subst hvs
 subst hvk
 have hre := fun (W : World) (l' : List HProp) (hW : Sat W (findP f { D with stack := D.stack ++ [rh] } :: l')) => find_rest hW (by simp only [List.length_append, List.length_cons, List.length_nil]; omega) (by simp only [List.length_append, List.length_cons, List.length_nil]; omega)
 have hF : throughF k lh rh D = restF { D with stack := D.stack ++ [rh] } := by
   unfold throughF noteF
   congr 1
   have h1 : ¬ k.up = D.at' := by omega
   have h2 : ¬ D.at' ≤ k.up := by omega
   have h3 : k.up ≤ D.at' := by omega
   simp [h1, h2, h3]
 rw [hF]
 have HRE := Lib.hid hre
 have S0 := Lib.hid hsn.symm
 have K0 := Lib.hid hkn.symm
 have sb : sn ≤ 990 := by omega
 have kb : kn ≤ 11 := by omega
 have e1 : (k.up == D.at') = false := by (first | (rw [beq_eq_false_iff_ne]; omega) | (rw [decide_eq_true_iff]; omega) | (rw [decide_eq_false_iff_not]; omega))
 have e2 : decide (D.at' ≤ k.up) = false := by (first | (rw [beq_eq_false_iff_ne]; omega) | (rw [decide_eq_true_iff]; omega) | (rw [decide_eq_false_iff_not]; omega))
 have e3 : decide (k.up ≤ D.at') = true := by (first | (rw [beq_eq_false_iff_ne]; omega) | (rw [decide_eq_true_iff]; omega) | (rw [decide_eq_false_iff_not]; omega))
 skip
 have hB := h1.alloc (.cells (nodC k b lh rh hi) 75)
 have kB := (Kp.refl w).alloc (.cells (nodC k b lh rh hi) 75)
 clear hre hF hs h1 hsn hkn hS hK hc
 unfold nodC at hB kB ⊢
 go_enter Tryz.func103, Tryz.ntmps103
 go_upto_region 1 with (fail)
 generalize World.alloc _ _ = w1 at hB kB ⊢
 generalize w.heap.size = N at hB ⊢
 have g1 : Sat w1 (own f (.cells (findC f D vn (.slice sao sn scap) (.slice kao kn kcap)) 153 (0, 0)) :: rowT fK (.slice kao kn kcap) 73 3 D.kids :: rowT fH (.slice sao sn scap) 56 2 D.stack :: rowT fSt vn 9 1 D.names :: own N (.cells #[.int .i64 k.up, .string k.name, .int .i64 k.node, .bool b, .int .i64 lh.s, .int .i64 lh.g, .int .i64 rh.s, .int .i64 rh.g, .int .i64 hi] 75 (0, 0)) :: l) := (((hB.pull 2).pull 3).pull 4).pull 4
 clear hB
 go_upto_region 1 with (fail)
 have n0 := (g1.pull 4).cell 0
 simp at n0
 have f7 := (g1).cell 7
 have ff7 := (g1).free 7
 simp [findC] at f7
 have hfl := g1.lt
 have hnl := (g1.pull 4).lt
 go_quiet (fail)
 have g2 := g1.drewN nq
 have k2 := kB.drewN nq
 generalize w1.drewN nq = w2 at g2 k2 ⊢
 clear g1 kB n0 f7 ff7 hfl hnl
 go_upto_region 3 with (fail)
 have n0 := (g2.pull 4).cell 0
 simp at n0
 have f7 := (g2).cell 7
 have ff7 := (g2).free 7
 simp [findC] at f7
 have hfl := g2.lt
 have hnl := (g2.pull 4).lt
 go_quiet (fail)
 have g3 := g2.drewN nq
 have k3 := k2.drewN nq
 generalize w2.drewN nq = w3 at g3 k3 ⊢
 clear g2 k2 n0 f7 ff7 hfl hnl
 go_upto_region 5 with (fail)
 have n0 := (g3.pull 4).cell 0
 simp at n0
 have f7 := (g3).cell 7
 have ff7 := (g3).free 7
 simp [findC] at f7
 have hfl := g3.lt
 have hnl := (g3.pull 4).lt
 go_quiet (fail)
 have g4 := g3.drewN nq
 have k4 := k3.drewN nq
 generalize w3.drewN nq = w4 at g4 k4 ⊢
 clear g3 k3 n0 f7 ff7 hfl hnl
 go_upto_region 6 with (fail)
 go_cut [] from 51 (fun wx => ∃ (a1 o1 q1 p1 : Nat), Sat wx (own f (.cells (findC f D vn (.slice (some ⟨a1, o1, none⟩) q1 p1) (.slice kao kn kcap)) 153 (0, 0)) :: rowT fK (.slice kao kn kcap) 73 3 (D.kids) :: rowT fH (.slice (some ⟨a1, o1, none⟩) q1 p1) 56 2 (D.stack ++ [rh]) :: rowT fSt vn 9 1 D.names :: own N (.cells #[.int .i64 k.up, .string k.name, .int .i64 k.node, .bool b, .int .i64 lh.s, .int .i64 lh.g, .int .i64 rh.s, .int .i64 rh.g, .int .i64 hi] 75 (0, 0)) :: l) ∧ Kp w wx)
 case first =>
   have n6 := (g4.pull 4).cell 6
   have n7 := (g4.pull 4).cell 7
   simp at n6 n7
   have f13 := (g4).cell 13
   have ff13 := (g4).free 13
   simp [findC] at f13
   have hfl := g4.lt
   have hnl := (g4.pull 4).lt
   have r1 := (rowOfT (n := sn) (g4.pull 2) S0.out).push 2
   go_region_law ((refine step_append_lit (by rfl) (.tmp 56) (.tmp 59) 92 (by rfl) 56 i2 _ 2 16 Tryz.underlying92 gj gy0 gy1 gy2 (by rfl) (by omega) _ _ _ _ _ _ _ (by rfl) (Sat.pull 3 (r1.drew.alloc (.cells #[.int .i64 rh.s, .int .i64 rh.g] 56))) 0 1 (by rfl) (by rfl) (by rfl) (by unfold maxLen; omega) (by omega) ?_; intro a1 o1 q1 p1 w5 hh kk; have e7 := (hh.pull 2).cell 13; have e8 := (hh.pull 2).free 13; simp [findC] at e7))
   all_goals
     go_wp2_with fail
     go_meet
     case rel =>
       rw [show sn + (0 + 1) = (D.stack).length + 1 by rw [S0.out]] at hh
       have h7 := Sat.tSnoc (f := fH) (x := rh) hh rfl
       have h8 := (h7.pull 2).set 13 (.slice (some ⟨a1, o1, none⟩) q1 p1)
       exact ⟨a1, o1, q1, p1, (((h8.pull 2).tail.pull 2).pull 1), ((k4.drew.alloc _).trans kk).setCell _ _⟩
 case rest =>
 obtain ⟨a1, o1, q1, p1, g5, k5⟩ := hcut
 clear g4 k4
 generalize wc = w5 at g5 k5 ⊢
 have hre := HRE.out _ _ (findP_I (D := { D with stack := D.stack ++ [rh] }) ((((((g5.pull 4).tail).pull 1).pull 2).pull 3).pull 3))
 clear g5
 go_wp2_with fail
 refine hre.mono ?_
 rintro e w9 ⟨rfl, h9, k9⟩
 go_wp2_with fail
 go_end0
 exact ⟨rfl, h9, k5.trans k9⟩
theorem find_through {w : World} {l : List HProp} {f : Nat} {D : FindD} {k : KidD} {b : Bool} {lh rh : Hd} {hi : Int} (hs : Sat w (findP f D :: l)) (hS : D.stack.length ≤ 990) (hK : D.kids.length ≤ 11) :
   Calls Tryz.prog 103 #[.pointer (some ⟨f, 0, none⟩), .agg (nodC k b lh rh hi)] w fun e w' => e = .returned (.tuple #[]) ∧ Sat w' (findP f (throughF k lh rh D) :: l) ∧ Kp w w' := by
 rcases Int.lt_trichotomy k.up D.at' with h | h | h
 · exact find_through_lt hs hS hK h
 · exact find_through_eq hs hS hK h
 · exact find_through_gt hs hS hK h
/-! ### what is wanted, and given -/
def moreF (D : FindD) : Bool := match D.next with | .no => false | _ => true
theorem find_want {w : World} {l : List HProp} {f : Nat} {D : FindD} (hs : Sat w (findP f D :: l)) :
   Calls Tryz.prog 35 #[.pointer (some ⟨f, 0, none⟩)] w fun x w' => x = .returned (.tuple #[.agg #[.int .i64 D.want.s, .int .i64 D.want.g], .bool (moreF D)]) ∧ Sat w' (findP f D :: l) ∧ Kp w w' := by
 cases hn : D.next with
 | no =>
   have e : moreF D = false := by unfold moreF; rw [hn]
   rw [e]
   exact find_want_no hs hn
 | down =>
   have e : moreF D = true := by unfold moreF; rw [hn]
   rw [e]
   obtain ⟨vn, vs, vk, h1⟩ := findP_E hs
   have hB := h1.alloc (.cells #[.int .i64 0, .int .i64 0] 56)
   have kB := (Kp.refl w).alloc (.cells #[.int .i64 0, .int .i64 0] 56)
   go_enter Tryz.func35, Tryz.ntmps35
   go_upto_region 1 with (fail)
   generalize World.alloc _ _ = w1 at hB kB ⊢
   generalize w.heap.size = B at hB ⊢
   have f8 := (hB.pull 1).cell 8
   have f9 := (hB.pull 1).cell 9
   have f10 := (hB.pull 1).cell 10
   simp [findC, hn, nxV] at f8 f9 f10
   have b0 := (hB).cell 0
   have b1 := (hB).cell 1
   have bf0 := (hB).free 0
   have bf1 := (hB).free 1
   simp at b0 b1
   have hbl := hB.lt
   have hfl := (hB.pull 1).lt
   have hne := hB.ne
   have hne2 := hne.symm
   have hnf := fun w => run_neq_fn (P := Tryz.prog) w Tryz.underlying151 (.func 102) #[.pointer (some ⟨f, 0, none⟩)] #[]
   go_region_held3 (fun w' => w'.cell? ⟨f, 8, none⟩ = some (.int .i64 D.want.s) ∧ w'.cell? ⟨f, 9, none⟩ = some (.int .i64 D.want.g) ∧ w'.cell? ⟨f, 10, none⟩ = some (.func (.func 102) #[.pointer (some ⟨f, 0, none⟩)] #[])) (first | go_keep | exact ⟨f8, f9, f10⟩) ((fail))
   all_goals
     have h2 := (((hB.set 0 (.int .i64 D.want.s)).set 1 (.int .i64 D.want.g))).drew
     go_wp2_with fail
     exact bodyPost_ret (v := .tuple #[.agg #[.int .i64 D.want.s, .int .i64 D.want.g], .bool true]) (by simp [results, Tryz.results35, go_sem, b0, b1, bf0, bf1]) rfl ⟨rfl, findP_I h2.tail, ((kB.setCell _ _).setCell _ _).drew⟩
 | through =>
   have e : moreF D = true := by unfold moreF; rw [hn]
   rw [e]
   obtain ⟨vn, vs, vk, h1⟩ := findP_E hs
   have hB := h1.alloc (.cells #[.int .i64 0, .int .i64 0] 56)
   have kB := (Kp.refl w).alloc (.cells #[.int .i64 0, .int .i64 0] 56)
   go_enter Tryz.func35, Tryz.ntmps35
   go_upto_region 1 with (fail)
   generalize World.alloc _ _ = w1 at hB kB ⊢
   generalize w.heap.size = B at hB ⊢
   have f8 := (hB.pull 1).cell 8
   have f9 := (hB.pull 1).cell 9
   have f10 := (hB.pull 1).cell 10
   simp [findC, hn, nxV] at f8 f9 f10
   have b0 := (hB).cell 0
   have b1 := (hB).cell 1
   have bf0 := (hB).free 0
   have bf1 := (hB).free 1
   simp at b0 b1
   have hbl := hB.lt
   have hfl := (hB.pull 1).lt
   have hne := hB.ne
   have hne2 := hne.symm
   have hnf := fun w => run_neq_fn (P := Tryz.prog) w Tryz.underlying151 (.func 103) #[.pointer (some ⟨f, 0, none⟩)] #[]
   go_region_held3 (fun w' => w'.cell? ⟨f, 8, none⟩ = some (.int .i64 D.want.s) ∧ w'.cell? ⟨f, 9, none⟩ = some (.int .i64 D.want.g) ∧ w'.cell? ⟨f, 10, none⟩ = some (.func (.func 103) #[.pointer (some ⟨f, 0, none⟩)] #[])) (first | go_keep | exact ⟨f8, f9, f10⟩) ((fail))
   all_goals
     have h2 := (((hB.set 0 (.int .i64 D.want.s)).set 1 (.int .i64 D.want.g))).drew
     go_wp2_with fail
     exact bodyPost_ret (v := .tuple #[.agg #[.int .i64 D.want.s, .int .i64 D.want.g], .bool true]) (by simp [results, Tryz.results35, go_sem, b0, b1, bf0, bf1]) rfl ⟨rfl, findP_I h2.tail, ((kB.setCell _ _).setCell _ _).drew⟩
/-- A node isn't there. -/
def staleF (D : FindD) : FindD := { D with want := Hd.nil, next := .no, e := 11, ver := 0, node := 0, kids := [] }
theorem find_end_stale {w : World} {l : List HProp} {f : Nat} {D : FindD} (hs : Sat w (findP f D :: l)) :
   Calls Tryz.prog 74 #[.pointer (some ⟨f, 0, none⟩), .int .i64 11] w fun x w' => x = .returned (.tuple #[]) ∧ Sat w' (findP f (staleF D) :: l) ∧ Kp w w' := by
 obtain ⟨vn, vs, vk, h1⟩ := findP_E hs
 have f0 := (h1).cell 0
 have f3 := (h1).cell 3
 have f7 := (h1).cell 7
 have f8 := (h1).cell 8
 have f9 := (h1).cell 9
 have f10 := (h1).cell 10
 have f14 := (h1).cell 14
 have f15 := (h1).cell 15
 have f16 := (h1).cell 16
 have f17 := (h1).cell 17
 have f18 := (h1).cell 18
 have ff0 := (h1).free 0
 have ff3 := (h1).free 3
 have ff7 := (h1).free 7
 have ff8 := (h1).free 8
 have ff9 := (h1).free 9
 have ff10 := (h1).free 10
 have ff14 := (h1).free 14
 have ff15 := (h1).free 15
 have ff16 := (h1).free 16
 have ff17 := (h1).free 17
 have ff18 := (h1).free 18
 simp [findC] at f0 f3 f7 f8 f9 f10 f14 f15 f16 f17 f18
 have hfl := h1.lt
 have h2 : Sat _ (own f (.cells (findC f { D with want := Hd.nil, next := .no, e := 11 } vn vs vk) 153 (0, 0)) :: rowT fSt vn 9 1 D.names :: rowT fH vs 56 2 D.stack :: rowT fK vk 73 3 D.kids :: l) := ((((h1.set 8 (.int .i64 0)).set 9 (.int .i64 0)).set 10 .nilFunc).set 14 (.int .i64 11))
 have h2 : Sat _ (own f (.cells (findC f { D with want := Hd.nil, next := .no, e := 11, ver := 0, node := 0 } vn vs vk) 153 (0, 0)) :: rowT fSt vn 9 1 D.names :: rowT fH vs 56 2 D.stack :: rowT fK vk 73 3 D.kids :: l) := ((h2.set 14 (.int .i64 11)).set 15 (.int .i64 0)).set 16 (.int .i64 0)
 have h2 : Sat _ (own f (.cells (findC f { D with want := Hd.nil, next := .no, e := 11, ver := 0, node := 0 } vn vs (.slice none 0 0)) 153 (0, 0)) :: rowT fSt vn 9 1 D.names :: rowT fH vs 56 2 D.stack :: rowT fK vk 73 3 D.kids :: l) := (h2.set 17 (.slice none 0 0)).set 18 (.slice none 0 0)
 have k2 := (((((((((Kp.refl w).setCell ⟨f, 8, none⟩ (.int .i64 0)).setCell ⟨f, 9, none⟩ (.int .i64 0)).setCell ⟨f, 10, none⟩ .nilFunc).setCell ⟨f, 14, none⟩ (.int .i64 11)).setCell ⟨f, 14, none⟩ (.int .i64 11)).setCell ⟨f, 15, none⟩ (.int .i64 0)).setCell ⟨f, 16, none⟩ (.int .i64 0)).setCell ⟨f, 17, none⟩ (.slice none 0 0)).setCell ⟨f, 18, none⟩ (.slice none 0 0)
 have h3 := findP_I (D := staleF D) ((((h2.pull 3).tail).tNil fK 73 3).push 3)
 go_enter Tryz.func74, Tryz.ntmps74
 go_wp2_with fail
 exact bodyPost_ret (v := .tuple #[]) (by simp [results, Tryz.results74, go_sem]) rfl ⟨rfl, h3, k2⟩
theorem giveS {w : World} {l : List HProp} {f N : Nat} {D : FindD} {vn vs vk : Value} {k : KidD} {b : Bool} {lh rh : Hd} {hi : Int} {tn tf : TypeId}
   (h : Sat w (own f (.cells (findC f D vn vs vk) tf (0, 0)) :: own N (.cells (nodC k b lh rh hi) tn (0, 0)) :: l)) :
   w.cell? ⟨f, 10, none⟩ = some (nxV f D.next) ∧ w.cell? ⟨N, 0, none⟩ = some (.int .i64 k.up) ∧ w.cell? ⟨N, 1, none⟩ = some (.string k.name) ∧ w.cell? ⟨N, 2, none⟩ = some (.int .i64 k.node) ∧ w.cell? ⟨N, 3, none⟩ = some (.bool b) ∧ w.cell? ⟨N, 4, none⟩ = some (.int .i64 lh.s) ∧ w.cell? ⟨N, 5, none⟩ = some (.int .i64 lh.g) ∧ w.cell? ⟨N, 6, none⟩ = some (.int .i64 rh.s) ∧ w.cell? ⟨N, 7, none⟩ = some (.int .i64 rh.g) ∧ w.cell? ⟨N, 8, none⟩ = some (.int .i64 hi) :=
 ⟨h.cell 10, (h.pull 1).cell 0, (h.pull 1).cell 1, (h.pull 1).cell 2, (h.pull 1).cell 3, (h.pull 1).cell 4, (h.pull 1).cell 5, (h.pull 1).cell 6, (h.pull 1).cell 7, (h.pull 1).cell 8⟩
theorem find_give_down {w : World} {l : List HProp} {f : Nat} {D : FindD} {k : KidD} {b : Bool} {lh rh : Hd} {hi : Int} {x : ByteArray} {r : List ByteArray} (hs : Sat w (findP f D :: l)) (hS : D.stack.length ≤ 990) (hK : D.kids.length ≤ 11) (hx : D.next = .down) (l0 : 0 ≤ D.loads) (l1 : D.loads ≤ 1000) (hn : D.names = x :: r) :
   Calls Tryz.prog 41 #[.pointer (some ⟨f, 0, none⟩), .agg (nodC k b lh rh hi), .bool true] w fun x w' => x = .returned (.tuple #[]) ∧ Sat w' (findP f (giveF k lh rh D) :: l) ∧ Kp w w' := by
 have hg : giveF k lh rh D = downF k lh rh x { D with loads := D.loads + 1 } := giveF_down hx hn
 rw [hg]
 obtain ⟨vn, vs, vk, h1⟩ := findP_E hs
 have hB := h1.alloc (.cells (nodC k b lh rh hi) 75)
 have kB := (Kp.refl w).alloc (.cells (nodC k b lh rh hi) 75)
 have hcall := fun (W : World) (l' : List HProp) (hW : Sat W (findP f { D with loads := D.loads + 1 } :: l')) => find_down (k := k) (b := b) (lh := lh) (rh := rh) (hi := hi) hW (by exact (show D.stack.length ≤ 1000 by omega)) (by exact (show D.kids.length ≤ 12 by omega)) hn
 unfold nodC at hcall
 have HC := Lib.hid hcall
 have hw : IntKind.i64.wrap (D.loads + 1) = D.loads + 1 := by rw [IntWalk.i64_in _ (by omega)]
 have hef := fun w => run_eql_fn (P := Tryz.prog) w Tryz.underlying151 (.func 102) #[.pointer (some ⟨f, 0, none⟩)] #[]
 clear hs h1 hg hcall
 unfold nodC at hB kB ⊢
 go_enter Tryz.func41, Tryz.ntmps41
 go_upto_region 1 with (fail)
 generalize World.alloc _ _ = w1 at hB kB ⊢
 generalize w.heap.size = N at hB ⊢
 have hfl := (hB.pull 1).lt
 have f10 := (hB.pull 1).cell 10
 have f19 := (hB.pull 1).cell 19
 have ff10 := (hB.pull 1).free 10
 have ff19 := (hB.pull 1).free 19
 simp [findC, hx, nxV] at f10 f19
 have h2 := ((hB.pull 1).set 19 (.int .i64 (D.loads + 1)))
 have k2 := kB.setCell ⟨f, 19, none⟩ (.int .i64 (D.loads + 1))
 go_upto_region 5 with (fail)
 clear hB kB f10 ff10 f19 ff19 hfl
 generalize World.setCell _ _ _ = w2 at h2 k2 ⊢
 have hca := HC.out _ _ (findP_I (D := { D with loads := D.loads + 1 }) (h2.drew.pull 1).tail)
 have S0 := giveS (D := { D with loads := D.loads + 1 }) h2
 dsimp only at S0
 rw [hx] at S0
 unfold nxV at S0
 dsimp only at S0
 have HS0 := Lib.hid S0
 obtain ⟨a0, a1, a2, a3, a4, a5, a6, a7, a8, a9⟩ := S0
 go_region_with ((go_at_call 102; (with_reducible refine hca.mono ?_); rintro x1 w5 ⟨rfl, h6, k6⟩))
 all_goals
   go_wp2_with fail
   go_end0
   exact ⟨rfl, h6, k2.drew.trans k6⟩
theorem find_give_through {w : World} {l : List HProp} {f : Nat} {D : FindD} {k : KidD} {b : Bool} {lh rh : Hd} {hi : Int} (hs : Sat w (findP f D :: l)) (hS : D.stack.length ≤ 990) (hK : D.kids.length ≤ 11) (hx : D.next = .through) (l0 : 0 ≤ D.loads) (l1 : D.loads ≤ 1000) :
   Calls Tryz.prog 41 #[.pointer (some ⟨f, 0, none⟩), .agg (nodC k b lh rh hi), .bool true] w fun x w' => x = .returned (.tuple #[]) ∧ Sat w' (findP f (giveF k lh rh D) :: l) ∧ Kp w w' := by
 have hg : giveF k lh rh D = throughF k lh rh { D with loads := D.loads + 1 } := giveF_through hx
 rw [hg]
 obtain ⟨vn, vs, vk, h1⟩ := findP_E hs
 have hB := h1.alloc (.cells (nodC k b lh rh hi) 75)
 have kB := (Kp.refl w).alloc (.cells (nodC k b lh rh hi) 75)
 have hcall := fun (W : World) (l' : List HProp) (hW : Sat W (findP f { D with loads := D.loads + 1 } :: l')) => find_through (k := k) (b := b) (lh := lh) (rh := rh) (hi := hi) hW hS hK
 unfold nodC at hcall
 have HC := Lib.hid hcall
 have hw : IntKind.i64.wrap (D.loads + 1) = D.loads + 1 := by rw [IntWalk.i64_in _ (by omega)]
 have hef := fun w => run_eql_fn (P := Tryz.prog) w Tryz.underlying151 (.func 103) #[.pointer (some ⟨f, 0, none⟩)] #[]
 clear hs h1 hg hcall
 unfold nodC at hB kB ⊢
 go_enter Tryz.func41, Tryz.ntmps41
 go_upto_region 1 with (fail)
 generalize World.alloc _ _ = w1 at hB kB ⊢
 generalize w.heap.size = N at hB ⊢
 have hfl := (hB.pull 1).lt
 have f10 := (hB.pull 1).cell 10
 have f19 := (hB.pull 1).cell 19
 have ff10 := (hB.pull 1).free 10
 have ff19 := (hB.pull 1).free 19
 simp [findC, hx, nxV] at f10 f19
 have h2 := ((hB.pull 1).set 19 (.int .i64 (D.loads + 1)))
 have k2 := kB.setCell ⟨f, 19, none⟩ (.int .i64 (D.loads + 1))
 go_upto_region 5 with (fail)
 clear hB kB f10 ff10 f19 ff19 hfl
 generalize World.setCell _ _ _ = w2 at h2 k2 ⊢
 have hca := HC.out _ _ (findP_I (D := { D with loads := D.loads + 1 }) (h2.drew.pull 1).tail)
 have S0 := giveS (D := { D with loads := D.loads + 1 }) h2
 dsimp only at S0
 rw [hx] at S0
 unfold nxV at S0
 dsimp only at S0
 have HS0 := Lib.hid S0
 obtain ⟨a0, a1, a2, a3, a4, a5, a6, a7, a8, a9⟩ := S0
 go_region_with ((go_at_call 103; (with_reducible refine hca.mono ?_); rintro x1 w5 ⟨rfl, h6, k6⟩))
 all_goals
   go_wp2_with fail
   go_end0
   exact ⟨rfl, h6, k2.drew.trans k6⟩
/-! ### a new one -/
def newFD (v : VerD) (list : Bool) (path : ByteArray) : FindD := match pathL path with
 | none => endF 4 (newF v list [])
 | some nms => segF (newF v list nms)
theorem find_new {W w : World} {l : List HProp} {v : VerD} {list : Bool} {path : ByteArray} (hT : Lib.Utf8Tabs (validS_ren.g 3) (validS_ren.g 4) W) (hs : Sat w (oldH W :: l)) :
   Calls Tryz.prog 33 #[.bool list, .string path, aggV v] w fun x w' => ∃ f, x = .returned (.pointer (some ⟨f, 0, none⟩)) ∧ Sat w' (findP f (newFD v list path) :: oldH W :: l) ∧ Kp w w' := by
 have hs1 := ((hs.tNil fK 73 3).tNil fH 56 2).tNil fSt 9 1
 have hB := hs1.alloc (.cells #[.int .i64 v.n, .int .i64 v.ks, .int .i64 v.kg, .int .i64 v.ss, .int .i64 v.sg] 58)
 have kB := (Kp.refl w).alloc (.cells #[.int .i64 v.n, .int .i64 v.ks, .int .i64 v.kg, .int .i64 v.ss, .int .i64 v.sg] 58)
 have HT := Lib.hid hT
 generalize hE : newFD v list path = E
 have HE := Lib.hid hE
 clear hs hs1 hT hE
 unfold aggV
 go_enter Tryz.func33, Tryz.ntmps33
 go_upto_region 1 with (fail)
 generalize World.alloc _ _ = w1 at hB kB ⊢
 generalize w.heap.size = B at hB ⊢
 have b0 := (hB).cell 0
 have b1 := (hB).cell 1
 have b2 := (hB).cell 2
 have b3 := (hB).cell 3
 have b4 := (hB).cell 4
 simp at b0 b1 b2 b3 b4
 have hF := hB.alloc (.cells #[.int .i64 v.n, .int .i64 v.ks, .int .i64 v.kg, .int .i64 v.ss, .int .i64 v.sg, .bool list, .slice none 0 0, .int .i64 0, .int .i64 0, .int .i64 0, .nilFunc, .int .i64 0, .bool false, .slice none 0 0, .int .i64 0, .int .i64 0, .int .i64 0, .slice none 0 0, .slice none 0 0, .int .i64 0] 153)
 have kF := kB.alloc (.cells #[.int .i64 v.n, .int .i64 v.ks, .int .i64 v.kg, .int .i64 v.ss, .int .i64 v.sg, .bool list, .slice none 0 0, .int .i64 0, .int .i64 0, .int .i64 0, .nilFunc, .int .i64 0, .bool false, .slice none 0 0, .int .i64 0, .int .i64 0, .int .i64 0, .slice none 0 0, .slice none 0 0, .int .i64 0] 153)
 go_upto_region 2 with (fail)
 generalize World.alloc _ _ = w2 at hF kF ⊢
 generalize w1.heap.size = f at hF ⊢
 clear hB kB b0 b1 b2 b3 b4
 have hsp := name_split_any HT.out path (hF.pull 5)
 clear hF
 go_wp2_with fail
 refine hsp.mono ?_
 rintro e w3 hpost
 obtain ⟨k3, ⟨hp, rfl, h3⟩ | ⟨vn, nms, hp, hn1, hn2, rfl, h3⟩⟩ := hpost
 · obtain rfl : endF 4 (newF v list []) = E := by rw [← HE.out]; unfold newFD; rw [hp]
   have h4 := (((h3.pull 2).tail).push 4)
   clear h3 hsp HE hp
   have f6 := (h4).cell 6
   have ff6 := (h4).free 6
   simp at f6
   have hfl := h4.lt
   have h5 := findP_I (D := newF v list []) (h4.set 6 (.slice none 0 0))
   have k5 := (kF.trans k3).setCell ⟨f, 6, none⟩ (.slice none 0 0)
   have hen := find_end h5 (e := 4) (by decide)
   clear h4 h5
   go_wp2_with fail
   refine hen.mono ?_
   rintro e w5 ⟨rfl, h6, k6⟩
   go_wp2_with fail
   exact bodyPost_ret (v := .pointer (some ⟨f, 0, none⟩)) (by simp [results, Tryz.results33, go_sem]) rfl ⟨f, rfl, h6, k5.trans k6⟩
 · obtain rfl : segF (newF v list nms) = E := by rw [← HE.out]; unfold newFD; rw [hp]
   have h4 := (((((h3.pull 3).tail.pull 3).tail.pull 1).push 4).swap)
   clear h3 hsp HE hp
   obtain ⟨nao, ncap, rfl⟩ := (h4.pull 1).tLen
   generalize hnl : nms.length = nl at h4 ⊢
   have f6 := (h4).cell 6
   have ff6 := (h4).free 6
   simp at f6
   have hfl := h4.lt
   have h5 := findP_I (D := newF v list nms) (h4.set 6 (.slice nao nl ncap))
   have k5 := (kF.trans k3).setCell ⟨f, 6, none⟩ (.slice nao nl ncap)
   have hse := find_segment h5 (by simp [newF]) (by simp [newF])
   clear h4 h5 hnl
   go_wp2_with fail
   refine hse.mono ?_
   rintro e w5 ⟨rfl, h6, k6⟩
   go_wp2_with fail
   go_ret
   exact ⟨f, rfl, h6, k5.trans k6⟩
theorem find_loads {w : World} {l : List HProp} {f : Nat} {D : FindD} (hs : Sat w (findP f D :: l)) :
   Calls Tryz.prog 39 #[.pointer (some ⟨f, 0, none⟩)] w fun x w' => x = .returned (.int .i64 D.loads) ∧ Sat w' (findP f D :: l) ∧ Kp w w' := by
 obtain ⟨vn, vs, vk, h1⟩ := findP_E hs
 have f19 := (h1).cell 19
 have ff19 := (h1).free 19
 simp [findC] at f19
 go_enter Tryz.func39, Tryz.ntmps39
 go_wp2_with fail
 go_ret
 exact ⟨rfl, findP_I h1, Kp.refl w⟩
end Go.Proofs.YtddglbjhhnipgaaGreatDoor

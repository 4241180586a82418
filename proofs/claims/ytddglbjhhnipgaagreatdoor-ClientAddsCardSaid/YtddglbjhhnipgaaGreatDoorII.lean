import Derived.Test.YtddglbjhhnipgaaGreatDoorIB
import Derived.Test.YtddglbjhhnipgaaGreatDoorIF
import Derived.Test.YtddglbjhhnipgaaGreatDoorGE
namespace Go.Proofs.YtddglbjhhnipgaaGreatDoor
open Go Go.RowKit
set_option linter.unusedVariables false
set_option linter.unusedSimpArgs false
set_option maxRecDepth 100000
set_option maxHeartbeats 8000000
/-! ### both maps' orders -/
theorem view_order {w : World} {l : List HProp} (hs : Sat w l) (a b : KidD) :
   Calls Tryz.prog 61 #[aggK a, aggK b] w fun e w' => e = .returned (.int .i64 (kord a b)) ∧ Sat w' l ∧ Kp w w' := by
 have hB := (hs.alloc (.cells #[.int .i64 a.up, .string a.name, .int .i64 a.node] 73)).alloc (.cells #[.int .i64 b.up, .string b.name, .int .i64 b.node] 73)
 have kB := ((Kp.refl w).alloc (.cells #[.int .i64 a.up, .string a.name, .int .i64 a.node] 73)).alloc (.cells #[.int .i64 b.up, .string b.name, .int .i64 b.node] 73)
 simp only [World.size_alloc] at hB
 simp only [aggK]
 go_enter Tryz.func61, Tryz.ntmps61
 go_upto_region 1 with (fail)
 generalize World.alloc _ _ = w1 at hB kB ⊢
 have hne := hB.ne
 generalize w.heap.size + 1 = B at hB hne ⊢
 generalize w.heap.size = A at hB hne ⊢
 have b0 := hB.cell 0
 have b1 := hB.cell 1
 have b2 := hB.cell 2
 have a0 := (hB.pull 1).cell 0
 have a1 := (hB.pull 1).cell 1
 have a2 := (hB.pull 1).cell 2
 simp at b0 b1 b2 a0 a1 a2
 have hX := ((hB.drewN 1).alloc (.cells #[.int .i64 (cmpI a.up b.up), .int .i64 (cmpS a.name b.name), .int .i64 (cmpI a.node b.node)] 3))
 have x0 := hX.cell 0
 have x1 := hX.cell 1
 have x2 := hX.cell 2
 have kX := (kB.drewN 1).alloc (.cells #[.int .i64 (cmpI a.up b.up), .int .i64 (cmpS a.name b.name), .int .i64 (cmpI a.node b.node)] 3)
 simp at x0 x1 x2
 go_region_held3 (fun w' => w'.cell? ⟨A, 0, none⟩ = some (.int .i64 a.up) ∧ w'.cell? ⟨A, 1, none⟩ = some (.string a.name) ∧ w'.cell? ⟨A, 2, none⟩ = some (.int .i64 a.node) ∧ w'.cell? ⟨B, 0, none⟩ = some (.int .i64 b.up) ∧ w'.cell? ⟨B, 1, none⟩ = some (.string b.name) ∧ w'.cell? ⟨B, 2, none⟩ = some (.int .i64 b.node)) (first | exact ⟨a0, a1, a2, b0, b1, b2⟩ | go_keep)
   (first | (go_at_call 63; refine (cmp_int _ _).mono ?_; rintro e w9 ⟨rfl, rfl⟩) | (go_at_call 91; refine (cmp_str _ _).mono ?_; rintro e w9 ⟨rfl, rfl⟩) | (go_at_call 90; refine (cmp_or _ _ _ x0 x1 x2).mono ?_; rintro e w9 ⟨rfl, rfl⟩))
 all_goals
   go_wp2_with fail
   go_ret
   exact ⟨rfl, hX.tail.tail.tail, kX⟩
theorem kord_ok : CmpOkK kord := fun a b w l h => view_order h a b
theorem cmpI_ok : CmpOkS cmpI := fun a b w l h => (cmp_int a b).mono fun e w' ⟨h1, h2⟩ => by
 subst h2
 exact ⟨h1, h, Kp.refl w⟩
theorem kid_isortV {w : World} {l : List HProp} {g off cap n : Nat} {ks : List KidD} (hs : Sat w (rowT fK (.slice (some ⟨g, off, none⟩) n cap) 73 3 ks :: l)) (h1 : 1 ≤ n) (h8 : n ≤ 1000) :
   Calls Tryz.prog 198 #[.slice (some ⟨g, off, none⟩) n cap, .int .i64 0, .int .i64 n, .func (.func 61) #[] #[]] w fun e w' => e = .returned (.tuple #[]) ∧ Sat w' (rowT fK (.slice (some ⟨g, off, none⟩) n cap) 73 3 (isort klt ks) :: l) ∧ Kp w w' := by
 obtain ⟨hcap, hn, hcm⟩ := hs.tCap
 have HN := Lib.hid hn
 have HC := Lib.hid hcap
 clear hn hcap
 go_enter Tryz.func198, Tryz.ntmps198
 go_wp2_with fail
 go_loopw [8] (fun iv wr => ∃ (i : Nat) (R rest : List KidD), iv = .int .i64 i ∧ 1 ≤ i ∧ i ≤ n ∧ Hid (R = isortR klt (ks.take i)) ∧ Hid (rest = ks.drop i) ∧ Sat wr (rowT fK (.slice (some ⟨g, off, none⟩) n cap) 73 3 (R.reverse ++ rest) :: l) ∧ Kp w wr) (fun iv _ => n - (intOf iv).toNat)
 case atStart =>
   obtain ⟨x, hx, hd, ht⟩ := drop_at (l := ks) (i := 0) (by have := HN.out; omega)
   refine ⟨1, [x], ks.drop 1, rfl, by omega, by omega, Lib.hid ?_, Lib.hid rfl, ?_, Kp.refl w⟩
   · rw [ht]; simp [isortR, insR]
   · have e : ks = [x].reverse ++ ks.drop 1 := by simpa using hd
     rw [← e]
     exact hs
 case round =>
   obtain ⟨i, R, rest, rfl, hi1, hin, hR, hrest, h2, k2⟩ := hrel
   have hRl : Hid (R.length = i) := by
     rw [Hid, hR.out, isortR_len, List.length_take]
     have := HN.out
     omega
   by_cases hlt : i < n
   case neg =>
     obtain rfl : i = n := by omega
     go_wp2_with fail
     go_end0
     refine ⟨rfl, ?_, k2⟩
     have e1 : ks.take i = ks := List.take_of_length_le (by have := HN.out; omega)
     have e2 : ks.drop i = [] := List.drop_of_length_le (by have := HN.out; omega)
     rw [hR.out, hrest.out, e1, e2, List.append_nil] at h2
     exact h2
   obtain ⟨x, hx, hd, ht⟩ := drop_at (l := ks) (i := i) (by have := HN.out; omega)
   have HD := Lib.hid hd
   have HT := Lib.hid ht
   rw [hrest.out, hd] at h2
   clear hx hd ht
   have i1 : (i : Int) < (n : Int) := by omega
   go_wp2_with fail
   go_loopw [9] (fun jv wr => ∃ (j : Nat) (R2 B : List KidD), jv = .int .i64 j ∧ j ≤ i ∧ Hid (R2.length = j) ∧ Hid (insR klt x R = B.reverse ++ insR klt x R2) ∧ Sat wr (rowT fK (.slice (some ⟨g, off, none⟩) n cap) 73 3 (R2.reverse ++ x :: (B ++ ks.drop (i + 1))) :: l) ∧ Kp w wr) (fun jv _ => (intOf jv).toNat)
   case atStart => exact ⟨i, R, [], rfl, Nat.le_refl _, hRl, Lib.hid (by simp), by simpa using h2, k2⟩
   case round =>
     clear h2 k2
     obtain ⟨j, R2, B, rfl, hji, hR2, hins, h2, k2⟩ := hrel
     have HI := Lib.hid (show insR klt x R = B.reverse ++ insR klt x R2 from hins.out)
     cases R2 with
     | nil =>
       have hj : j = 0 := by have := hR2.out; simpa using this.symm
       subst hj
       go_upto_region 4 with (fail)
       go_quiet (fail)
       go_wp2_with fail
       go_roundw
       case rel =>
         refine ⟨i + 1, insR klt x R, ks.drop (i + 1), by go_num, by omega, by omega, Lib.hid ?_, Lib.hid rfl, ?_, k2.drewN _⟩
         · rw [HT.out, isortR_snoc, hR.out]
         · have e := hins.out
           rw [e]
           simpa [insR] using h2.drewN nq
       case measure => simp [intOf]; omega
     | cons y R3 =>
       obtain ⟨m, hm⟩ : ∃ m, m = R3.length := ⟨_, rfl⟩
       have hjm : j = m + 1 := by have := hR2.out; rw [List.length_cons, ← hm] at this; exact this.symm
       have eL : (y :: R3).reverse ++ x :: (B ++ ks.drop (i + 1)) = R3.reverse ++ y :: x :: (B ++ ks.drop (i + 1)) := by simp
       rw [eL] at h2
       have gx : (R3.reverse ++ y :: x :: (B ++ ks.drop (i + 1)))[j]? = some x := by rw [hjm, hm]; exact get_at' _ _ _ _
       have gy : (R3.reverse ++ y :: x :: (B ++ ks.drop (i + 1)))[m]? = some y := by rw [hm]; exact get_at _ _ _
       have x0 := h2.tCell len_fK j 0 gx rfl
       have x1 := h2.tCell len_fK j 1 gx rfl
       have x2 := h2.tCell len_fK j 2 gx rfl
       have y0 := h2.tCell len_fK m 0 gy rfl
       have y1 := h2.tCell len_fK m 1 gy rfl
       have y2 := h2.tCell len_fK m 2 gy rfl
       rw [Nat.add_zero] at x0 y0
       have hg := h2.rowBlock
       have hw : IntKind.i64.wrap ((j : Int) - 1) = (m : Int) := by rw [IntWalk.i64_in _ (by omega)]; omega
       have j0 : (0 : Int) < (j : Int) := by omega
       have j0' : (0 : Int) ≤ (j : Int) := by omega
       have jn : 0 < j := by omega
       have jb : decide (0 < j) = true := by simpa using jn
       have j1 : (j : Int) < (n : Int) := by omega
       have m0 : (0 : Int) ≤ (m : Int) := by omega
       have m1 : (m : Int) < (n : Int) := by omega
       have HJ := Lib.hid hjm
       have HM := Lib.hid hm
       have HX := Lib.hid gx
       have HY := Lib.hid gy
       clear gx gy eL hjm hm
       go_upto_region 4 with (fail)
       go_region_held3 (fun w' => w'.cell? ⟨g, off + j * 3, none⟩ = some (.int .i64 x.up) ∧ w'.cell? ⟨g, off + j * 3 + 1, none⟩ = some (.string x.name) ∧ w'.cell? ⟨g, off + j * 3 + 2, none⟩ = some (.int .i64 x.node) ∧ w'.cell? ⟨g, off + m * 3, none⟩ = some (.int .i64 y.up) ∧ w'.cell? ⟨g, off + m * 3 + 1, none⟩ = some (.string y.name) ∧ w'.cell? ⟨g, off + m * 3 + 2, none⟩ = some (.int .i64 y.node)) (first | exact ⟨x0, x1, x2, y0, y1, y2⟩ | exact cells6 h3 HX.out HY.out | go_keep)
         ((go_at_call 61; refine (view_order (h2.drewN 1) x y).mono ?_; rintro e w3 ⟨rfl, h3, k3⟩))
       clear x0 x1 x2 y0 y1 y2 hw
       by_cases hneg : kord x y < 0
       case neg =>
         have hl : klt x y = false := by simpa [klt] using hneg
         go_wp2_with fail
         go_roundw
         case rel =>
           refine ⟨i + 1, insR klt x R, ks.drop (i + 1), by go_num, by omega, by omega, Lib.hid ?_, Lib.hid rfl, ?_, (k2.drewN 1).trans k3⟩
           · rw [HT.out, isortR_snoc, hR.out]
           · have e := hins.out
             rw [e]
             simpa [insR, hl] using h3
         case measure => simp [intOf]; omega
       have hl : klt x y = true := by simpa [klt] using hneg
       have k4 := (k2.drewN 1).trans k3
       clear h2 k2 k3
       obtain ⟨x0, x1, x2, y0, y1, y2⟩ := cells6 h3 HX.out HY.out
       have hg := h3.rowBlock
       have hw : IntKind.i64.wrap ((j : Int) - 1) = (m : Int) := by rw [IntWalk.i64_in _ (by omega)]; have := HJ.out; omega
       have fx0 := h3.rowFree (off + j * 3)
       have fx1 := h3.rowFree (off + j * 3 + 1)
       have fx2 := h3.rowFree (off + j * 3 + 2)
       have fy0 := h3.rowFree (off + m * 3)
       have fy1 := h3.rowFree (off + m * 3 + 1)
       have fy2 := h3.rowFree (off + m * 3 + 2)
       have h4 := ((h3.tPut' len_fK j y (List.getElem?_eq_some_iff.1 HX.out).1).tPut' len_fK m x (by rw [List.length_set]; exact (List.getElem?_eq_some_iff.1 HY.out).1)).drew
       have k5 := Kp.putCells (g := g) (fK x) (off + m * 3) (Kp.putCells (g := g) (fK y) (off + j * 3) k4) |>.drew
       rw [put3, put3] at h4 k5
       have njm : m ≠ j := by have := HJ.out; omega
       have nmj : j ≠ m := by have := HJ.out; omega
       have ne00 : off + m * 3 ≠ off + j * 3 := by have := HJ.out; omega
       have nf00 : off + j * 3 ≠ off + m * 3 := by have := HJ.out; omega
       have ne01 : off + m * 3 ≠ off + j * 3 + 1 := by have := HJ.out; omega
       have nf01 : off + j * 3 + 1 ≠ off + m * 3 := by have := HJ.out; omega
       have ne02 : off + m * 3 ≠ off + j * 3 + 2 := by have := HJ.out; omega
       have nf02 : off + j * 3 + 2 ≠ off + m * 3 := by have := HJ.out; omega
       have ne10 : off + m * 3 + 1 ≠ off + j * 3 := by have := HJ.out; omega
       have nf10 : off + j * 3 ≠ off + m * 3 + 1 := by have := HJ.out; omega
       have ne11 : off + m * 3 + 1 ≠ off + j * 3 + 1 := by have := HJ.out; omega
       have nf11 : off + j * 3 + 1 ≠ off + m * 3 + 1 := by have := HJ.out; omega
       have ne12 : off + m * 3 + 1 ≠ off + j * 3 + 2 := by have := HJ.out; omega
       have nf12 : off + j * 3 + 2 ≠ off + m * 3 + 1 := by have := HJ.out; omega
       have ne20 : off + m * 3 + 2 ≠ off + j * 3 := by have := HJ.out; omega
       have nf20 : off + j * 3 ≠ off + m * 3 + 2 := by have := HJ.out; omega
       have ne21 : off + m * 3 + 2 ≠ off + j * 3 + 1 := by have := HJ.out; omega
       have nf21 : off + j * 3 + 1 ≠ off + m * 3 + 2 := by have := HJ.out; omega
       have ne22 : off + m * 3 + 2 ≠ off + j * 3 + 2 := by have := HJ.out; omega
       have nf22 : off + j * 3 + 2 ≠ off + m * 3 + 2 := by have := HJ.out; omega
       go_upto_region 6 with (fail)
       go_region
       have eS : ((R3.reverse ++ y :: x :: (B ++ ks.drop (i + 1))).set j y).set m x = R3.reverse ++ x :: (y :: B ++ ks.drop (i + 1)) := by
         rw [HJ.out, HM.out]
         simp
       rw [eS] at h4
       clear eS x0 x1 x2 y0 y1 y2 fx0 fx1 fx2 fy0 fy1 fy2 h3
       go_wp2_with fail
       go_roundw
       case rel =>
         refine ⟨m, R3, y :: B, rfl, by have := HJ.out; omega, Lib.hid HM.out.symm, Lib.hid ?_, h4, k5⟩
         rw [HI.out]
         simp [insR, hl]
       case measure => simp [intOf]; have := HJ.out; omega
theorem kid_isort_anyV {w : World} {l : List HProp} {v : Value} {ks : List KidD} (hs : Sat w (rowT fK v 73 3 ks :: l)) (h8 : ks.length ≤ 12) :
   Calls Tryz.prog 198 #[v, .int .i64 0, .int .i64 ks.length, .func (.func 61) #[] #[]] w fun e w' => e = .returned (.tuple #[]) ∧ Sat w' (rowT fK v 73 3 (isort klt ks) :: l) ∧ Kp w w' := by
 by_cases hn : 1 ≤ ks.length
 · rcases hs.tForm with ⟨rfl, h⟩ | ⟨g, off, cap, rfl⟩
   · rw [h] at hn; simp at hn
   · exact kid_isortV hs hn (by omega)
 · have h0 : ks = [] := List.eq_nil_of_length_eq_zero (by omega)
   subst h0
   obtain ⟨ao, cap, rfl⟩ := hs.tLen
   simp only [List.length_nil]
   go_enter Tryz.func198, Tryz.ntmps198
   go_wp2_with fail
   refine wp_loop_rounds 1 ?_
   rw [rounds_succ]
   go_wp2_with fail
   go_end0
   exact ⟨rfl, hs, Kp.refl w⟩
theorem kid_pdqV {w : World} {l : List HProp} {v : Value} {ks : List KidD} {k : Int} (hs : Sat w (rowT fK v 73 3 ks :: l)) (h8 : ks.length ≤ 12) :
   Calls Tryz.prog 175 #[v, .int .i64 0, .int .i64 ks.length, .int .i64 k, .func (.func 61) #[] #[]] w fun e w' => e = .returned (.tuple #[]) ∧ Sat w' (rowT fK v 73 3 (isort klt ks) :: l) ∧ Kp w w' := by
 have hi := kid_isort_anyV hs h8
 have h12 : (ks.length : Int) ≤ 12 := by omega
 have h0 : (0 : Int) ≤ (ks.length : Int) := by omega
 generalize ks.length = n at hi h12 h0 ⊢
 go_enter Tryz.func175, Tryz.ntmps175
 go_wp2_with fail
 refine wp_loop_rounds 1 ?_
 rw [rounds_succ]
 go_wp2_with fail
 refine hi.mono ?_
 rintro e w1 ⟨rfl, h1, k1⟩
 go_wp2_with fail
 (try simp only [Exit.inBlock, Exit.then])
 refine bodyPost_ret (results_none rfl _ _ _) rfl ?_
 exact ⟨rfl, h1, k1⟩
theorem kid_sortV {w : World} {l : List HProp} {v : Value} {ks : List KidD} (hs : Sat w (rowT fK v 73 3 ks :: l)) (h8 : ks.length ≤ 12) :
   Calls Tryz.prog 151 #[v, .func (.func 61) #[] #[]] w fun e w' => e = .returned (.tuple #[]) ∧ Sat w' (rowT fK v 73 3 (isort klt ks) :: l) ∧ Kp w w' := by
 have hp := fun k => kid_pdqV (k := k) hs h8
 obtain ⟨ao, cap, rfl⟩ := hs.tLen
 have h12 : (ks.length : Int) ≤ 100 := by omega
 have h0 : (0 : Int) ≤ (ks.length : Int) := by omega
 generalize ks.length = n at hp h12 h0 ⊢
 go_enter Tryz.func151, Tryz.ntmps151
 go_wp2_with fail
 refine (bits_len h0 h12).mono ?_
 rintro e w1 ⟨k, rfl, rfl⟩
 go_wp2_with fail
 refine (hp k).mono ?_
 rintro e w1 ⟨rfl, h1, k1⟩
 go_wp2_with fail
 go_end0
 exact ⟨rfl, h1, k1⟩
end Go.Proofs.YtddglbjhhnipgaaGreatDoor

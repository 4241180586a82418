import Derived.Test.YtbnipieokpeadaaDoorGC
import Derived.Test.YtbnipieokpeadaaDoorGD
import Derived.Laws.StructEq
namespace Go.Proofs.YtbnipieokpeadaaDoor
open Go Go.RowKit
set_option linter.unusedVariables false
set_option linter.unusedSimpArgs false

theorem Sat.tPut' {α : Type} {f : α → List Value} {w : World} {e : TypeId} {size : Nat} {xs : List α} {l : List HProp} {g off n cap : Nat} (hf : ∀ x, (f x).length = size) (hs : Sat w (rowT f (.slice (some ⟨g, off, none⟩) n cap) e size xs :: l)) (i : Nat) (y : α) (hi : i < xs.length) :
    Sat (World.putCells w g (off + i * size) (f y)) (rowT f (.slice (some ⟨g, off, none⟩) n cap) e size (xs.set i y) :: l) := by
  obtain ⟨_, hn, _⟩ := hs.tCap
  rw [hn] at hs ⊢
  exact hs.tPut hf i y hi

theorem take_one {α : Type} {l : List α} {x : α} (h : l[0]? = some x) : l.take 1 = [x] := by
  cases l with
  | nil => simp at h
  | cons y l => simp at h; subst h; rfl
theorem drop_at {α : Type} {l : List α} {i : Nat} (h : i < l.length) : ∃ x, l[i]? = some x ∧ l.drop i = x :: l.drop (i + 1) ∧ l.take (i + 1) = l.take i ++ [x] :=
  ⟨l[i], by simp, by rw [List.drop_eq_getElem_cons h], take_snoc' (by simp)⟩

theorem put3 (w : World) (g a : Nat) (k : KidD) : World.putCells w g a (fK k) = ((w.setCell ⟨g, a, none⟩ (.int .i64 k.up)).setCell ⟨g, a + 1, none⟩ (.string k.name)).setCell ⟨g, a + 2, none⟩ (.int .i64 k.node) := rfl
theorem cells6 {w : World} {l : List HProp} {g off n cap j m : Nat} {xs : List KidD} {x y : KidD} (h : Sat w (rowT fK (.slice (some ⟨g, off, none⟩) n cap) 39 3 xs :: l)) (gx : xs[j]? = some x) (gy : xs[m]? = some y) :
    w.cell? ⟨g, off + j * 3, none⟩ = some (.int .i64 x.up) ∧ w.cell? ⟨g, off + j * 3 + 1, none⟩ = some (.string x.name) ∧ w.cell? ⟨g, off + j * 3 + 2, none⟩ = some (.int .i64 x.node) ∧ w.cell? ⟨g, off + m * 3, none⟩ = some (.int .i64 y.up) ∧ w.cell? ⟨g, off + m * 3 + 1, none⟩ = some (.string y.name) ∧ w.cell? ⟨g, off + m * 3 + 2, none⟩ = some (.int .i64 y.node) :=
  ⟨h.tCell len_fK j 0 gx rfl, h.tCell len_fK j 1 gx rfl, h.tCell len_fK j 2 gx rfl, h.tCell len_fK m 0 gy rfl, h.tCell len_fK m 1 gy rfl, h.tCell len_fK m 2 gy rfl⟩

set_option maxRecDepth 100000 in
set_option maxHeartbeats 4000000 in
theorem kid_isort {w : World} {l : List HProp} {g off cap n : Nat} {ks : List KidD} (hs : Sat w (rowT fK (.slice (some ⟨g, off, none⟩) n cap) 39 3 ks :: l)) (h1 : 1 ≤ n) (h8 : n ≤ 1000) :
    Calls Tryd.prog 76 #[.slice (some ⟨g, off, none⟩) n cap, .int .i64 0, .int .i64 n, .func (.func 59) #[] #[]] w fun e w' => e = .returned (.tuple #[]) ∧ Sat w' (rowT fK (.slice (some ⟨g, off, none⟩) n cap) 39 3 (isort klt ks) :: l) ∧ Kp w w' := by
  obtain ⟨hcap, hn, hcm⟩ := hs.tCap
  have HN := Lib.hid hn
  have HC := Lib.hid hcap
  clear hn hcap
  go_enter Tryd.func76, Tryd.ntmps76
  go_wp2_with fail
  go_loopw [8] (fun iv wr => ∃ (i : Nat) (R rest : List KidD), iv = .int .i64 i ∧ 1 ≤ i ∧ i ≤ n ∧ Hid (R = isortR klt (ks.take i)) ∧ Hid (rest = ks.drop i) ∧ Sat wr (rowT fK (.slice (some ⟨g, off, none⟩) n cap) 39 3 (R.reverse ++ rest) :: l) ∧ Kp w wr) (fun iv _ => n - (intOf iv).toNat)
  case atStart =>
    obtain ⟨x, hx, hd, ht⟩ := drop_at (l := ks) (i := 0) (by have := HN.out; omega)
    refine ⟨1, [x], ks.drop 1, rfl, by omega, by omega, Lib.hid ?_, Lib.hid rfl, ?_, Kp.refl w⟩
    · rw [ht]; simp [isortR, insR]
    · have e : ks = [x].reverse ++ ks.drop 1 := by simpa using hd
      rw [← e]
      exact hs
  case round =>
    obtain ⟨i, R, rest, rfl, hi1, hin, hR, hrest, h2, k2⟩ := hrel
    have hRl : Hid (R.length = i) := by
      rw [Hid, hR.out, isortR_len, List.length_take]
      have := HN.out
      omega
    by_cases hlt : i < n
    case neg =>
      obtain rfl : i = n := by omega
      go_wp2_with fail
      go_end0
      refine ⟨rfl, ?_, k2⟩
      have e1 : ks.take i = ks := List.take_of_length_le (by have := HN.out; omega)
      have e2 : ks.drop i = [] := List.drop_of_length_le (by have := HN.out; omega)
      rw [hR.out, hrest.out, e1, e2, List.append_nil] at h2
      exact h2
    obtain ⟨x, hx, hd, ht⟩ := drop_at (l := ks) (i := i) (by have := HN.out; omega)
    have HD := Lib.hid hd
    have HT := Lib.hid ht
    rw [hrest.out, hd] at h2
    clear hx hd ht
    have i1 : (i : Int) < (n : Int) := by omega
    go_wp2_with fail
    go_loopw [9] (fun jv wr => ∃ (j : Nat) (R2 B : List KidD), jv = .int .i64 j ∧ j ≤ i ∧ Hid (R2.length = j) ∧ Hid (insR klt x R = B.reverse ++ insR klt x R2) ∧ Sat wr (rowT fK (.slice (some ⟨g, off, none⟩) n cap) 39 3 (R2.reverse ++ x :: (B ++ ks.drop (i + 1))) :: l) ∧ Kp w wr) (fun jv _ => (intOf jv).toNat)
    case atStart => exact ⟨i, R, [], rfl, Nat.le_refl _, hRl, Lib.hid (by simp), by simpa using h2, k2⟩
    case round =>
      clear h2 k2
      obtain ⟨j, R2, B, rfl, hji, hR2, hins, h2, k2⟩ := hrel
      have HI := Lib.hid (show insR klt x R = B.reverse ++ insR klt x R2 from hins.out)
      cases R2 with
      | nil =>
        have hj : j = 0 := by have := hR2.out; simpa using this.symm
        subst hj
        go_upto_region 4 with (fail)
        go_quiet (fail)
        go_wp2_with fail
        go_roundw
        case rel =>
          refine ⟨i + 1, insR klt x R, ks.drop (i + 1), by go_num, by omega, by omega, Lib.hid ?_, Lib.hid rfl, ?_, k2.drewN _⟩
          · rw [HT.out, isortR_snoc, hR.out]
          · have e := hins.out
            rw [e]
            simpa [insR] using h2.drewN nq
        case measure => simp [intOf]; omega
      | cons y R3 =>
        obtain ⟨m, hm⟩ : ∃ m, m = R3.length := ⟨_, rfl⟩
        have hjm : j = m + 1 := by have := hR2.out; rw [List.length_cons, ← hm] at this; exact this.symm
        have eL : (y :: R3).reverse ++ x :: (B ++ ks.drop (i + 1)) = R3.reverse ++ y :: x :: (B ++ ks.drop (i + 1)) := by simp
        rw [eL] at h2
        have gx : (R3.reverse ++ y :: x :: (B ++ ks.drop (i + 1)))[j]? = some x := by rw [hjm, hm]; exact get_at' _ _ _ _
        have gy : (R3.reverse ++ y :: x :: (B ++ ks.drop (i + 1)))[m]? = some y := by rw [hm]; exact get_at _ _ _
        have x0 := h2.tCell len_fK j 0 gx rfl
        have x1 := h2.tCell len_fK j 1 gx rfl
        have x2 := h2.tCell len_fK j 2 gx rfl
        have y0 := h2.tCell len_fK m 0 gy rfl
        have y1 := h2.tCell len_fK m 1 gy rfl
        have y2 := h2.tCell len_fK m 2 gy rfl
        rw [Nat.add_zero] at x0 y0
        have hg := h2.rowBlock
        have hw : IntKind.i64.wrap ((j : Int) - 1) = (m : Int) := by rw [IntWalk.i64_in _ (by omega)]; omega
        have j0 : (0 : Int) < (j : Int) := by omega
        have j0' : (0 : Int) ≤ (j : Int) := by omega
        have jn : 0 < j := by omega
        have jb : decide (0 < j) = true := by simpa using jn
        have j1 : (j : Int) < (n : Int) := by omega
        have m0 : (0 : Int) ≤ (m : Int) := by omega
        have m1 : (m : Int) < (n : Int) := by omega
        have HJ := Lib.hid hjm
        have HM := Lib.hid hm
        have HX := Lib.hid gx
        have HY := Lib.hid gy
        clear gx gy eL hjm hm
        go_upto_region 4 with (fail)
        go_region_held3 (fun w' => w'.cell? ⟨g, off + j * 3, none⟩ = some (.int .i64 x.up) ∧ w'.cell? ⟨g, off + j * 3 + 1, none⟩ = some (.string x.name) ∧ w'.cell? ⟨g, off + j * 3 + 2, none⟩ = some (.int .i64 x.node) ∧ w'.cell? ⟨g, off + m * 3, none⟩ = some (.int .i64 y.up) ∧ w'.cell? ⟨g, off + m * 3 + 1, none⟩ = some (.string y.name) ∧ w'.cell? ⟨g, off + m * 3 + 2, none⟩ = some (.int .i64 y.node)) (first | exact ⟨x0, x1, x2, y0, y1, y2⟩ | exact cells6 h3 HX.out HY.out | go_keep)
          ((go_at_call 59; refine (tree_order (h2.drewN 1) x y).mono ?_; rintro e w3 ⟨rfl, h3, k3⟩))
        clear x0 x1 x2 y0 y1 y2 hw
        by_cases hneg : kord x y < 0
        case neg =>
          have hl : klt x y = false := by simpa [klt] using hneg
          go_wp2_with fail
          go_roundw
          case rel =>
            refine ⟨i + 1, insR klt x R, ks.drop (i + 1), by go_num, by omega, by omega, Lib.hid ?_, Lib.hid rfl, ?_, (k2.drewN 1).trans k3⟩
            · rw [HT.out, isortR_snoc, hR.out]
            · have e := hins.out
              rw [e]
              simpa [insR, hl] using h3
          case measure => simp [intOf]; omega
        have hl : klt x y = true := by simpa [klt] using hneg
        have k4 := (k2.drewN 1).trans k3
        clear h2 k2 k3
        obtain ⟨x0, x1, x2, y0, y1, y2⟩ := cells6 h3 HX.out HY.out
        have hg := h3.rowBlock
        have hw : IntKind.i64.wrap ((j : Int) - 1) = (m : Int) := by rw [IntWalk.i64_in _ (by omega)]; have := HJ.out; omega
        have fx0 := h3.rowFree (off + j * 3)
        have fx1 := h3.rowFree (off + j * 3 + 1)
        have fx2 := h3.rowFree (off + j * 3 + 2)
        have fy0 := h3.rowFree (off + m * 3)
        have fy1 := h3.rowFree (off + m * 3 + 1)
        have fy2 := h3.rowFree (off + m * 3 + 2)
        have h4 := ((h3.tPut' len_fK j y (List.getElem?_eq_some_iff.1 HX.out).1).tPut' len_fK m x (by rw [List.length_set]; exact (List.getElem?_eq_some_iff.1 HY.out).1)).drew
        have k5 := Kp.putCells (g := g) (fK x) (off + m * 3) (Kp.putCells (g := g) (fK y) (off + j * 3) k4) |>.drew
        rw [put3, put3] at h4 k5
        have njm : m ≠ j := by have := HJ.out; omega
        have nmj : j ≠ m := by have := HJ.out; omega
        have ne00 : off + m * 3 ≠ off + j * 3 := by have := HJ.out; omega
        have nf00 : off + j * 3 ≠ off + m * 3 := by have := HJ.out; omega
        have ne01 : off + m * 3 ≠ off + j * 3 + 1 := by have := HJ.out; omega
        have nf01 : off + j * 3 + 1 ≠ off + m * 3 := by have := HJ.out; omega
        have ne02 : off + m * 3 ≠ off + j * 3 + 2 := by have := HJ.out; omega
        have nf02 : off + j * 3 + 2 ≠ off + m * 3 := by have := HJ.out; omega
        have ne10 : off + m * 3 + 1 ≠ off + j * 3 := by have := HJ.out; omega
        have nf10 : off + j * 3 ≠ off + m * 3 + 1 := by have := HJ.out; omega
        have ne11 : off + m * 3 + 1 ≠ off + j * 3 + 1 := by have := HJ.out; omega
        have nf11 : off + j * 3 + 1 ≠ off + m * 3 + 1 := by have := HJ.out; omega
        have ne12 : off + m * 3 + 1 ≠ off + j * 3 + 2 := by have := HJ.out; omega
        have nf12 : off + j * 3 + 2 ≠ off + m * 3 + 1 := by have := HJ.out; omega
        have ne20 : off + m * 3 + 2 ≠ off + j * 3 := by have := HJ.out; omega
        have nf20 : off + j * 3 ≠ off + m * 3 + 2 := by have := HJ.out; omega
        have ne21 : off + m * 3 + 2 ≠ off + j * 3 + 1 := by have := HJ.out; omega
        have nf21 : off + j * 3 + 1 ≠ off + m * 3 + 2 := by have := HJ.out; omega
        have ne22 : off + m * 3 + 2 ≠ off + j * 3 + 2 := by have := HJ.out; omega
        have nf22 : off + j * 3 + 2 ≠ off + m * 3 + 2 := by have := HJ.out; omega
        go_upto_region 6 with (fail)
        go_region
        have eS : ((R3.reverse ++ y :: x :: (B ++ ks.drop (i + 1))).set j y).set m x = R3.reverse ++ x :: (y :: B ++ ks.drop (i + 1)) := by
          rw [HJ.out, HM.out]
          simp
        rw [eS] at h4
        clear eS x0 x1 x2 y0 y1 y2 fx0 fx1 fx2 fy0 fy1 fy2 h3
        go_wp2_with fail
        go_roundw
        case rel =>
          refine ⟨m, R3, y :: B, rfl, by have := HJ.out; omega, Lib.hid HM.out.symm, Lib.hid ?_, h4, k5⟩
          rw [HI.out]
          simp [insR, hl]
        case measure => simp [intOf]; have := HJ.out; omega

end Go.Proofs.YtbnipieokpeadaaDoor

namespace Go.Proofs.YtbnipieokpeadaaDoor
open Go Go.RowKit
set_option linter.unusedVariables false
set_option linter.unusedSimpArgs false

set_option maxHeartbeats 4000000 in
set_option maxRecDepth 100000 in
theorem bits_len64 {w : World} {x : Int} (h0 : 0 ≤ x) (h1 : x ≤ 100) : Calls Tryd.prog 85 #[.int .u64 x] w fun e w' => ∃ k, e = .returned (.int .i64 k) ∧ w = w' := by
  go_enter Tryd.func85, Tryd.ntmps85
  go_wp2
  all_goals
    go_ret
    exact ⟨_, rfl, rfl⟩
theorem bits_len {w : World} {x : Int} (h0 : 0 ≤ x) (h1 : x ≤ 100) : Calls Tryd.prog 68 #[.int .u64 x] w fun e w' => ∃ k, e = .returned (.int .i64 k) ∧ w = w' := by
  go_enter Tryd.func68, Tryd.ntmps68
  go_wp2_with fail
  refine (bits_len64 h0 h1).mono ?_
  rintro e w1 ⟨k, rfl, rfl⟩
  go_wp2_with fail
  go_ret
  exact ⟨k, rfl, rfl⟩

theorem kid_isort_any {w : World} {l : List HProp} {v : Value} {ks : List KidD} (hs : Sat w (rowT fK v 39 3 ks :: l)) (h8 : ks.length ≤ 12) :
    Calls Tryd.prog 76 #[v, .int .i64 0, .int .i64 ks.length, .func (.func 59) #[] #[]] w fun e w' => e = .returned (.tuple #[]) ∧ Sat w' (rowT fK v 39 3 (isort klt ks) :: l) ∧ Kp w w' := by
  by_cases hn : 1 ≤ ks.length
  · rcases hs.tForm with ⟨rfl, h⟩ | ⟨g, off, cap, rfl⟩
    · rw [h] at hn; simp at hn
    · exact kid_isort hs hn (by omega)
  · have h0 : ks = [] := List.eq_nil_of_length_eq_zero (by omega)
    subst h0
    obtain ⟨ao, cap, rfl⟩ := hs.tLen
    simp only [List.length_nil]
    go_enter Tryd.func76, Tryd.ntmps76
    go_wp2_with fail
    refine wp_loop_rounds 1 ?_
    rw [rounds_succ]
    go_wp2_with fail
    go_end0
    exact ⟨rfl, hs, Kp.refl w⟩

theorem kid_pdq {w : World} {l : List HProp} {v : Value} {ks : List KidD} {k : Int} (hs : Sat w (rowT fK v 39 3 ks :: l)) (h8 : ks.length ≤ 12) :
    Calls Tryd.prog 67 #[v, .int .i64 0, .int .i64 ks.length, .int .i64 k, .func (.func 59) #[] #[]] w fun e w' => e = .returned (.tuple #[]) ∧ Sat w' (rowT fK v 39 3 (isort klt ks) :: l) ∧ Kp w w' := by
  have hi := kid_isort_any hs h8
  have h12 : (ks.length : Int) ≤ 12 := by omega
  have h0 : (0 : Int) ≤ (ks.length : Int) := by omega
  generalize ks.length = n at hi h12 h0 ⊢
  go_enter Tryd.func67, Tryd.ntmps67
  go_wp2_with fail
  refine wp_loop_rounds 1 ?_
  rw [rounds_succ]
  go_wp2_with fail
  refine hi.mono ?_
  rintro e w1 ⟨rfl, h1, k1⟩
  go_wp2_with fail
  (try simp only [Exit.inBlock, Exit.then])
  refine bodyPost_ret (results_none rfl _ _ _) rfl ?_
  exact ⟨rfl, h1, k1⟩

theorem kid_sort {w : World} {l : List HProp} {v : Value} {ks : List KidD} (hs : Sat w (rowT fK v 39 3 ks :: l)) (h8 : ks.length ≤ 12) :
    Calls Tryd.prog 58 #[v, .func (.func 59) #[] #[]] w fun e w' => e = .returned (.tuple #[]) ∧ Sat w' (rowT fK v 39 3 (isort klt ks) :: l) ∧ Kp w w' := by
  have hp := fun k => kid_pdq (k := k) hs h8
  obtain ⟨ao, cap, rfl⟩ := hs.tLen
  have h12 : (ks.length : Int) ≤ 100 := by omega
  have h0 : (0 : Int) ≤ (ks.length : Int) := by omega
  generalize ks.length = n at hp h12 h0 ⊢
  go_enter Tryd.func58, Tryd.ntmps58
  go_wp2_with fail
  refine (bits_len h0 h12).mono ?_
  rintro e w1 ⟨k, rfl, rfl⟩
  go_wp2_with fail
  refine (hp k).mono ?_
  rintro e w1 ⟨rfl, h1, k1⟩
  go_wp2_with fail
  go_end0
  exact ⟨rfl, h1, k1⟩

end Go.Proofs.YtbnipieokpeadaaDoor

namespace Go.Proofs.YtbnipieokpeadaaDoor
open Go Go.RowKit
set_option linter.unusedVariables false
set_option linter.unusedSimpArgs false

theorem Tryd.infoKid : (Tryd.prog.info? 39).map (fun i => (i.zero, i.size, i.bytes)) = some (some (.agg #[.int .i64 0, .string ⟨#[]⟩, .int .i64 0]), 3, 32) := by kernel_rfl

def kidOf (p : Int × Loc) : KidD := ⟨p.2.up, p.2.name, p.1⟩
def kidsOf (test : Int × Loc → Bool) (S : List (Int × Loc)) : List KidD := (S.filter test).map kidOf
/-- S is all that a tree has, each once. -/
structure Enum (f : Int → Option Loc) (S : List (Int × Loc)) : Prop where
  all : ∀ k s, f k = some s → (k, s) ∈ S
  mem : ∀ p ∈ S, f p.1 = some p.2
  nodup : (S.map Prod.fst).Nodup

theorem kidsOf_snoc (test : Int × Loc → Bool) (S : List (Int × Loc)) (p : Int × Loc) : kidsOf test (S ++ [p]) = if test p then kidsOf test S ++ [kidOf p] else kidsOf test S := by
  unfold kidsOf
  rw [List.filter_append, List.map_append]
  cases h : test p <;> simp [h]
theorem kidsOf_len (test : Int × Loc → Bool) (S : List (Int × Loc)) : (kidsOf test S).length ≤ S.length := by
  unfold kidsOf
  rw [List.length_map]
  exact List.length_filter_le _ _

theorem fits_kids {w : World} {l : List HProp} {B : Nat} {n : Int} (hs : Sat w (own B (.cells #[.int .i64 n] 3 (0, 0)) :: l)) (s : Loc) :
    Calls Tryd.prog 42 #[.agg #[.bool true, .int .i64 s.up, .string s.name], .pointer (some ⟨B, 0, none⟩)] w fun e w' => e = .returned (.bool (s.up == n)) ∧ Sat w' (own B (.cells #[.int .i64 n] 3 (0, 0)) :: l) ∧ Kp w w' := by
  have b0 := hs.cell 0
  have hB := hs.lt
  simp at b0
  go_enter Tryd.func42, Tryd.ntmps42
  go_wp2_with fail
  go_ret
  exact ⟨rfl, hs.alloc' _, (Kp.refl w).alloc _⟩
theorem fits_all {w : World} {l : List HProp} (hs : Sat w l) (s : Loc) :
    Calls Tryd.prog 48 #[.agg #[.bool true, .int .i64 s.up, .string s.name]] w fun e w' => e = .returned (.bool true) ∧ Sat w' l ∧ Kp w w' := by
  go_enter Tryd.func48, Tryd.ntmps48
  go_wp2_with fail
  go_ret
  exact ⟨rfl, hs.alloc' _, (Kp.refl w).alloc _⟩

set_option maxRecDepth 100000 in
set_option maxHeartbeats 2000000 in
theorem picked_kids {w : World} {l : List HProp} {t B : Nat} {f : Int → Option Loc} {ds : List ChD} {n : Int} (hs : Sat w (treeP t f ds :: own B (.cells #[.int .i64 n] 3 (0, 0)) :: l)) (hF : Few f) :
    Calls Tryd.prog 41 #[.pointer (some ⟨t, 0, none⟩), (.func (.func 42) #[] #[.pointer (some ⟨B, 0, none⟩)])] w fun e w' => ∃ S v, Enum f S ∧ e = .returned v ∧ Sat w' (rowT fK v 39 3 (isort klt (kidsOf (fun p => p.2.up == n) S)) :: treeP t f ds :: own B (.cells #[.int .i64 n] 3 (0, 0)) :: l) ∧ Kp w w' := by
  obtain ⟨i0, hi, hz0, hz1, hz2⟩ := info_parts Tryd.infoKid
  have HF := Lib.hid hF
  clear hF
  obtain ⟨bm, dv, hv⟩ := treeP_E hs
  have c0 := hv.cell 0
  simp at c0
  go_enter Tryd.func41, Tryd.ntmps41
  go_wp2_with (at_range; refine wpList_rangeM _ rfl (.tmp 11) 66 rfl Tryd.underlying66 rfl (hv.pull 1) ?_; intro w1 cnt h1 k1 s1)
  go_frame
  have h1 := (h1.tNil fK 39 3).swap
  clear s1 c0 hv hs
  generalize w.heap.size = r at h1 ⊢
  go_loopw [5] (fun ov wr => ∃ (S : List (Int × Loc)) (c : Nat), Sat wr (rngP bm r f S c :: rowT fK ov 39 3 (kidsOf (fun p => p.2.up == n) S) :: own t (.cells #[.map (some bm), dv] 69 (0, 0)) :: rowT fC dv 71 7 ds :: own B (.cells #[.int .i64 n] 3 (0, 0)) :: l) ∧ Kp w wr) (fun _ wr => wr.rangeLeft bm r)
  case atStart => exact ⟨[], cnt, h1, k1⟩
  case round =>
    clear h1 k1
    obtain ⟨S, c, h2, k2⟩ := hrel
    obtain ⟨hSm, hSn⟩ := h2.rngFacts
    have hS8 : (kidsOf (fun p => p.2.up == n) S).length ≤ 8 := Nat.le_trans (kidsOf_len _ _) (HF.out.length hSm hSn)
    have HSm := Lib.hid hSm
    have HSn := Lib.hid hSn
    clear hSm hSn
    go_wp2_with (at_next; refine wpList_nextM _ rfl (.tmp 12) rfl rfl h2 ?_ ?_)
    · intro hall
      have HA := Lib.hid hall
      clear hall
      have h3 := h2.rngDone.pull 1
      obtain ⟨oao, ocap, rfl⟩ := h3.tLen
      go_wp2_with fail
      refine (kid_sort h3 (by omega)).mono ?_
      rintro e w3 ⟨rfl, h4, k4⟩
      go_wp2_with fail
      go_ret
      have h5 := treeP_I ((h4.pull 2).pull 1 |>.push 3)
      exact ⟨S, _, ⟨HA.out, HSm.out, HSn.out⟩, rfl, h5.swap, k2.trans k4⟩
    · intro k s w2 c' hf hk hc h3 k3 hen
      have HC := Lib.hid hc
      clear hf hk hc
      simp only [vL] at hen ⊢
      have hrl := h2.rngLeft
      have HRL := Lib.hid hrl
      clear hrl
      have hA := h3.alloc (.cells #[.bool true, .int .i64 s.up, .string s.name] 49)
      have kA := (k2.trans k3).alloc (.cells #[.bool true, .int .i64 s.up, .string s.name] 49)
      go_upto_region 5 with (fail)
      generalize World.alloc _ _ = w3 at hA kA ⊢
      generalize w2.heap.size = A at hA ⊢
      clear hen h2 h3 k2 k3
      have a0 := hA.cell 0
      have a1 := hA.cell 1
      have a2 := hA.cell 2
      simp at a0 a1 a2
      obtain ⟨oao, ocap, rfl⟩ := (hA.pull 2).tLen
      go_wp2_with fail
      refine (fits_kids (hA.pull 5) s).mono ?_
      rintro e w4 ⟨rfl, h5, k5⟩
      have h6 := (h5.pull 1)
      have k6 := kA.trans k5
      clear a0 a1 a2 hA kA h5 k5
      cases hb : (s.up == n) with
      | true =>
        have a0 := h6.cell 0
        have a1 := h6.cell 1
        have a2 := h6.cell 2
        simp at a0 a1 a2
        have hL := h6.alloc (.cells #[.int .i64 s.up, .string s.name, .int .i64 k] 39)
        have kL := k6.alloc (.cells #[.int .i64 s.up, .string s.name, .int .i64 k] 39)
        go_wp2_with (at_builtin; refine wpList_append_lit rfl (.tmp 21) (.tmp 28) 36 rfl 39 i0 _ 3 32 Tryd.underlying36 hi hz0 hz1 hz2 rfl (by decide) _ _ _ _ _ _ _ rfl (hL.pull 4) 1 1 rfl rfl rfl ?c3 ?c4 ?c5)
        case c3 => unfold maxLen; omega
        case c4 => omega
        case c5 =>
          intro v' w5 hs5 hk5
          have h7 := Sat.tSnoc (f := fK) (x := kidOf (k, s)) hs5 rfl
          go_wp2_with fail
          go_roundw
          case rel =>
            refine ⟨S ++ [(k, s)], c', ?_, kL.trans hk5⟩
            rw [kidsOf_snoc]
            rw [hb, if_pos rfl]
            exact (((((h7.pull 4).pull 2).tail.pull 2).tail.pull 2).push 4)
          case measure =>
            rw [HRL.out]
            exact Nat.lt_of_le_of_lt (Nat.le_of_eq ((h7.pull 4).rngLeft)) HC.out
      | false =>
        go_wp2_with fail
        go_roundw
        case rel =>
          refine ⟨S ++ [(k, s)], c', ?_, k6⟩
          rw [kidsOf_snoc]
          rw [hb, if_neg (by simp)]
          exact h6.tail.push 4
        case measure =>
          rw [HRL.out]
          exact Nat.lt_of_le_of_lt (Nat.le_of_eq ((h6.pull 2).rngLeft)) HC.out

set_option maxRecDepth 100000 in
set_option maxHeartbeats 2000000 in
theorem picked_all {w : World} {l : List HProp} {t : Nat} {f : Int → Option Loc} {ds : List ChD} (hs : Sat w (treeP t f ds :: l)) (hF : Few f) :
    Calls Tryd.prog 41 #[.pointer (some ⟨t, 0, none⟩), (.func (.func 48) #[] #[])] w fun e w' => ∃ S v, Enum f S ∧ e = .returned v ∧ Sat w' (rowT fK v 39 3 (isort klt (kidsOf (fun _ => true) S)) :: treeP t f ds :: l) ∧ Kp w w' := by
  obtain ⟨i0, hi, hz0, hz1, hz2⟩ := info_parts Tryd.infoKid
  have HF := Lib.hid hF
  clear hF
  obtain ⟨bm, dv, hv⟩ := treeP_E hs
  have c0 := hv.cell 0
  simp at c0
  go_enter Tryd.func41, Tryd.ntmps41
  go_wp2_with (at_range; refine wpList_rangeM _ rfl (.tmp 11) 66 rfl Tryd.underlying66 rfl (hv.pull 1) ?_; intro w1 cnt h1 k1 s1)
  go_frame
  have h1 := (h1.tNil fK 39 3).swap
  clear s1 c0 hv hs
  generalize w.heap.size = r at h1 ⊢
  go_loopw [5] (fun ov wr => ∃ (S : List (Int × Loc)) (c : Nat), Sat wr (rngP bm r f S c :: rowT fK ov 39 3 (kidsOf (fun _ => true) S) :: own t (.cells #[.map (some bm), dv] 69 (0, 0)) :: rowT fC dv 71 7 ds :: l) ∧ Kp w wr) (fun _ wr => wr.rangeLeft bm r)
  case atStart => exact ⟨[], cnt, h1, k1⟩
  case round =>
    clear h1 k1
    obtain ⟨S, c, h2, k2⟩ := hrel
    obtain ⟨hSm, hSn⟩ := h2.rngFacts
    have hS8 : (kidsOf (fun _ => true) S).length ≤ 8 := Nat.le_trans (kidsOf_len _ _) (HF.out.length hSm hSn)
    have HSm := Lib.hid hSm
    have HSn := Lib.hid hSn
    clear hSm hSn
    go_wp2_with (at_next; refine wpList_nextM _ rfl (.tmp 12) rfl rfl h2 ?_ ?_)
    · intro hall
      have HA := Lib.hid hall
      clear hall
      have h3 := h2.rngDone.pull 1
      obtain ⟨oao, ocap, rfl⟩ := h3.tLen
      go_wp2_with fail
      refine (kid_sort h3 (by omega)).mono ?_
      rintro e w3 ⟨rfl, h4, k4⟩
      go_wp2_with fail
      go_ret
      have h5 := treeP_I ((h4.pull 2).pull 1 |>.push 3)
      exact ⟨S, _, ⟨HA.out, HSm.out, HSn.out⟩, rfl, h5.swap, k2.trans k4⟩
    · intro k s w2 c' hf hk hc h3 k3 hen
      have HC := Lib.hid hc
      clear hf hk hc
      simp only [vL] at hen ⊢
      have hrl := h2.rngLeft
      have HRL := Lib.hid hrl
      clear hrl
      have hA := h3.alloc (.cells #[.bool true, .int .i64 s.up, .string s.name] 49)
      have kA := (k2.trans k3).alloc (.cells #[.bool true, .int .i64 s.up, .string s.name] 49)
      go_upto_region 5 with (fail)
      generalize World.alloc _ _ = w3 at hA kA ⊢
      generalize w2.heap.size = A at hA ⊢
      clear hen h2 h3 k2 k3
      have a0 := hA.cell 0
      have a1 := hA.cell 1
      have a2 := hA.cell 2
      simp at a0 a1 a2
      obtain ⟨oao, ocap, rfl⟩ := (hA.pull 2).tLen
      go_wp2_with fail
      refine (fits_all hA s).mono ?_
      rintro e w4 ⟨rfl, h5, k5⟩
      have h6 := h5
      have k6 := kA.trans k5
      clear a0 a1 a2 hA kA h5 k5
      have a0 := h6.cell 0
      have a1 := h6.cell 1
      have a2 := h6.cell 2
      simp at a0 a1 a2
      have hL := h6.alloc (.cells #[.int .i64 s.up, .string s.name, .int .i64 k] 39)
      have kL := k6.alloc (.cells #[.int .i64 s.up, .string s.name, .int .i64 k] 39)
      go_wp2_with (at_builtin; refine wpList_append_lit rfl (.tmp 21) (.tmp 28) 36 rfl 39 i0 _ 3 32 Tryd.underlying36 hi hz0 hz1 hz2 rfl (by decide) _ _ _ _ _ _ _ rfl (hL.pull 3) 1 1 rfl rfl rfl ?c3 ?c4 ?c5)
      case c3 => unfold maxLen; omega
      case c4 => omega
      case c5 =>
        intro v' w5 hs5 hk5
        have h7 := Sat.tSnoc (f := fK) (x := kidOf (k, s)) hs5 rfl
        go_wp2_with fail
        go_roundw
        case rel =>
          refine ⟨S ++ [(k, s)], c', ?_, kL.trans hk5⟩
          rw [kidsOf_snoc]
          rw [if_pos rfl]
          exact ((((h7.pull 3).pull 2).tail.pull 2).tail)
        case measure =>
          rw [HRL.out]
          exact Nat.lt_of_le_of_lt (Nat.le_of_eq ((h7.pull 3).rngLeft)) HC.out

end Go.Proofs.YtbnipieokpeadaaDoor

namespace Go.Proofs.YtbnipieokpeadaaDoor
open Go Go.RowKit
set_option linter.unusedVariables false
set_option linter.unusedSimpArgs false

theorem tree_kids {w : World} {l : List HProp} {t : Nat} {f : Int → Option Loc} {ds : List ChD} {n : Int} (hs : Sat w (treeP t f ds :: l)) (hF : Few f) :
    Calls Tryd.prog 16 #[.pointer (some ⟨t, 0, none⟩), .int .i64 n] w fun e w' => ∃ S v, Enum f S ∧ e = .returned v ∧ Sat w' (rowT fK v 39 3 (isort klt (kidsOf (fun p => p.2.up == n) S)) :: treeP t f ds :: l) ∧ Kp w w' := by
  have hmf : ∀ (fn : Fn) (first cap : Array Value) (w : World), (Instr.makeFunc fn first cap).run Tryd.prog w = .ok (.func fn first cap) w := fun _ _ _ _ => rfl
  have hB := (hs.alloc (.cells #[.int .i64 n] 3)).swap
  have kB := (Kp.refl w).alloc (.cells #[.int .i64 n] 3)
  go_enter Tryd.func16, Tryd.ntmps16
  go_wp2_with fail
  refine (picked_kids hB hF).mono ?_
  rintro e w1 ⟨S, v, hS, rfl, h1, k1⟩
  go_wp2_with fail
  go_ret
  exact ⟨S, v, hS, rfl, (h1.pull 2).tail, kB.trans k1⟩
theorem tree_all {w : World} {l : List HProp} {t : Nat} {f : Int → Option Loc} {ds : List ChD} (hs : Sat w (treeP t f ds :: l)) (hF : Few f) :
    Calls Tryd.prog 27 #[.pointer (some ⟨t, 0, none⟩)] w fun e w' => ∃ S v, Enum f S ∧ e = .returned v ∧ Sat w' (rowT fK v 39 3 (isort klt (kidsOf (fun _ => true) S)) :: treeP t f ds :: l) ∧ Kp w w' := by
  go_enter Tryd.func27, Tryd.ntmps27
  go_wp2_with fail
  refine (picked_all hs hF).mono ?_
  rintro e w1 ⟨S, v, hS, rfl, h1, k1⟩
  go_wp2_with fail
  go_ret
  exact ⟨S, v, hS, rfl, h1, k1⟩

theorem named_is {w : World} {l : List HProp} {C : Nat} {nm : ByteArray} (hs : Sat w (own C (.cells #[.string nm] 9 (0, 0)) :: l)) (k : KidD) :
    Calls Tryd.prog 45 #[.agg #[.int .i64 k.up, .string k.name, .int .i64 k.node], .pointer (some ⟨C, 0, none⟩)] w fun e w' => e = .returned (.bool (sEq k.name nm)) ∧ Sat w' (own C (.cells #[.string nm] 9 (0, 0)) :: l) ∧ Kp w w' := by
  have b0 := hs.cell 0
  have hB := hs.lt
  simp at b0
  go_enter Tryd.func45, Tryd.ntmps45
  go_wp2_with fail
  go_ret
  exact ⟨rfl, hs.alloc' _, (Kp.refl w).alloc _⟩

set_option maxRecDepth 100000 in
set_option maxHeartbeats 2000000 in
theorem kid_index {w : World} {l : List HProp} {C : Nat} {nm : ByteArray} {v : Value} {ks : List KidD} (hs : Sat w (rowT fK v 39 3 ks :: own C (.cells #[.string nm] 9 (0, 0)) :: l)) (h8 : ks.length ≤ 1000) :
    Calls Tryd.prog 44 #[v, .func (.func 45) #[] #[.pointer (some ⟨C, 0, none⟩)]] w fun e w' => ∃ r : Int, e = .returned (.int .i64 r) ∧ ((r = -1 ∧ ∀ k ∈ ks, sEq k.name nm = false) ∨ ∃ (j : Nat) (k : KidD), r = j ∧ ks[j]? = some k ∧ sEq k.name nm = true ∧ ∀ i, i < j → ∀ k', ks[i]? = some k' → sEq k'.name nm = false) ∧ Sat w' (rowT fK v 39 3 ks :: own C (.cells #[.string nm] 9 (0, 0)) :: l) ∧ Kp w w' := by
  obtain ⟨ao, cap, rfl⟩ := hs.tLen
  obtain ⟨n, hn⟩ : ∃ n, n = ks.length := ⟨_, rfl⟩
  rw [← hn] at hs ⊢
  have HN := Lib.hid hn
  have h12 : (n : Int) ≤ 1000 := by omega
  clear hn h8
  go_enter Tryd.func44, Tryd.ntmps44
  go_wp2_with fail
  go_loopw [8] (fun iv wr => ∃ i : Nat, i ≤ n ∧ iv = .int .i64 i ∧ Hid (∀ j, j < i → ∀ k', ks[j]? = some k' → sEq k'.name nm = false) ∧ Sat wr (rowT fK (.slice ao n cap) 39 3 ks :: own C (.cells #[.string nm] 9 (0, 0)) :: l) ∧ Kp w wr) (fun iv _ => n - (intOf iv).toNat)
  case atStart => exact ⟨0, by omega, rfl, Lib.hid (fun j hj => absurd hj (Nat.not_lt_zero _)), hs, Kp.refl w⟩
  case round =>
    obtain ⟨i, hin, rfl, hno, h2, k2⟩ := hrel
    by_cases hlt : i < n
    case neg =>
      obtain rfl : i = n := by omega
      go_wp2_with fail
      go_ret
      refine ⟨-1, rfl, .inl ⟨rfl, fun k hk => ?_⟩, h2, k2⟩
      obtain ⟨j, hj⟩ := List.getElem?_of_mem hk
      exact hno.out j (by rw [HN.out]; exact (List.getElem?_eq_some_iff.1 hj).1) k hj
    obtain ⟨x, hx⟩ : ∃ x, ks[i]? = some x := ⟨ks[i]'(by rw [← HN.out]; exact hlt), by simp⟩
    rcases h2.tForm with ⟨hv, hp⟩ | ⟨g, off, cap', hv⟩
    · rw [hp] at hx; simp at hx
    simp only [Value.slice.injEq] at hv
    obtain ⟨rfl, -, rfl⟩ := hv
    have x0 := h2.tCell len_fK i 0 hx rfl
    have x1 := h2.tCell len_fK i 1 hx rfl
    have x2 := h2.tCell len_fK i 2 hx rfl
    rw [Nat.add_zero] at x0
    have i0 : (0 : Int) ≤ (i : Int) := by omega
    have i1 : (i : Int) < (n : Int) := by omega
    have HX := Lib.hid hx
    clear hx
    go_wp2_with fail
    refine (named_is (h2.pull 1) x).mono ?_
    rintro e w3 ⟨rfl, h3, k3⟩
    cases hb : sEq x.name nm with
    | true =>
      go_wp2_with fail
      go_ret
      exact ⟨i, rfl, .inr ⟨i, x, rfl, HX.out, hb, hno.out⟩, h3.swap, k2.trans k3⟩
    | false =>
      go_wp2_with fail
      go_roundw
      case rel =>
        refine ⟨i + 1, by omega, by go_num, Lib.hid ?_, h3.swap, k2.trans k3⟩
        intro j hj k' hk'
        by_cases hji : j = i
        · subst hji
          rw [HX.out] at hk'
          cases hk'
          exact hb
        · exact hno.out j (by omega) k' hk'
      case measure => simp [intOf]; omega

end Go.Proofs.YtbnipieokpeadaaDoor

namespace Go.Proofs.YtbnipieokpeadaaDoor
open Go Go.RowKit
set_option linter.unusedVariables false
set_option linter.unusedSimpArgs false

/-! ### the order of nodes is strict and total -/
theorem bl_cons (a b : UInt8) (x y : List UInt8) : Op.bytesLess (a :: x) (b :: y) = true ↔ a.toNat < b.toNat ∨ (a = b ∧ Op.bytesLess x y = true) := by
  simp only [Op.bytesLess, Bool.or_eq_true, decide_eq_true_eq, Bool.and_eq_true, beq_iff_eq]
  rw [UInt8.lt_iff_toNat_lt]
theorem bl_irr : ∀ x : List UInt8, Op.bytesLess x x = false
  | [] => rfl
  | a :: x => by
    cases h : Op.bytesLess (a :: x) (a :: x) with
    | false => rfl
    | true =>
      rcases (bl_cons a a x x).1 h with h | ⟨_, h⟩
      · omega
      · rw [bl_irr x] at h; cases h
theorem bl_trans : ∀ x y z : List UInt8, Op.bytesLess x y = true → Op.bytesLess y z = true → Op.bytesLess x z = true
  | _, [], _, h, _ => by cases ‹List UInt8› <;> simp [Op.bytesLess] at h
  | _, _ :: _, [], _, h => by simp [Op.bytesLess] at h
  | [], _ :: _, _ :: _, _, _ => rfl
  | a :: x, b :: y, c :: z, h1, h2 => by
    rw [bl_cons] at h1 h2 ⊢
    rcases h1 with h1 | ⟨rfl, h1⟩
    · rcases h2 with h2 | ⟨rfl, h2⟩
      · exact .inl (by omega)
      · exact .inl h1
    · rcases h2 with h2 | ⟨rfl, h2⟩
      · exact .inl h2
      · exact .inr ⟨rfl, bl_trans x y z h1 h2⟩
theorem bl_tri : ∀ x y : List UInt8, Op.bytesLess x y = true ∨ x = y ∨ Op.bytesLess y x = true
  | [], [] => .inr (.inl rfl)
  | [], _ :: _ => .inl rfl
  | _ :: _, [] => .inr (.inr rfl)
  | a :: x, b :: y => by
    rw [bl_cons, bl_cons]
    rcases Nat.lt_trichotomy a.toNat b.toNat with h | h | h
    · exact .inl (.inl h)
    · have hab : a = b := UInt8.toNat_inj.1 h
      subst hab
      rcases bl_tri x y with h | h | h
      · exact .inl (.inr ⟨rfl, h⟩)
      · exact .inr (.inl (by rw [h]))
      · exact .inr (.inr (.inr ⟨rfl, h⟩))
    · exact .inr (.inr (.inl h))

theorem name_eq {a b : ByteArray} (h : a.toList = b.toList) : a = b := by
  have := Go.beq_toListBytes a b
  rw [h] at this
  simp only [beq_self_eq_true] at this
  exact (MapKept.bytes_beq a b).1 this

def kL (a b : KidD) : Prop := a.up < b.up ∨ (a.up = b.up ∧ (Op.bytesLess a.name.toList b.name.toList = true ∨ (a.name = b.name ∧ a.node < b.node)))
theorem klt_iff (a b : KidD) : klt a b = true ↔ kL a b := by
  unfold klt kord or3 cmpI cmpS slt sEq kL
  rw [decide_eq_true_iff]
  rcases Int.lt_trichotomy a.up b.up with h | h | h
  · simp [h]
  · rw [h]
    simp only [Int.lt_irrefl, if_false, if_true, false_or, true_and]
    rcases bl_tri a.name.toList b.name.toList with h2 | h2 | h2
    · simp [h2]
    · have hn : a.name = b.name := name_eq h2
      rw [hn, bl_irr]
      rcases Int.lt_trichotomy a.node b.node with h3 | h3 | h3
      · simp [h3]
      · simp [h3]
      · have : ¬ a.node < b.node := by omega
        simp [h3, this]
    · have hne : a.name ≠ b.name := fun e => by rw [e, bl_irr] at h2; cases h2
      have hf : Op.bytesLess a.name.toList b.name.toList = false := by
        cases hx : Op.bytesLess a.name.toList b.name.toList with
        | false => rfl
        | true => have := bl_trans _ _ _ hx h2; rw [bl_irr] at this; cases this
      have hs : (a.name.toList == b.name.toList) = false := by
        rw [beq_eq_false_iff_ne]
        exact fun e => hne (name_eq e)
      simp [hf, hs, hne]
  · have h1 : ¬ a.up < b.up := by omega
    have h2 : ¬ a.up = b.up := by omega
    simp [h, h1, h2]
theorem strict_klt : Strict klt where
  irr a := by
    cases h : klt a a with
    | false => rfl
    | true =>
      rcases (klt_iff a a).1 h with h | ⟨_, h | ⟨_, h⟩⟩
      · omega
      · rw [bl_irr] at h; cases h
      · omega
  trans a b c h1 h2 := by
    rw [klt_iff] at h1 h2 ⊢
    unfold kL at h1 h2 ⊢
    rcases h1 with h1 | ⟨e1, h1⟩
    · rcases h2 with h2 | ⟨e2, h2⟩
      · exact .inl (by omega)
      · exact .inl (by omega)
    · rcases h2 with h2 | ⟨e2, h2⟩
      · exact .inl (by omega)
      · refine .inr ⟨by omega, ?_⟩
        rcases h1 with h1 | ⟨n1, h1⟩
        · rcases h2 with h2 | ⟨n2, h2⟩
          · exact .inl (bl_trans _ _ _ h1 h2)
          · rw [← n2]; exact .inl h1
        · rcases h2 with h2 | ⟨n2, h2⟩
          · rw [n1]; exact .inl h2
          · exact .inr ⟨n1.trans n2, by omega⟩
  tri a b := by
    rw [klt_iff, klt_iff]
    unfold kL
    rcases Int.lt_trichotomy a.up b.up with h | h | h
    · exact .inl (.inl h)
    · rcases bl_tri a.name.toList b.name.toList with h2 | h2 | h2
      · exact .inl (.inr ⟨h, .inl h2⟩)
      · have hn := name_eq h2
        rcases Int.lt_trichotomy a.node b.node with h3 | h3 | h3
        · exact .inl (.inr ⟨h, .inr ⟨hn, h3⟩⟩)
        · exact .inr (.inl (by cases a; cases b; simp_all))
        · exact .inr (.inr (.inr ⟨h.symm, .inr ⟨hn.symm, h3⟩⟩))
      · exact .inr (.inr (.inr ⟨h.symm, .inl h2⟩))
    · exact .inr (.inr (.inl h))

/-- All of one tree come out as one list. -/
theorem enum_perm {f : Int → Option Loc} {S S' : List (Int × Loc)} (h : Enum f S) (h' : Enum f S') : S.Perm S' := by
  have nd : ∀ {S : List (Int × Loc)}, Enum f S → S.Nodup := fun {S} h => by
    have h1 := h.nodup
    rw [List.Nodup, List.pairwise_map] at h1
    exact h1.imp fun hne e => hne (by rw [e])
  refine (List.perm_ext_iff_of_nodup (nd h) (nd h')).2 fun p => ⟨fun hp => ?_, fun hp => ?_⟩
  · exact h'.all p.1 p.2 (h.mem p hp)
  · exact h.all p.1 p.2 (h'.mem p hp)
theorem kids_same {f : Int → Option Loc} {S S' : List (Int × Loc)} (h : Enum f S) (h' : Enum f S') (test : Int × Loc → Bool) : isort klt (kidsOf test S) = isort klt (kidsOf test S') :=
  isort_eq_of_perm strict_klt (((enum_perm h h').filter test).map kidOf)

end Go.Proofs.YtbnipieokpeadaaDoor

namespace Go.Proofs.YtbnipieokpeadaaDoor
open Go Go.RowKit
set_option linter.unusedVariables false
set_option linter.unusedSimpArgs false

set_option maxRecDepth 100000 in
theorem tree_spot {w : World} {l : List HProp} {t : Nat} {f : Int → Option Loc} {ds : List ChD} {n : Int} (hs : Sat w (treeP t f ds :: l)) :
    Calls Tryd.prog 24 #[.pointer (some ⟨t, 0, none⟩), .int .i64 n] w fun e w' => e = .returned (vL (f n)) ∧ Sat w' (treeP t f ds :: l) ∧ Kp w w' := by
  obtain ⟨b, v, hv⟩ := treeP_E hs
  have c0 := hv.cell 0
  have ht := hv.lt
  simp at c0
  have hl := (look ((hv.pull 1).alloc' (.cells #[.bool false, .int .i64 0, .string ⟨#[]⟩] 49)) n).1
  cases hf : f n with
  | none =>
    rw [hf] at hl
    simp only [vL] at hl
    go_enter Tryd.func24, Tryd.ntmps24
    go_wp2_with fail
    exact bodyPost_ret (v := .agg #[.bool false, .int .i64 0, .string ⟨#[]⟩]) (by simp [results, Tryd.results24, go_sem]) rfl ⟨rfl, hs.alloc' _, (Kp.refl w).alloc _⟩
  | some s =>
    rw [hf] at hl
    simp only [vL] at hl
    go_enter Tryd.func24, Tryd.ntmps24
    go_wp2_with fail
    exact bodyPost_ret (v := .agg #[.bool true, .int .i64 s.up, .string s.name]) (by simp [results, Tryd.results24, go_sem]) rfl ⟨rfl, hs.alloc' _, (Kp.refl w).alloc _⟩

theorem kid_neq (a : KidD) (W : World) : (binOp BinOp.neq 39 (.agg #[.int .i64 a.up, .string a.name, .int .i64 a.node]) (.agg #[.int .i64 a.up, .string a.name, .int .i64 a.node])).run Tryd.prog W = .ok (.bool false) W := by
  go_simp
  try simp

set_option maxRecDepth 100000 in
set_option maxHeartbeats 2000000 in
theorem same_list {w : World} {l : List HProp} {v v' : Value} {ks : List KidD} (hs : Sat w (rowT fK v 39 3 ks :: rowT fK v' 39 3 ks :: l)) (hn : ks.length ≤ 1000) :
    Calls Tryd.prog 28 #[v, v'] w fun e w' => e = .returned (.bool true) ∧ Sat w' (rowT fK v 39 3 ks :: rowT fK v' 39 3 ks :: l) ∧ Kp w w' := by
  obtain ⟨ao, cap, rfl⟩ := hs.tLen
  obtain ⟨bo, bcap, rfl⟩ := (hs.pull 1).tLen
  obtain ⟨n, hn0⟩ : ∃ n, n = ks.length := ⟨_, rfl⟩
  rw [← hn0] at hs hn ⊢
  have HN := Lib.hid hn0
  have hn' : (n : Int) ≤ 1000 := by omega
  have hnn : ((n : Int) != (n : Int)) = false := by simp
  clear hn0
  go_enter Tryd.func28, Tryd.ntmps28
  go_wp2_with fail
  go_loopw [5] (fun iv wr => ∃ i : Nat, i ≤ n ∧ iv = .int .i64 i ∧ Sat wr (rowT fK (.slice ao n cap) 39 3 ks :: rowT fK (.slice bo n bcap) 39 3 ks :: l) ∧ Kp w wr) (fun iv _ => n - (intOf iv).toNat)
  case atStart => exact ⟨0, by omega, rfl, hs, Kp.refl w⟩
  case round =>
    obtain ⟨i, hin, rfl, h2, k2⟩ := hrel
    by_cases hlt : i < n
    case neg =>
      obtain rfl : n = i := by omega
      go_wp2_with fail
      go_ret
      exact ⟨rfl, h2, k2⟩
    obtain ⟨x, hx⟩ : ∃ x, ks[i]? = some x := ⟨ks[i]'(by rw [← HN.out]; exact hlt), by simp⟩
    rcases h2.tForm with ⟨hv, hp⟩ | ⟨g, off, cap', hv⟩
    · rw [hp] at hx; simp at hx
    simp only [Value.slice.injEq] at hv
    obtain ⟨rfl, -, rfl⟩ := hv
    rcases (h2.pull 1).tForm with ⟨hv, hp⟩ | ⟨g2, off2, cap2, hv⟩
    · rw [hp] at hx; simp at hx
    simp only [Value.slice.injEq] at hv
    obtain ⟨rfl, -, rfl⟩ := hv
    have x0 := h2.tCell len_fK i 0 hx rfl
    have x1 := h2.tCell len_fK i 1 hx rfl
    have x2 := h2.tCell len_fK i 2 hx rfl
    have y0 := (h2.pull 1).tCell len_fK i 0 hx rfl
    have y1 := (h2.pull 1).tCell len_fK i 1 hx rfl
    have y2 := (h2.pull 1).tCell len_fK i 2 hx rfl
    rw [Nat.add_zero] at x0 y0
    have hg := h2.rowBlock
    have hg2 := (h2.pull 1).rowBlock
    have i0' : (0 : Int) ≤ (i : Int) := by omega
    have i1' : (i : Int) < (n : Int) := by omega
    have heq := fun W => kid_neq x W
    clear hx
    go_upto_region 6 with (fail)
    go_quiet (fail)
    clear x0 x1 x2 y0 y1 y2 heq
    go_wp2_with fail
    go_roundw
    case rel => exact ⟨i + 1, by omega, by go_num, h2.drewN _, k2.drewN _⟩
    case measure => simp [intOf]; omega

end Go.Proofs.YtbnipieokpeadaaDoor

import Derived.Test.YtbnipieokpeadaaDoorOrd
import Derived.Test.YtbnipieokpeadaaDoorKids
namespace Go.Proofs.YtbnipieokpeadaaDoor
open Go Go.RowKit
set_option linter.unusedVariables false
set_option linter.unusedSimpArgs false

set_option maxRecDepth 100000 in
theorem tree_spot {w : World} {l : List HProp} {t : Nat} {f : Int → Option Loc} {ds : List ChD} {n : Int} (hs : Sat w (treeP t f ds :: l)) :
    Calls Tryd.prog 24 #[.pointer (some ⟨t, 0, none⟩), .int .i64 n] w fun e w' => e = .returned (vL (f n)) ∧ Sat w' (treeP t f ds :: l) ∧ Kp w w' := by
  obtain ⟨b, v, hv⟩ := treeP_E hs
  have c0 := hv.cell 0
  have ht := hv.lt
  simp at c0
  have hl := (look ((hv.pull 1).alloc' (.cells #[.bool false, .int .i64 0, .string ⟨#[]⟩] 49)) n).1
  cases hf : f n with
  | none =>
    rw [hf] at hl
    simp only [vL] at hl
    go_enter Tryd.func24, Tryd.ntmps24
    go_wp2_with fail
    exact bodyPost_ret (v := .agg #[.bool false, .int .i64 0, .string ⟨#[]⟩]) (by simp [results, Tryd.results24, go_sem]) rfl ⟨rfl, hs.alloc' _, (Kp.refl w).alloc _⟩
  | some s =>
    rw [hf] at hl
    simp only [vL] at hl
    go_enter Tryd.func24, Tryd.ntmps24
    go_wp2_with fail
    exact bodyPost_ret (v := .agg #[.bool true, .int .i64 s.up, .string s.name]) (by simp [results, Tryd.results24, go_sem]) rfl ⟨rfl, hs.alloc' _, (Kp.refl w).alloc _⟩

theorem kid_neq (a : KidD) (W : World) : (binOp BinOp.neq 39 (.agg #[.int .i64 a.up, .string a.name, .int .i64 a.node]) (.agg #[.int .i64 a.up, .string a.name, .int .i64 a.node])).run Tryd.prog W = .ok (.bool false) W := by
  go_simp
  try simp

set_option maxRecDepth 100000 in
set_option maxHeartbeats 2000000 in
theorem same_list {w : World} {l : List HProp} {v v' : Value} {ks : List KidD} (hs : Sat w (rowT fK v 39 3 ks :: rowT fK v' 39 3 ks :: l)) (hn : ks.length ≤ 1000) :
    Calls Tryd.prog 28 #[v, v'] w fun e w' => e = .returned (.bool true) ∧ Sat w' (rowT fK v 39 3 ks :: rowT fK v' 39 3 ks :: l) ∧ Kp w w' := by
  obtain ⟨ao, cap, rfl⟩ := hs.tLen
  obtain ⟨bo, bcap, rfl⟩ := (hs.pull 1).tLen
  obtain ⟨n, hn0⟩ : ∃ n, n = ks.length := ⟨_, rfl⟩
  rw [← hn0] at hs hn ⊢
  have HN := Lib.hid hn0
  have hn' : (n : Int) ≤ 1000 := by omega
  have hnn : ((n : Int) != (n : Int)) = false := by simp
  clear hn0
  go_enter Tryd.func28, Tryd.ntmps28
  go_wp2_with fail
  go_loopw [5] (fun iv wr => ∃ i : Nat, i ≤ n ∧ iv = .int .i64 i ∧ Sat wr (rowT fK (.slice ao n cap) 39 3 ks :: rowT fK (.slice bo n bcap) 39 3 ks :: l) ∧ Kp w wr) (fun iv _ => n - (intOf iv).toNat)
  case atStart => exact ⟨0, by omega, rfl, hs, Kp.refl w⟩
  case round =>
    obtain ⟨i, hin, rfl, h2, k2⟩ := hrel
    by_cases hlt : i < n
    case neg =>
      obtain rfl : n = i := by omega
      go_wp2_with fail
      go_ret
      exact ⟨rfl, h2, k2⟩
    obtain ⟨x, hx⟩ : ∃ x, ks[i]? = some x := ⟨ks[i]'(by rw [← HN.out]; exact hlt), by simp⟩
    rcases h2.tForm with ⟨hv, hp⟩ | ⟨g, off, cap', hv⟩
    · rw [hp] at hx; simp at hx
    simp only [Value.slice.injEq] at hv
    obtain ⟨rfl, -, rfl⟩ := hv
    rcases (h2.pull 1).tForm with ⟨hv, hp⟩ | ⟨g2, off2, cap2, hv⟩
    · rw [hp] at hx; simp at hx
    simp only [Value.slice.injEq] at hv
    obtain ⟨rfl, -, rfl⟩ := hv
    have x0 := h2.tCell len_fK i 0 hx rfl
    have x1 := h2.tCell len_fK i 1 hx rfl
    have x2 := h2.tCell len_fK i 2 hx rfl
    have y0 := (h2.pull 1).tCell len_fK i 0 hx rfl
    have y1 := (h2.pull 1).tCell len_fK i 1 hx rfl
    have y2 := (h2.pull 1).tCell len_fK i 2 hx rfl
    rw [Nat.add_zero] at x0 y0
    have hg := h2.rowBlock
    have hg2 := (h2.pull 1).rowBlock
    have i0' : (0 : Int) ≤ (i : Int) := by omega
    have i1' : (i : Int) < (n : Int) := by omega
    have heq := fun W => kid_neq x W
    clear hx
    go_upto_region 6 with (fail)
    go_quiet (fail)
    clear x0 x1 x2 y0 y1 y2 heq
    go_wp2_with fail
    go_roundw
    case rel => exact ⟨i + 1, by omega, by go_num, h2.drewN _, k2.drewN _⟩
    case measure => simp [intOf]; omega

end Go.Proofs.YtbnipieokpeadaaDoor

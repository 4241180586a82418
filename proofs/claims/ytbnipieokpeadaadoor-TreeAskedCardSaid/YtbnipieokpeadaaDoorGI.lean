import Derived.Test.YtbnipieokpeadaaDoorGE
import Derived.Test.YtbnipieokpeadaaDoorGF
namespace Go.Proofs.YtbnipieokpeadaaDoor
open Go Go.RowKit
set_option linter.unusedVariables false
set_option linter.unusedSimpArgs false

/-- There are not more than a thousand nodes. -/
def Bnd (f : Int → Option Loc) : Prop := ∀ S : List (Int × Loc), (∀ p ∈ S, f p.1 = some p.2) → (S.map Prod.fst).Nodup → S.length ≤ 1000

set_option maxRecDepth 100000 in
set_option maxHeartbeats 2000000 in
theorem picked_kids2 {w : World} {l : List HProp} {t B : Nat} {f : Int → Option Loc} {ds : List ChD} {n : Int} (hs : Sat w (treeP t f ds :: own B (.cells #[.int .i64 n] 3 (0, 0)) :: l)) (hF : Bnd f) :
    Calls Tryd.prog 41 #[.pointer (some ⟨t, 0, none⟩), (.func (.func 42) #[] #[.pointer (some ⟨B, 0, none⟩)])] w fun e w' => ∃ S v, Enum f S ∧ e = .returned v ∧ Sat w' (rowT fK v 39 3 (isort klt (kidsOf (fun p => p.2.up == n) S)) :: treeP t f ds :: own B (.cells #[.int .i64 n] 3 (0, 0)) :: l) ∧ Kp w w' := by
  obtain ⟨i0, hi, hz0, hz1, hz2⟩ := info_parts Tryd.infoKid
  have HF := Lib.hid hF
  clear hF
  obtain ⟨bm, dv, hv⟩ := treeP_E hs
  have c0 := hv.cell 0
  simp at c0
  go_enter Tryd.func41, Tryd.ntmps41
  go_wp2_with (at_range; refine wpList_rangeM _ rfl (.tmp 11) 66 rfl Tryd.underlying66 rfl (hv.pull 1) ?_; intro w1 cnt h1 k1 s1)
  go_frame
  have h1 := (h1.tNil fK 39 3).swap
  clear s1 c0 hv hs
  generalize w.heap.size = r at h1 ⊢
  go_loopw [5] (fun ov wr => ∃ (S : List (Int × Loc)) (c : Nat), Sat wr (rngP bm r f S c :: rowT fK ov 39 3 (kidsOf (fun p => p.2.up == n) S) :: own t (.cells #[.map (some bm), dv] 69 (0, 0)) :: rowT fC dv 71 7 ds :: own B (.cells #[.int .i64 n] 3 (0, 0)) :: l) ∧ Kp w wr) (fun _ wr => wr.rangeLeft bm r)
  case atStart => exact ⟨[], cnt, h1, k1⟩
  case round =>
    clear h1 k1
    obtain ⟨S, c, h2, k2⟩ := hrel
    obtain ⟨hSm, hSn⟩ := h2.rngFacts
    have hS8 : (kidsOf (fun p => p.2.up == n) S).length ≤ 1000 := Nat.le_trans (kidsOf_len _ _) (HF.out _ hSm hSn)
    have HSm := Lib.hid hSm
    have HSn := Lib.hid hSn
    clear hSm hSn
    go_wp2_with (at_next; refine wpList_nextM _ rfl (.tmp 12) rfl rfl h2 ?_ ?_)
    · intro hall
      have HA := Lib.hid hall
      clear hall
      have h3 := h2.rngDone.pull 1
      obtain ⟨oao, ocap, rfl⟩ := h3.tLen
      go_wp2_with fail
      refine (kid_sort_any h3 (by omega)).mono ?_
      rintro e w3 ⟨rfl, h4, k4⟩
      go_wp2_with fail
      go_ret
      have h5 := treeP_I ((h4.pull 2).pull 1 |>.push 3)
      exact ⟨S, _, ⟨HA.out, HSm.out, HSn.out⟩, rfl, h5.swap, k2.trans k4⟩
    · intro k s w2 c' hf hk hc h3 k3 hen
      have HC := Lib.hid hc
      clear hf hk hc
      simp only [vL] at hen ⊢
      have hrl := h2.rngLeft
      have HRL := Lib.hid hrl
      clear hrl
      have hA := h3.alloc (.cells #[.bool true, .int .i64 s.up, .string s.name] 49)
      have kA := (k2.trans k3).alloc (.cells #[.bool true, .int .i64 s.up, .string s.name] 49)
      go_upto_region 5 with (fail)
      generalize World.alloc _ _ = w3 at hA kA ⊢
      generalize w2.heap.size = A at hA ⊢
      clear hen h2 h3 k2 k3
      have a0 := hA.cell 0
      have a1 := hA.cell 1
      have a2 := hA.cell 2
      simp at a0 a1 a2
      obtain ⟨oao, ocap, rfl⟩ := (hA.pull 2).tLen
      go_wp2_with fail
      refine (fits_kids (hA.pull 5) s).mono ?_
      rintro e w4 ⟨rfl, h5, k5⟩
      have h6 := (h5.pull 1)
      have k6 := kA.trans k5
      clear a0 a1 a2 hA kA h5 k5
      cases hb : (s.up == n) with
      | true =>
        have a0 := h6.cell 0
        have a1 := h6.cell 1
        have a2 := h6.cell 2
        simp at a0 a1 a2
        have hL := h6.alloc (.cells #[.int .i64 s.up, .string s.name, .int .i64 k] 39)
        have kL := k6.alloc (.cells #[.int .i64 s.up, .string s.name, .int .i64 k] 39)
        go_wp2_with (at_builtin; refine wpList_append_lit rfl (.tmp 21) (.tmp 28) 36 rfl 39 i0 _ 3 32 Tryd.underlying36 hi hz0 hz1 hz2 rfl (by decide) _ _ _ _ _ _ _ rfl (hL.pull 4) 1 1 rfl rfl rfl ?c3 ?c4 ?c5)
        case c3 => unfold maxLen; omega
        case c4 => omega
        case c5 =>
          intro v' w5 hs5 hk5
          have h7 := Sat.tSnoc (f := fK) (x := kidOf (k, s)) hs5 rfl
          go_wp2_with fail
          go_roundw
          case rel =>
            refine ⟨S ++ [(k, s)], c', ?_, kL.trans hk5⟩
            rw [kidsOf_snoc]
            rw [hb, if_pos rfl]
            exact (((((h7.pull 4).pull 2).tail.pull 2).tail.pull 2).push 4)
          case measure =>
            rw [HRL.out]
            exact Nat.lt_of_le_of_lt (Nat.le_of_eq ((h7.pull 4).rngLeft)) HC.out
      | false =>
        go_wp2_with fail
        go_roundw
        case rel =>
          refine ⟨S ++ [(k, s)], c', ?_, k6⟩
          rw [kidsOf_snoc]
          rw [hb, if_neg (by simp)]
          exact h6.tail.push 4
        case measure =>
          rw [HRL.out]
          exact Nat.lt_of_le_of_lt (Nat.le_of_eq ((h6.pull 2).rngLeft)) HC.out

set_option maxRecDepth 100000 in
set_option maxHeartbeats 2000000 in
theorem picked_all2 {w : World} {l : List HProp} {t : Nat} {f : Int → Option Loc} {ds : List ChD} (hs : Sat w (treeP t f ds :: l)) (hF : Bnd f) :
    Calls Tryd.prog 41 #[.pointer (some ⟨t, 0, none⟩), (.func (.func 48) #[] #[])] w fun e w' => ∃ S v, Enum f S ∧ e = .returned v ∧ Sat w' (rowT fK v 39 3 (isort klt (kidsOf (fun _ => true) S)) :: treeP t f ds :: l) ∧ Kp w w' := by
  obtain ⟨i0, hi, hz0, hz1, hz2⟩ := info_parts Tryd.infoKid
  have HF := Lib.hid hF
  clear hF
  obtain ⟨bm, dv, hv⟩ := treeP_E hs
  have c0 := hv.cell 0
  simp at c0
  go_enter Tryd.func41, Tryd.ntmps41
  go_wp2_with (at_range; refine wpList_rangeM _ rfl (.tmp 11) 66 rfl Tryd.underlying66 rfl (hv.pull 1) ?_; intro w1 cnt h1 k1 s1)
  go_frame
  have h1 := (h1.tNil fK 39 3).swap
  clear s1 c0 hv hs
  generalize w.heap.size = r at h1 ⊢
  go_loopw [5] (fun ov wr => ∃ (S : List (Int × Loc)) (c : Nat), Sat wr (rngP bm r f S c :: rowT fK ov 39 3 (kidsOf (fun _ => true) S) :: own t (.cells #[.map (some bm), dv] 69 (0, 0)) :: rowT fC dv 71 7 ds :: l) ∧ Kp w wr) (fun _ wr => wr.rangeLeft bm r)
  case atStart => exact ⟨[], cnt, h1, k1⟩
  case round =>
    clear h1 k1
    obtain ⟨S, c, h2, k2⟩ := hrel
    obtain ⟨hSm, hSn⟩ := h2.rngFacts
    have hS8 : (kidsOf (fun _ => true) S).length ≤ 1000 := Nat.le_trans (kidsOf_len _ _) (HF.out _ hSm hSn)
    have HSm := Lib.hid hSm
    have HSn := Lib.hid hSn
    clear hSm hSn
    go_wp2_with (at_next; refine wpList_nextM _ rfl (.tmp 12) rfl rfl h2 ?_ ?_)
    · intro hall
      have HA := Lib.hid hall
      clear hall
      have h3 := h2.rngDone.pull 1
      obtain ⟨oao, ocap, rfl⟩ := h3.tLen
      go_wp2_with fail
      refine (kid_sort_any h3 (by omega)).mono ?_
      rintro e w3 ⟨rfl, h4, k4⟩
      go_wp2_with fail
      go_ret
      have h5 := treeP_I ((h4.pull 2).pull 1 |>.push 3)
      exact ⟨S, _, ⟨HA.out, HSm.out, HSn.out⟩, rfl, h5.swap, k2.trans k4⟩
    · intro k s w2 c' hf hk hc h3 k3 hen
      have HC := Lib.hid hc
      clear hf hk hc
      simp only [vL] at hen ⊢
      have hrl := h2.rngLeft
      have HRL := Lib.hid hrl
      clear hrl
      have hA := h3.alloc (.cells #[.bool true, .int .i64 s.up, .string s.name] 49)
      have kA := (k2.trans k3).alloc (.cells #[.bool true, .int .i64 s.up, .string s.name] 49)
      go_upto_region 5 with (fail)
      generalize World.alloc _ _ = w3 at hA kA ⊢
      generalize w2.heap.size = A at hA ⊢
      clear hen h2 h3 k2 k3
      have a0 := hA.cell 0
      have a1 := hA.cell 1
      have a2 := hA.cell 2
      simp at a0 a1 a2
      obtain ⟨oao, ocap, rfl⟩ := (hA.pull 2).tLen
      go_wp2_with fail
      refine (fits_all hA s).mono ?_
      rintro e w4 ⟨rfl, h5, k5⟩
      have h6 := h5
      have k6 := kA.trans k5
      clear a0 a1 a2 hA kA h5 k5
      have a0 := h6.cell 0
      have a1 := h6.cell 1
      have a2 := h6.cell 2
      simp at a0 a1 a2
      have hL := h6.alloc (.cells #[.int .i64 s.up, .string s.name, .int .i64 k] 39)
      have kL := k6.alloc (.cells #[.int .i64 s.up, .string s.name, .int .i64 k] 39)
      go_wp2_with (at_builtin; refine wpList_append_lit rfl (.tmp 21) (.tmp 28) 36 rfl 39 i0 _ 3 32 Tryd.underlying36 hi hz0 hz1 hz2 rfl (by decide) _ _ _ _ _ _ _ rfl (hL.pull 3) 1 1 rfl rfl rfl ?c3 ?c4 ?c5)
      case c3 => unfold maxLen; omega
      case c4 => omega
      case c5 =>
        intro v' w5 hs5 hk5
        have h7 := Sat.tSnoc (f := fK) (x := kidOf (k, s)) hs5 rfl
        go_wp2_with fail
        go_roundw
        case rel =>
          refine ⟨S ++ [(k, s)], c', ?_, kL.trans hk5⟩
          rw [kidsOf_snoc]
          rw [if_pos rfl]
          exact ((((h7.pull 3).pull 2).tail.pull 2).tail)
        case measure =>
          rw [HRL.out]
          exact Nat.lt_of_le_of_lt (Nat.le_of_eq ((h7.pull 3).rngLeft)) HC.out

end Go.Proofs.YtbnipieokpeadaaDoor

namespace Go.Proofs.YtbnipieokpeadaaDoor
open Go Go.RowKit
set_option linter.unusedVariables false
set_option linter.unusedSimpArgs false

theorem tree_kids2 {w : World} {l : List HProp} {t : Nat} {f : Int → Option Loc} {ds : List ChD} {n : Int} (hs : Sat w (treeP t f ds :: l)) (hF : Bnd f) :
    Calls Tryd.prog 16 #[.pointer (some ⟨t, 0, none⟩), .int .i64 n] w fun e w' => ∃ S v, Enum f S ∧ e = .returned v ∧ Sat w' (rowT fK v 39 3 (isort klt (kidsOf (fun p => p.2.up == n) S)) :: treeP t f ds :: l) ∧ Kp w w' := by
  have hmf : ∀ (fn : Fn) (first cap : Array Value) (w : World), (Instr.makeFunc fn first cap).run Tryd.prog w = .ok (.func fn first cap) w := fun _ _ _ _ => rfl
  have hB := (hs.alloc (.cells #[.int .i64 n] 3)).swap
  have kB := (Kp.refl w).alloc (.cells #[.int .i64 n] 3)
  go_enter Tryd.func16, Tryd.ntmps16
  go_wp2_with fail
  refine (picked_kids2 hB hF).mono ?_
  rintro e w1 ⟨S, v, hS, rfl, h1, k1⟩
  go_wp2_with fail
  go_ret
  exact ⟨S, v, hS, rfl, (h1.pull 2).tail, kB.trans k1⟩
theorem tree_all2 {w : World} {l : List HProp} {t : Nat} {f : Int → Option Loc} {ds : List ChD} (hs : Sat w (treeP t f ds :: l)) (hF : Bnd f) :
    Calls Tryd.prog 27 #[.pointer (some ⟨t, 0, none⟩)] w fun e w' => ∃ S v, Enum f S ∧ e = .returned v ∧ Sat w' (rowT fK v 39 3 (isort klt (kidsOf (fun _ => true) S)) :: treeP t f ds :: l) ∧ Kp w w' := by
  go_enter Tryd.func27, Tryd.ntmps27
  go_wp2_with fail
  refine (picked_all2 hs hF).mono ?_
  rintro e w1 ⟨S, v, hS, rfl, h1, k1⟩
  go_wp2_with fail
  go_ret
  exact ⟨S, v, hS, rfl, h1, k1⟩

end Go.Proofs.YtbnipieokpeadaaDoor

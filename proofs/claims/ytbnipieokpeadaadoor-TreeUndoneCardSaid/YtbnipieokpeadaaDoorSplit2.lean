import Derived.Test.YtbnipieokpeadaaDoorSplit
import Derived.Deep.CutRange
import Derived.IntWalk
namespace Go.Proofs.YtbnipieokpeadaaDoor
open Go Go.RowKit
set_option linter.unusedVariables false
set_option linter.unusedSimpArgs false

/-! ### a path's names -/

def mkB (l : List UInt8) : ByteArray := ⟨l.toArray⟩
theorem mkB_list (s : ByteArray) : mkB s.data.toList = s := by cases s; rfl
theorem list_mkB (l : List UInt8) : (mkB l).data.toList = l := rfl
theorem mkB_size (l : List UInt8) : (mkB l).size = l.length := by simp [mkB, ByteArray.size]
theorem ba_ext {a b : ByteArray} (h : a.data.toList = b.data.toList) : a = b := by rw [← mkB_list a, ← mkB_list b, h]
theorem ext_upto (s : ByteArray) (k : Nat) : s.extract 0 k = mkB (s.data.toList.take k) := by
  apply ba_ext
  rw [list_mkB]
  simp
theorem ext_from (s : ByteArray) (k : Nat) : s.extract k s.size = mkB (s.data.toList.drop k) := by
  apply ba_ext
  rw [list_mkB, ByteArray.data_extract, Array.toList_extract]
  show List.take (s.data.size - k) (s.data.toList.drop k) = _
  exact List.take_of_length_le (by rw [List.length_drop, Array.length_toList]; exact Nat.le_refl _)

/-- What stands between the strokes. -/
def splitS : List UInt8 → List (List UInt8)
  | [] => [[]]
  | c :: l => if c = 47 then [] :: splitS l else match splitS l with
    | [] => [[c]]
    | h :: t => (c :: h) :: t
theorem splitS_len : ∀ l, (splitS l).length = Lib.countByte l 47 + 1
  | [] => rfl
  | c :: l => by
    unfold splitS Lib.countByte
    rw [List.count_cons]
    have ih := splitS_len l
    unfold Lib.countByte at ih
    by_cases h : c = 47
    · rw [if_pos h, h]; simp [ih]
    · rw [if_neg h]
      cases hs : splitS l with
      | nil => rw [hs] at ih; simp at ih
      | cons a t => rw [hs] at ih; simp [h] at ih ⊢; omega
theorem splitS_none : ∀ {l : List UInt8}, (47 : UInt8) ∉ l → splitS l = [l]
  | [], _ => rfl
  | c :: l, h => by
    have hc : c ≠ 47 := fun e => h (by rw [e]; exact List.mem_cons_self ..)
    unfold splitS
    rw [if_neg hc, splitS_none (fun e => h (List.mem_cons_of_mem _ e))]
theorem splitS_cut : ∀ {p : List UInt8} {r : List UInt8}, (47 : UInt8) ∉ p → splitS (p ++ 47 :: r) = p :: splitS r
  | [], r, _ => by
    show splitS (47 :: r) = _
    conv => lhs; unfold splitS
    rw [if_pos rfl]
  | c :: p, r, h => by
    have hc : c ≠ 47 := fun e => h (by rw [e]; exact List.mem_cons_self ..)
    show splitS (c :: (p ++ 47 :: r)) = _
    conv => lhs; unfold splitS
    rw [if_neg hc, splitS_cut (fun e => h (List.mem_cons_of_mem _ e))]
theorem cut_at : ∀ {l : List UInt8}, 1 < (splitS l).length → ∃ p r, l = p ++ 47 :: r ∧ (47 : UInt8) ∉ p ∧ Lib.indexByte l 47 = (p.length : Nat)
  | [], h => by simp [splitS] at h
  | c :: l, h => by
    by_cases hc : c = 47
    · subst hc
      exact ⟨[], l, rfl, by simp, by simp [Lib.indexByte]⟩
    · have h1 : 1 < (splitS l).length := by
        unfold splitS at h
        rw [if_neg hc] at h
        cases hs : splitS l with
        | nil => rw [hs] at h; simp at h
        | cons a t => rw [hs] at h; simpa using h
      obtain ⟨p, r, rfl, hp, hi⟩ := cut_at h1
      refine ⟨c :: p, r, rfl, ?_, ?_⟩
      · intro e
        rcases List.mem_cons.1 e with e | e
        · exact hc e.symm
        · exact hp e
      · unfold Lib.indexByte
        simp only [hc, hi]
        simp [hc, hi]
        try omega
theorem splitS_one {l : List UInt8} (h : (splitS l).length = 1) : splitS l = [l] := by
  apply splitS_none
  intro hm
  have h2 := splitS_len l
  have : 0 < Lib.countByte l 47 := List.count_pos_iff.2 hm
  omega
theorem count_le_size (s : ByteArray) : Lib.countByte s.data.toList 47 ≤ s.size := by
  have : Lib.countByte s.data.toList 47 ≤ s.data.toList.length := List.count_le_length
  exact Nat.le_trans this (Nat.le_of_eq (Array.length_toList))

theorem Sat.tSetOne {α : Type} {f : α → List Value} {w : World} {e : TypeId} {xs : List α} {l : List HProp} {g off n cap : Nat} (hf : ∀ x, (f x).length = 1) (hs : Sat w (rowT f (.slice (some ⟨g, off, none⟩) n cap) e 1 xs :: l)) (i : Nat) (y : α) (hi : i < xs.length) {u : Value} (hu : f y = [u]) :
    Sat (w.setCell ⟨g, off + i, none⟩ u) (rowT f (.slice (some ⟨g, off, none⟩) n cap) e 1 (xs.set i y) :: l) := by
  have h := hs.tPut' hf i y hi
  rw [hu, Nat.mul_one] at h
  exact h
theorem len_fSt2 (s : ByteArray) : (fSt s).length = 1 := rfl

set_option maxHeartbeats 1000000 in
set_option maxRecDepth 100000 in
theorem index_slash2 {w : World} (s : ByteArray) : Calls Tryd.prog 90 #[.string s, .string ⟨#[47]⟩] w fun e w' => e = .returned (.int .i64 (Lib.indexByte s.data.toList 47)) ∧ w = w' := by
  cases hx : (([47] : List UInt8) == s.toList) with
  | true =>
    have hs : s.data.toList = [47] := by
      rw [← ByteArray.toList_eq]
      exact (eq_of_beq hx).symm
    rw [hs]
    go_enter Tryd.func90, Tryd.ntmps90
    go_wp2_with go_in
    go_ret
    exact ⟨by first | rfl | kernel_rfl, rfl⟩
  | false =>
    go_enter Tryd.func90, Tryd.ntmps90
    go_wp2_with (first | (go_at_call 102; refine (index_byte _ _).mono ?_; rintro e w1 ⟨rfl, rfl⟩) | go_in)
    go_ret
    exact ⟨by first | rfl | kernel_rfl, rfl⟩

theorem names_set (ps : List (List UInt8)) (x : List UInt8) (k : Nat) : (ps.map mkB ++ List.replicate (k + 1) (⟨#[]⟩ : ByteArray)).set ps.length (mkB x) = (ps ++ [x]).map mkB ++ List.replicate k (⟨#[]⟩ : ByteArray) := by
  rw [List.set_append_right _ _ (by simp), List.length_map, Nat.sub_self, List.replicate_succ, List.set_cons_zero]
  simp

theorem splitS_pos (l : List UInt8) : 1 ≤ (splitS l).length := by rw [splitS_len]; omega

set_option maxHeartbeats 2000000 in
set_option maxRecDepth 100000 in
theorem split_gen2 {w : World} {l : List HProp} (s : ByteArray) (hsz : s.size ≤ 1000) (hs : Sat w l) : Calls Tryd.prog 73 #[.string s, .string ⟨#[47]⟩, .int .i64 0, .int .i64 (-1)] w fun e w' => ∃ v, e = .returned v ∧ Sat w' (rowT fSt v 9 1 ((splitS s.data.toList).map mkB) :: l) ∧ Kp w w' := by
  obtain ⟨i0, hi, hz0, hz1, hz2⟩ := info_parts Tryd.infoStr
  have hcs := count_le_size s
  have hlen := splitS_len s.data.toList
  obtain ⟨c, hc⟩ : ∃ c, c = Lib.countByte s.data.toList 47 := ⟨_, rfl⟩
  obtain ⟨n, hn⟩ : ∃ n, n = c + 1 := ⟨_, rfl⟩
  obtain ⟨z, hz⟩ : ∃ z, z = s.size + 1 := ⟨_, rfl⟩
  rw [← hc] at hlen hcs
  have hmk1 := fun W => run_make_rowN (P := Tryd.prog) 75 9 i0 (.string ⟨#[]⟩) Tryd.underlying75 hi hz0 .i64 .i64 n n (Nat.le_refl _) (by rw [hz2]; omega) (by omega) W
  rw [hz1] at hmk1
  have hw1 : IntKind.i64.wrap ((c : Int) + 1) = (n : Int) := by rw [IntWalk.i64_in _ (by omega)]; omega
  have hw2 : IntKind.i64.wrap ((s.size : Int) + 1) = (z : Int) := by rw [IntWalk.i64_in _ (by omega)]; omega
  have hmin : min (n : Int) (z : Int) = (n : Int) := by omega
  have hw3 : IntKind.i64.wrap ((n : Int) - 1) = (c : Int) := by rw [IntWalk.i64_in _ (by omega)]; omega
  have hA := (hs.alloc (.cells (madeCells #[.string ⟨#[]⟩] (n * 1)) 9)).tMade (f := fSt) ⟨#[]⟩ rfl (by omega) rfl (by unfold maxLen; omega)
  have kA := (Kp.refl w).alloc (.cells (madeCells #[.string ⟨#[]⟩] (n * 1)) 9)
  simp only [Nat.mul_one] at hA kA
  have HC := Lib.hid hc
  have HN := Lib.hid hn
  have HL := Lib.hid hlen
  have HCS := Lib.hid hcs
  clear hc hn hlen hz hcs
  go_enter Tryd.func73, Tryd.ntmps73
  go_wp2_with fail
  refine (count_slash _).mono ?_
  rintro e w1 ⟨rfl, rfl⟩
  rw [← HC.out]
  go_wp2_with fail
  generalize World.alloc _ _ = w1 at hA kA ⊢
  generalize w.heap.size = g at hA ⊢
  go_loopw [0, 10, 11] (fun xv iv mv wr => ∃ (i : Nat) (x : ByteArray) (ps : List (List UInt8)), i ≤ c ∧ iv = .int .i64 i ∧ xv = .string x ∧ Hid (ps.length = i ∧ x.size ≤ 1000 ∧ splitS s.data.toList = ps ++ splitS x.data.toList) ∧ Sat wr (rowT fSt (.slice (some ⟨g, 0, none⟩) n n) 9 1 (ps.map mkB ++ List.replicate (n - i) ⟨#[]⟩) :: l) ∧ Kp w wr) (fun _ iv _ _ => c - (intOf iv).toNat)
  case atStart => exact ⟨0, s, [], by omega, rfl, rfl, Lib.hid ⟨rfl, hsz, rfl⟩, by simpa using hA, kA⟩
  case round =>
    clear hA kA
    obtain ⟨i, x, ps, hic, rfl, rfl, hI, h2, k2⟩ := hrel
    have hil : ps.length = i := hI.out.1
    have hxl : (splitS x.data.toList).length + i = n := by
      have h1 := HL.out
      rw [hI.out.2.2, List.length_append, hil] at h1
      have := HN.out
      omega
    have hbd : i < (ps.map mkB ++ List.replicate (n - i) (⟨#[]⟩ : ByteArray)).length := by rw [List.length_append, List.length_map, List.length_replicate]; have := HN.out; omega
    have f0 := (h2).rowFree (0 + i)
    rw [Nat.zero_add] at f0
    obtain ⟨u0, hu0⟩ : ∃ u0, (ps.map mkB ++ List.replicate (n - i) (⟨#[]⟩ : ByteArray))[i]? = some u0 := ⟨_, List.getElem?_eq_getElem hbd⟩
    have c0 := h2.tCell len_fSt2 i 0 hu0 rfl
    simp at c0
    have HU0 := Lib.hid hu0
    have HBD := Lib.hid hbd
    have HIL := Lib.hid hil
    have HXL := Lib.hid hxl
    clear hu0 hbd hil hxl
    by_cases hlt : i < c
    case pos =>
      have i0' : (0 : Int) ≤ (i : Int) := by omega
      have i1' : (i : Int) < (n : Int) := by have := HN.out; omega
      have i2' : (i : Int) < (c : Int) := by omega
      obtain ⟨pp, r, hx, hp, hidx⟩ := cut_at (l := x.data.toList) (by have := HXL.out; have := HN.out; omega)
      obtain ⟨m, hm⟩ : ∃ m, m = pp.length := ⟨_, rfl⟩
      rw [← hm] at hidx
      have hxs : x.size = m + 1 + r.length := by
        have : x.data.toList.length = x.size := Array.length_toList
        rw [← this, hx, hm]; simp; omega
      have hxb := hI.out.2.1
      have e0 : x.extract 0 m = mkB pp := by rw [ext_upto, hx, hm]; simp
      have e1 : x.extract (m + 1) x.size = mkB r := by
        rw [ext_from, hx, hm]
        congr 1
        rw [show pp.length + 1 = (pp ++ [47]).length by simp, show pp ++ 47 :: r = (pp ++ [47]) ++ r by simp, List.drop_left]
      obtain ⟨m1, hm1⟩ : ∃ m1, m1 = m + 1 := ⟨_, rfl⟩
      rw [← hm1] at e1
      have w1' : IntKind.i64.wrap ((m : Int)) = (m : Int) := IntWalk.i64_in _ (by omega)
      have w2' : IntKind.i64.wrap ((m : Int) + 1) = (m1 : Int) := by rw [IntWalk.i64_in _ (by omega)]; omega
      have b0 : (0 : Int) ≤ (m : Int) := by omega
      have b1 : (m : Int) ≤ (x.size : Int) := by omega
      have b2 : (0 : Int) ≤ (m1 : Int) := by omega
      have b3 : (m1 : Int) ≤ (x.size : Int) := by omega
      have b4 : ¬ (m : Int) < 0 := by omega
      have w3' : IntKind.i64.wrap ((i : Int) + 1) = (i : Int) + 1 := by have := HCS.out; rw [IntWalk.i64_in _ (by omega)]
      have h3 := Sat.tSetOne len_fSt2 h2 i (mkB pp) HBD.out (u := .string (mkB pp)) rfl
      have k3 := k2.setCell ⟨g, 0 + i, none⟩ (.string (mkB pp))
      rw [Nat.zero_add] at h3 k3
      have hset : (ps.map mkB ++ List.replicate (n - i) (⟨#[]⟩ : ByteArray)).set i (mkB pp) = (ps ++ [pp]).map mkB ++ List.replicate (n - (i + 1)) (⟨#[]⟩ : ByteArray) := by
        have := names_set ps pp (n - (i + 1))
        rw [HIL.out] at this
        rw [← this, show n - (i + 1) + 1 = n - i by have := HN.out; omega]
      rw [hset] at h3
      have HI2 := Lib.hid (show (ps ++ [pp]).length = i + 1 ∧ (mkB r).size ≤ 1000 ∧ splitS s.data.toList = (ps ++ [pp]) ++ splitS (mkB r).data.toList from ⟨by rw [List.length_append, HIL.out]; rfl, by rw [mkB_size]; omega, by rw [hI.out.2.2, hx, splitS_cut hp, list_mkB]; simp⟩)
      have HIDX := Lib.hid hidx
      clear hset hx hp hidx hm hxs hxb hm1 h2 k2
      go_wp2_with fail
      refine (index_slash2 x).mono ?_
      rintro e w2 ⟨rfl, rfl⟩
      rw [HIDX.out]
      go_wp2_with fail
      go_roundw
      case rel => exact ⟨i + 1, mkB r, ps ++ [pp], by omega, by go_num, rfl, HI2, h3, k3⟩
      case measure => simp [intOf]; omega
    obtain rfl : c = i := by omega
    have i0' : (0 : Int) ≤ (c : Int) := by omega
    have i1' : (c : Int) < (n : Int) := by have := HN.out; omega
    have i3' : (0 : Int) ≤ (n : Int) := by omega
    have h3 := Sat.tSetOne len_fSt2 h2 c x HBD.out (u := .string x) rfl
    have k3 := k2.setCell ⟨g, 0 + c, none⟩ (.string x)
    rw [Nat.zero_add] at h3 k3
    have hone := splitS_one (l := x.data.toList) (by have := HXL.out; have := HN.out; omega)
    have hset : (ps.map mkB ++ List.replicate (n - c) (⟨#[]⟩ : ByteArray)).set c x = (splitS s.data.toList).map mkB := by
      have := names_set ps x.data.toList 0
      rw [HIL.out, mkB_list] at this
      rw [show n - c = 0 + 1 by have := HN.out; omega, this, hI.out.2.2, hone]
      simp
    rw [hset] at h3
    clear hset hone h2 k2
    go_wp2_with fail
    go_ret
    exact ⟨_, rfl, h3, k3⟩

end Go.Proofs.YtbnipieokpeadaaDoor

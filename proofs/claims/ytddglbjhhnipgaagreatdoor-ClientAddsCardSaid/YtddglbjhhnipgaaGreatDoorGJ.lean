import Derived.Test.YtddglbjhhnipgaaGreatDoorGH
import Derived.Test.YtddglbjhhnipgaaGreatDoorGE
import Derived.Lib.Strings
import Derived.Lib.Slices
import Derived.Lib.Walk
import Derived.Lib.Bytealg
import Derived.LoopN
import Derived.Deep.CutRange
import Derived.IntWalk
namespace Go.Proofs.YtddglbjhhnipgaaGreatDoor
open Go Go.RowKit
set_option linter.unusedVariables false
set_option linter.unusedSimpArgs false
set_option maxRecDepth 100000
set_option maxHeartbeats 8000000
def fSt (s : ByteArray) : List Value := [.string s]
def slash : ByteArray := ⟨#[47]⟩
theorem count_slash {w : World} (s : ByteArray) : Calls Tryz.prog 132 #[.string s, .string ⟨#[47]⟩] w fun e w' => e = .returned (.int .i64 (Lib.countByte s.data.toList 47)) ∧ w = w' := by
 go_enter Tryz.func132, Tryz.ntmps132
 go_wp2
 rw [run_callFunc_extern Tryz.func155 (by kernel_rfl) (by kernel_rfl) (by kernel_rfl) (e := Extern.BytealgCount.count) (by kernel_rfl), Lib.run_countString]
 simp only [Result.andThen]
 rw [Oper.upon_value]
 go_wp2
 go_ret
 exact ⟨rfl, rfl⟩
theorem prefix_slash {w : World} : Calls Tryz.prog 79 #[.string ⟨#[47, 97, 47, 98]⟩, .string ⟨#[47]⟩] w fun e w' => e = .returned (.bool true) ∧ w = w' := by
 have hx : (((⟨#[47, 97, 47, 98]⟩ : ByteArray).extract 0 1).toList == [47]) = true := by decide +kernel
 go_enter Tryz.func79, Tryz.ntmps79
 go_wp2
 go_ret
 exact ⟨rfl, rfl⟩
theorem index_byte {w : World} (s : ByteArray) (c : Int) : Calls Tryz.prog 179 #[.string s, .int .u8 c] w fun e w' => e = .returned (.int .i64 (Lib.indexByte s.data.toList c.toNat.toUInt8)) ∧ w = w' := by
 go_enter Tryz.func179, Tryz.ntmps179
 go_wp2
 rw [run_callFunc_extern Tryz.func208 (by kernel_rfl) (by kernel_rfl) (by kernel_rfl) (e := Extern.BytealgIndexByte.indexByte) (by kernel_rfl), Lib.run_indexByteString]
 simp only [Result.andThen]
 rw [Oper.upon_value]
 go_wp2
 go_ret
 exact ⟨rfl, rfl⟩
theorem index_slash {w : World} : Calls Tryz.prog 133 #[.string ⟨#[97, 47, 98]⟩, .string ⟨#[47]⟩] w fun e w' => e = .returned (.int .i64 1) ∧ w = w' := by
 have hx : (([47] : List UInt8) == (⟨#[97, 47, 98]⟩ : ByteArray).toList) = false := by decide +kernel
 go_enter Tryz.func133, Tryz.ntmps133
 go_wp2_with (first | (go_at_call 179; refine (index_byte _ _).mono ?_; rintro e w1 ⟨rfl, rfl⟩) | go_in)
 go_ret
 exact ⟨by kernel_rfl, rfl⟩
theorem Tryz.infoStr : (Tryz.prog.info? 9).map (fun i => (i.zero, i.size, i.bytes)) = some (some (.string ⟨#[]⟩), 1, 16) := by kernel_rfl
theorem split_gen {w : World} {l : List HProp} (hs : Sat w l) : Calls Tryz.prog 107 #[.string ⟨#[97, 47, 98]⟩, .string ⟨#[47]⟩, .int .i64 0, .int .i64 (-1)] w fun e w' => ∃ v, e = .returned v ∧ Sat w' (rowT fSt v 9 1 [letter 0, letter 1] :: l) ∧ Kp w w' := by
 obtain ⟨i0, hi, hz0, hz1, hz2⟩ := info_parts Tryz.infoStr
 have hmk1 := fun W => run_make_rowN (P := Tryz.prog) 69 9 i0 (.string ⟨#[]⟩) Tryz.underlying69 hi hz0 .i64 .i64 2 2 (Nat.le_refl _) (by rw [hz2]; omega) (by omega) W
 rw [hz1] at hmk1
 have hmk2 : ∀ W : World, (Instr.makeSlice 69 (.int .i64 2) (.int .i64 2)).run Tryz.prog W = .ok (.slice (some ⟨W.heap.size, 0, none⟩) 2 2) (W.alloc (.cells #[.string ⟨#[]⟩, .string ⟨#[]⟩] 9)) := fun W => by
   have e : madeCells (Value.string ⟨#[]⟩).cells (2 * 1) = #[.string ⟨#[]⟩, .string ⟨#[]⟩] := by first | rfl | kernel_rfl | simp [madeCells, Value.cells]
   have := hmk1 W
   rw [e] at this
   exact this
 clear hmk1
 have hmin : min (2 : Int) 4 = 2 := by decide
 have hc : Lib.countByte (⟨#[97, 47, 98]⟩ : ByteArray).data.toList 47 = 1 := by decide +kernel
 have hx0 : (⟨#[97, 47, 98]⟩ : ByteArray).extract 0 1 = ⟨#[97]⟩ := by decide +kernel
 have hx1 : (⟨#[97, 47, 98]⟩ : ByteArray).extract 2 3 = ⟨#[98]⟩ := by decide +kernel
 have hA := hs.alloc (.cells #[.string ⟨#[]⟩, .string ⟨#[]⟩] 9)
 have kA := (Kp.refl w).alloc (.cells #[.string ⟨#[]⟩, .string ⟨#[]⟩] 9)
 go_enter Tryz.func107, Tryz.ntmps107
 go_wp2_with fail
 refine (count_slash _).mono ?_
 rintro e w1 ⟨rfl, rfl⟩
 rw [hc]
 go_wp2_with fail
 generalize World.alloc _ _ = w1 at hA kA ⊢
 generalize w.heap.size = g at hA ⊢
 have a0 := hA.cell 0
 have a1 := hA.cell 1
 have f0 := hA.free 0
 have f1 := hA.free 1
 simp at a0 a1
 refine wp_loop_rounds 2 ?_
 rw [rounds_succ]
 go_wp2_with fail
 refine index_slash.mono ?_
 rintro e w2 ⟨rfl, rfl⟩
 go_wp2_with fail
 rw [rounds_succ]
 go_wp2_with fail
 go_ret
 have h9 := (((hA.set 0 (.string ⟨#[97]⟩)).set 1 (.string ⟨#[98]⟩)).rowI (n := 2) (off := 0) (cap := 2) (size := 1) (by omega) (by unfold maxLen; omega) (by decide)).tOf (f := fSt) [letter 0, letter 1] rfl rfl
 exact ⟨_, rfl, h9, (kA.setCell _ _).setCell _ _⟩
/-! ### a path's names -/
def mkB (l : List UInt8) : ByteArray := ⟨l.toArray⟩
theorem mkB_list (s : ByteArray) : mkB s.data.toList = s := by cases s; rfl
theorem list_mkB (l : List UInt8) : (mkB l).data.toList = l := rfl
theorem mkB_size (l : List UInt8) : (mkB l).size = l.length := by simp [mkB, ByteArray.size]
theorem ba_ext {a b : ByteArray} (h : a.data.toList = b.data.toList) : a = b := by rw [← mkB_list a, ← mkB_list b, h]
theorem ext_upto (s : ByteArray) (k : Nat) : s.extract 0 k = mkB (s.data.toList.take k) := by
 apply ba_ext
 rw [list_mkB]
 simp
theorem ext_from (s : ByteArray) (k : Nat) : s.extract k s.size = mkB (s.data.toList.drop k) := by
 apply ba_ext
 rw [list_mkB, ByteArray.data_extract, Array.toList_extract]
 show List.take (s.data.size - k) (s.data.toList.drop k) = _
 exact List.take_of_length_le (by rw [List.length_drop, Array.length_toList]; exact Nat.le_refl _)
/-- What stands between the strokes. -/
def splitS : List UInt8 → List (List UInt8)
 | [] => [[]]
 | c :: l => if c = 47 then [] :: splitS l else match splitS l with
   | [] => [[c]]
   | h :: t => (c :: h) :: t
theorem splitS_len : ∀ l, (splitS l).length = Lib.countByte l 47 + 1
 | [] => rfl
 | c :: l => by
   unfold splitS Lib.countByte
   rw [List.count_cons]
   have ih := splitS_len l
   unfold Lib.countByte at ih
   by_cases h : c = 47
   · rw [if_pos h, h]; simp [ih]
   · rw [if_neg h]
     cases hs : splitS l with
     | nil => rw [hs] at ih; simp at ih
     | cons a t => rw [hs] at ih; simp [h] at ih ⊢; omega
theorem splitS_none : ∀ {l : List UInt8}, (47 : UInt8) ∉ l → splitS l = [l]
 | [], _ => rfl
 | c :: l, h => by
   have hc : c ≠ 47 := fun e => h (by rw [e]; exact List.mem_cons_self ..)
   unfold splitS
   rw [if_neg hc, splitS_none (fun e => h (List.mem_cons_of_mem _ e))]
theorem splitS_cut : ∀ {p : List UInt8} {r : List UInt8}, (47 : UInt8) ∉ p → splitS (p ++ 47 :: r) = p :: splitS r
 | [], r, _ => by
   show splitS (47 :: r) = _
   conv => lhs; unfold splitS
   rw [if_pos rfl]
 | c :: p, r, h => by
   have hc : c ≠ 47 := fun e => h (by rw [e]; exact List.mem_cons_self ..)
   show splitS (c :: (p ++ 47 :: r)) = _
   conv => lhs; unfold splitS
   rw [if_neg hc, splitS_cut (fun e => h (List.mem_cons_of_mem _ e))]
theorem cut_at : ∀ {l : List UInt8}, 1 < (splitS l).length → ∃ p r, l = p ++ 47 :: r ∧ (47 : UInt8) ∉ p ∧ Lib.indexByte l 47 = (p.length : Nat)
 | [], h => by simp [splitS] at h
 | c :: l, h => by
   by_cases hc : c = 47
   · subst hc
     exact ⟨[], l, rfl, by simp, by simp [Lib.indexByte]⟩
   · have h1 : 1 < (splitS l).length := by
       unfold splitS at h
       rw [if_neg hc] at h
       cases hs : splitS l with
       | nil => rw [hs] at h; simp at h
       | cons a t => rw [hs] at h; simpa using h
     obtain ⟨p, r, rfl, hp, hi⟩ := cut_at h1
     refine ⟨c :: p, r, rfl, ?_, ?_⟩
     · intro e
       rcases List.mem_cons.1 e with e | e
       · exact hc e.symm
       · exact hp e
     · unfold Lib.indexByte
       simp only [hc, hi]
       simp [hc, hi]
       try omega
theorem splitS_one {l : List UInt8} (h : (splitS l).length = 1) : splitS l = [l] := by
 apply splitS_none
 intro hm
 have h2 := splitS_len l
 have : 0 < Lib.countByte l 47 := List.count_pos_iff.2 hm
 omega
theorem count_le_size (s : ByteArray) : Lib.countByte s.data.toList 47 ≤ s.size := by
 have : Lib.countByte s.data.toList 47 ≤ s.data.toList.length := List.count_le_length
 exact Nat.le_trans this (Nat.le_of_eq (Array.length_toList))
theorem Sat.tSetOne {α : Type} {f : α → List Value} {w : World} {e : TypeId} {xs : List α} {l : List HProp} {g off n cap : Nat} (hf : ∀ x, (f x).length = 1) (hs : Sat w (rowT f (.slice (some ⟨g, off, none⟩) n cap) e 1 xs :: l)) (i : Nat) (y : α) (hi : i < xs.length) {u : Value} (hu : f y = [u]) :
   Sat (w.setCell ⟨g, off + i, none⟩ u) (rowT f (.slice (some ⟨g, off, none⟩) n cap) e 1 (xs.set i y) :: l) := by
 have h := hs.tPut' hf i y hi
 rw [hu, Nat.mul_one] at h
 exact h
theorem len_fSt2 (s : ByteArray) : (fSt s).length = 1 := rfl
theorem index_slash2 {w : World} (s : ByteArray) : Calls Tryz.prog 133 #[.string s, .string ⟨#[47]⟩] w fun e w' => e = .returned (.int .i64 (Lib.indexByte s.data.toList 47)) ∧ w = w' := by
 cases hx : (([47] : List UInt8) == s.toList) with
 | true =>
   have hs : s.data.toList = [47] := by
     rw [← ByteArray.toList_eq]
     exact (eq_of_beq hx).symm
   rw [hs]
   go_enter Tryz.func133, Tryz.ntmps133
   go_wp2_with go_in
   go_ret
   exact ⟨by first | rfl | kernel_rfl, rfl⟩
 | false =>
   go_enter Tryz.func133, Tryz.ntmps133
   go_wp2_with (first | (go_at_call 179; refine (index_byte _ _).mono ?_; rintro e w1 ⟨rfl, rfl⟩) | go_in)
   go_ret
   exact ⟨by first | rfl | kernel_rfl, rfl⟩
theorem names_set (ps : List (List UInt8)) (x : List UInt8) (k : Nat) : (ps.map mkB ++ List.replicate (k + 1) (⟨#[]⟩ : ByteArray)).set ps.length (mkB x) = (ps ++ [x]).map mkB ++ List.replicate k (⟨#[]⟩ : ByteArray) := by
 rw [List.set_append_right _ _ (by simp), List.length_map, Nat.sub_self, List.replicate_succ, List.set_cons_zero]
 simp
theorem splitS_pos (l : List UInt8) : 1 ≤ (splitS l).length := by rw [splitS_len]; omega
theorem split_gen2 {w : World} {l : List HProp} (s : ByteArray) (hsz : s.size ≤ 1000) (hs : Sat w l) : Calls Tryz.prog 107 #[.string s, .string ⟨#[47]⟩, .int .i64 0, .int .i64 (-1)] w fun e w' => ∃ v, e = .returned v ∧ Sat w' (rowT fSt v 9 1 ((splitS s.data.toList).map mkB) :: l) ∧ Kp w w' := by
 obtain ⟨i0, hi, hz0, hz1, hz2⟩ := info_parts Tryz.infoStr
 have hcs := count_le_size s
 have hlen := splitS_len s.data.toList
 obtain ⟨c, hc⟩ : ∃ c, c = Lib.countByte s.data.toList 47 := ⟨_, rfl⟩
 obtain ⟨n, hn⟩ : ∃ n, n = c + 1 := ⟨_, rfl⟩
 obtain ⟨z, hz⟩ : ∃ z, z = s.size + 1 := ⟨_, rfl⟩
 rw [← hc] at hlen hcs
 have hmk1 := fun W => run_make_rowN (P := Tryz.prog) 69 9 i0 (.string ⟨#[]⟩) Tryz.underlying69 hi hz0 .i64 .i64 n n (Nat.le_refl _) (by rw [hz2]; omega) (by omega) W
 rw [hz1] at hmk1
 have hw1 : IntKind.i64.wrap ((c : Int) + 1) = (n : Int) := by rw [IntWalk.i64_in _ (by omega)]; omega
 have hw2 : IntKind.i64.wrap ((s.size : Int) + 1) = (z : Int) := by rw [IntWalk.i64_in _ (by omega)]; omega
 have hmin : min (n : Int) (z : Int) = (n : Int) := by omega
 have hw3 : IntKind.i64.wrap ((n : Int) - 1) = (c : Int) := by rw [IntWalk.i64_in _ (by omega)]; omega
 have hA := (hs.alloc (.cells (madeCells #[.string ⟨#[]⟩] (n * 1)) 9)).tMade (f := fSt) ⟨#[]⟩ rfl (by omega) rfl (by unfold maxLen; omega)
 have kA := (Kp.refl w).alloc (.cells (madeCells #[.string ⟨#[]⟩] (n * 1)) 9)
 simp only [Nat.mul_one] at hA kA
 have HC := Lib.hid hc
 have HN := Lib.hid hn
 have HL := Lib.hid hlen
 have HCS := Lib.hid hcs
 clear hc hn hlen hz hcs
 go_enter Tryz.func107, Tryz.ntmps107
 go_wp2_with fail
 refine (count_slash _).mono ?_
 rintro e w1 ⟨rfl, rfl⟩
 rw [← HC.out]
 go_wp2_with fail
 generalize World.alloc _ _ = w1 at hA kA ⊢
 generalize w.heap.size = g at hA ⊢
 go_loopw [0, 10, 11] (fun xv iv mv wr => ∃ (i : Nat) (x : ByteArray) (ps : List (List UInt8)), i ≤ c ∧ iv = .int .i64 i ∧ xv = .string x ∧ Hid (ps.length = i ∧ x.size ≤ 1000 ∧ splitS s.data.toList = ps ++ splitS x.data.toList) ∧ Sat wr (rowT fSt (.slice (some ⟨g, 0, none⟩) n n) 9 1 (ps.map mkB ++ List.replicate (n - i) ⟨#[]⟩) :: l) ∧ Kp w wr) (fun _ iv _ _ => c - (intOf iv).toNat)
 case atStart => exact ⟨0, s, [], by omega, rfl, rfl, Lib.hid ⟨rfl, hsz, rfl⟩, by simpa using hA, kA⟩
 case round =>
   clear hA kA
   obtain ⟨i, x, ps, hic, rfl, rfl, hI, h2, k2⟩ := hrel
   have hil : ps.length = i := hI.out.1
   have hxl : (splitS x.data.toList).length + i = n := by
     have h1 := HL.out
     rw [hI.out.2.2, List.length_append, hil] at h1
     have := HN.out
     omega
   have hbd : i < (ps.map mkB ++ List.replicate (n - i) (⟨#[]⟩ : ByteArray)).length := by rw [List.length_append, List.length_map, List.length_replicate]; have := HN.out; omega
   have f0 := (h2).rowFree (0 + i)
   rw [Nat.zero_add] at f0
   obtain ⟨u0, hu0⟩ : ∃ u0, (ps.map mkB ++ List.replicate (n - i) (⟨#[]⟩ : ByteArray))[i]? = some u0 := ⟨_, List.getElem?_eq_getElem hbd⟩
   have c0 := h2.tCell len_fSt2 i 0 hu0 rfl
   simp at c0
   have HU0 := Lib.hid hu0
   have HBD := Lib.hid hbd
   have HIL := Lib.hid hil
   have HXL := Lib.hid hxl
   clear hu0 hbd hil hxl
   by_cases hlt : i < c
   case pos =>
     have i0' : (0 : Int) ≤ (i : Int) := by omega
     have i1' : (i : Int) < (n : Int) := by have := HN.out; omega
     have i2' : (i : Int) < (c : Int) := by omega
     obtain ⟨pp, r, hx, hp, hidx⟩ := cut_at (l := x.data.toList) (by have := HXL.out; have := HN.out; omega)
     obtain ⟨m, hm⟩ : ∃ m, m = pp.length := ⟨_, rfl⟩
     rw [← hm] at hidx
     have hxs : x.size = m + 1 + r.length := by
       have : x.data.toList.length = x.size := Array.length_toList
       rw [← this, hx, hm]; simp; omega
     have hxb := hI.out.2.1
     have e0 : x.extract 0 m = mkB pp := by rw [ext_upto, hx, hm]; simp
     have e1 : x.extract (m + 1) x.size = mkB r := by
       rw [ext_from, hx, hm]
       congr 1
       rw [show pp.length + 1 = (pp ++ [47]).length by simp, show pp ++ 47 :: r = (pp ++ [47]) ++ r by simp, List.drop_left]
     obtain ⟨m1, hm1⟩ : ∃ m1, m1 = m + 1 := ⟨_, rfl⟩
     rw [← hm1] at e1
     have w1' : IntKind.i64.wrap ((m : Int)) = (m : Int) := IntWalk.i64_in _ (by omega)
     have w2' : IntKind.i64.wrap ((m : Int) + 1) = (m1 : Int) := by rw [IntWalk.i64_in _ (by omega)]; omega
     have b0 : (0 : Int) ≤ (m : Int) := by omega
     have b1 : (m : Int) ≤ (x.size : Int) := by omega
     have b2 : (0 : Int) ≤ (m1 : Int) := by omega
     have b3 : (m1 : Int) ≤ (x.size : Int) := by omega
     have b4 : ¬ (m : Int) < 0 := by omega
     have w3' : IntKind.i64.wrap ((i : Int) + 1) = (i : Int) + 1 := by have := HCS.out; rw [IntWalk.i64_in _ (by omega)]
     have h3 := Sat.tSetOne len_fSt2 h2 i (mkB pp) HBD.out (u := .string (mkB pp)) rfl
     have k3 := k2.setCell ⟨g, 0 + i, none⟩ (.string (mkB pp))
     rw [Nat.zero_add] at h3 k3
     have hset : (ps.map mkB ++ List.replicate (n - i) (⟨#[]⟩ : ByteArray)).set i (mkB pp) = (ps ++ [pp]).map mkB ++ List.replicate (n - (i + 1)) (⟨#[]⟩ : ByteArray) := by
       have := names_set ps pp (n - (i + 1))
       rw [HIL.out] at this
       rw [← this, show n - (i + 1) + 1 = n - i by have := HN.out; omega]
     rw [hset] at h3
     have HI2 := Lib.hid (show (ps ++ [pp]).length = i + 1 ∧ (mkB r).size ≤ 1000 ∧ splitS s.data.toList = (ps ++ [pp]) ++ splitS (mkB r).data.toList from ⟨by rw [List.length_append, HIL.out]; rfl, by rw [mkB_size]; omega, by rw [hI.out.2.2, hx, splitS_cut hp, list_mkB]; simp⟩)
     have HIDX := Lib.hid hidx
     clear hset hx hp hidx hm hxs hxb hm1 h2 k2
     go_wp2_with fail
     refine (index_slash2 x).mono ?_
     rintro e w2 ⟨rfl, rfl⟩
     rw [HIDX.out]
     go_wp2_with fail
     go_roundw
     case rel => exact ⟨i + 1, mkB r, ps ++ [pp], by omega, by go_num, rfl, HI2, h3, k3⟩
     case measure => simp [intOf]; omega
   obtain rfl : c = i := by omega
   have i0' : (0 : Int) ≤ (c : Int) := by omega
   have i1' : (c : Int) < (n : Int) := by have := HN.out; omega
   have i3' : (0 : Int) ≤ (n : Int) := by omega
   have h3 := Sat.tSetOne len_fSt2 h2 c x HBD.out (u := .string x) rfl
   have k3 := k2.setCell ⟨g, 0 + c, none⟩ (.string x)
   rw [Nat.zero_add] at h3 k3
   have hone := splitS_one (l := x.data.toList) (by have := HXL.out; have := HN.out; omega)
   have hset : (ps.map mkB ++ List.replicate (n - c) (⟨#[]⟩ : ByteArray)).set c x = (splitS s.data.toList).map mkB := by
     have := names_set ps x.data.toList 0
     rw [HIL.out, mkB_list] at this
     rw [show n - c = 0 + 1 by have := HN.out; omega, this, hI.out.2.2, hone]
     simp
   rw [hset] at h3
   clear hset hone h2 k2
   go_wp2_with fail
   go_ret
   exact ⟨_, rfl, h3, k3⟩
theorem prefix_yes {w : World} (s : ByteArray) {r : List UInt8} (h : s.data.toList = 47 :: r) : Calls Tryz.prog 79 #[.string s, .string ⟨#[47]⟩] w fun e w' => e = .returned (.bool true) ∧ w = w' := by
 have hsz : s.size = r.length + 1 := by
   have : s.data.toList.length = s.size := Array.length_toList
   rw [← this, h]; rfl
 have hx : ((s.extract 0 1).toList == [47]) = true := by
   rw [ext_upto, h, ByteArray.toList_eq, list_mkB]
   rfl
 have b1 : (1 : Int) ≤ (s.size : Int) := by omega
 clear h hsz
 go_enter Tryz.func79, Tryz.ntmps79
 go_wp2
 go_ret
 exact ⟨rfl, rfl⟩
theorem split_str {w : World} {l : List HProp} (s : ByteArray) (hsz : s.size ≤ 1000) (hs : Sat w l) : Calls Tryz.prog 80 #[.string s, .string ⟨#[47]⟩] w fun e w' => ∃ v, e = .returned v ∧ Sat w' (rowT fSt v 9 1 ((splitS s.data.toList).map mkB) :: l) ∧ Kp w w' := by
 go_enter Tryz.func80, Tryz.ntmps80
 go_wp2_with fail
 refine (split_gen2 s hsz hs).mono ?_
 rintro e w1 ⟨v, rfl, h1, k1⟩
 go_wp2_with fail
 go_ret
 exact ⟨v, rfl, h1, k1⟩
/-- name.Right tells that it is a name. -/
def NameRight (nm : ByteArray) : Prop := ∀ (w : World) (l : List HProp), Sat w l → Calls Tryz.prog 81 #[.string nm] w fun e w' => e = .returned (.bool true) ∧ Sat w' l ∧ Kp w w'
theorem name_split2 {w : World} {l : List HProp} (s : ByteArray) {r : List UInt8} (h : s.data.toList = 47 :: r) (hr : r ≠ []) (hsz : s.size ≤ 400) (hR : ∀ x ∈ splitS r, NameRight (mkB x)) (hs : Sat w l) : Calls Tryz.prog 38 #[.string s] w fun e w' => ∃ v, e = .returned (.tuple #[v, .int .i64 0]) ∧ Sat w' (rowT fSt v 9 1 ((splitS r).map mkB) :: l) ∧ Kp w w' := by
 have hrs : s.size = r.length + 1 := by
   have : s.data.toList.length = s.size := Array.length_toList
   rw [← this, h]; rfl
 have hne : (s.toList == [47]) = false := by
   rw [ByteArray.toList_eq, h]
   cases r with
   | nil => exact absurd rfl hr
   | cons a t => rfl
 have hx : s.extract 1 s.size = mkB r := by rw [ext_from, h]; rfl
 have b0 : (s.size : Int) ≤ 400 := by omega
 have b1 : (1 : Int) ≤ (s.size : Int) := by omega
 have HRS := Lib.hid hrs
 have HR := Lib.hid hR
 have hpre := prefix_yes (w := w) s h
 clear hrs hr hsz hR h
 go_enter Tryz.func38, Tryz.ntmps38
 go_wp2_with fail
 refine hpre.mono ?_
 rintro e w1 ⟨rfl, rfl⟩
 clear hpre
 go_wp2_with fail
 refine (split_str (mkB r) (by rw [mkB_size]; have := HRS.out; omega) hs).mono ?_
 rintro e w1 ⟨v, rfl, h1, k1⟩
 rw [list_mkB] at h1
 obtain ⟨ao, cap, rfl⟩ := h1.tLen
 have hl := splitS_len r
 obtain ⟨n, hn⟩ : ∃ n, n = ((splitS r).map mkB).length := ⟨_, rfl⟩
 rw [← hn] at h1 ⊢
 have hnb : n ≤ 1000 := by
   rw [hn, List.length_map, hl]
   have := count_le_size (mkB r)
   rw [list_mkB, mkB_size] at this
   have := HRS.out
   omega
 have HN := Lib.hid hn
 have HNB := Lib.hid hnb
 clear hl hn hx hnb
 go_wp2_with fail
 go_loopw [6, 22] (fun sv iv wr => ∃ i : Nat, i ≤ n ∧ iv = .int .i64 i ∧ Sat wr (rowT fSt (.slice ao n cap) 9 1 ((splitS r).map mkB) :: l) ∧ Kp w wr) (fun _ iv _ => n - (intOf iv).toNat)
 case atStart => exact ⟨0, by omega, rfl, h1, k1⟩
 case round =>
   clear h1 k1
   obtain ⟨i, hin, rfl, h2, k2⟩ := hrel
   by_cases hlt : i < n
   case neg =>
     obtain rfl : n = i := by omega
     go_wp2_with fail
     go_ret2
     exact ⟨_, rfl, h2, k2⟩
   obtain ⟨x, hx⟩ : ∃ x, ((splitS r).map mkB)[i]? = some x := ⟨_, List.getElem?_eq_getElem (by rw [← HN.out]; exact hlt)⟩
   obtain ⟨y, hy, rfl⟩ := List.mem_map.1 (List.mem_of_getElem? hx)
   rcases h2.tForm with ⟨hv, hp⟩ | ⟨g, off, cap', hv⟩
   · rw [hp] at hx; simp at hx
   simp only [Value.slice.injEq] at hv
   obtain ⟨rfl, -, rfl⟩ := hv
   have x0 := h2.tCell len_fSt2 i 0 hx rfl
   simp at x0
   have i0' : (0 : Int) ≤ (i : Int) := by omega
   have i1' : (i : Int) < (n : Int) := by omega
   have iw : IntKind.i64.wrap ((i : Int) + 1) = (i : Int) + 1 := by have := HNB.out; rw [IntWalk.i64_in _ (by omega)]
   have hcall := HR.out y hy _ _ h2
   clear hx hy
   go_wp2_with fail
   refine hcall.mono ?_
   rintro e w2 ⟨rfl, h3, k3⟩
   have k3 := k2.trans k3
   clear hcall h2 k2 x0
   go_wp2_with fail
   go_roundw
   case rel => exact ⟨i + 1, by omega, by go_num, h3, k3⟩
   case measure => simp [intOf]; omega
/-- A path's names; none: it is no path. -/
def pathL (s : ByteArray) : Option (List ByteArray) :=
 if 400 < s.size then none else match s.data.toList with
   | [] => none
   | b :: r => if b ≠ 47 then none else if r = [] then some [] else if ((splitS r).map mkB).all nameOk then some ((splitS r).map mkB) else none
theorem list_size (s : ByteArray) : s.data.toList.length = s.size := by rw [Array.length_toList]; rfl
theorem prefix_no {w : World} (s : ByteArray) (h : ∀ r, s.data.toList ≠ 47 :: r) : Calls Tryz.prog 79 #[.string s, .string ⟨#[47]⟩] w fun e w' => e = .returned (.bool false) ∧ w = w' := by
 by_cases h0 : s.size = 0
 · have b1 : ¬ (1 : Int) ≤ (s.size : Int) := by omega
   clear h h0
   go_enter Tryz.func79, Tryz.ntmps79
   go_wp2
   go_ret
   exact ⟨rfl, rfl⟩
 · have hx : ((s.extract 0 1).toList == [47]) = false := by
     rw [ext_upto, ByteArray.toList_eq, list_mkB]
     cases hl : s.data.toList with
     | nil => rfl
     | cons b r =>
       have : b ≠ 47 := fun e => h r (by rw [hl, e])
       simp [this]
   have b1 : (1 : Int) ≤ (s.size : Int) := by omega
   clear h h0
   go_enter Tryz.func79, Tryz.ntmps79
   go_wp2
   go_ret
   exact ⟨rfl, rfl⟩
/-- What Split comes to. -/
def SplitPost (w : World) (s : ByteArray) (l : List HProp) (e : Ending) (w' : World) : Prop :=
 Kp w w' ∧ ((pathL s = none ∧ e = .returned (.tuple #[.slice none 0 0, .int .i64 4]) ∧ Sat w' l) ∨ ∃ v nms, pathL s = some nms ∧ nms.length ≤ 400 ∧ (∀ x ∈ nms, x.size ≤ 400) ∧ e = .returned (.tuple #[v, .int .i64 0]) ∧ Sat w' (rowT fSt v 9 1 nms :: l))
theorem splitS_size : ∀ {l x : List UInt8}, x ∈ splitS l → x.length ≤ l.length
 | [], x, h => by
   unfold splitS at h
   simp at h
   simp [h]
 | b :: l, x, h => by
   unfold splitS at h
   split at h
   · rcases List.mem_cons.1 h with rfl | h
     · simp
     · exact Nat.le_succ_of_le (splitS_size h)
   · cases hs : splitS l with
     | nil =>
       rw [hs] at h
       simp at h
       simp [h]
     | cons y ys =>
       rw [hs] at h
       rcases List.mem_cons.1 h with rfl | h
       · have := splitS_size (l := l) (x := y) (by rw [hs]; exact List.mem_cons_self ..)
         simp
         exact this
       · exact Nat.le_succ_of_le (splitS_size (by rw [hs]; exact List.mem_cons_of_mem _ h))
theorem name_split_any {W w : World} {l : List HProp} (hT : Lib.Utf8Tabs (validS_ren.g 3) (validS_ren.g 4) W) (s : ByteArray) (hs : Sat w (oldH W :: l)) : Calls Tryz.prog 38 #[.string s] w (SplitPost w s (oldH W :: l)) := by
 have HT := Lib.hid hT
 clear hT
 by_cases hbig : 400 < s.size
 · have b0 : (400 : Int) < (s.size : Int) := by omega
   have hp : pathL s = none := by unfold pathL; rw [if_pos hbig]
   have HP := Lib.hid hp
   clear hbig hp
   go_enter Tryz.func38, Tryz.ntmps38
   go_wp2_with fail
   go_ret2
   exact ⟨Kp.refl w, .inl ⟨HP.out, rfl, hs⟩⟩
 have b0 : ¬ (400 : Int) < (s.size : Int) := by omega
 by_cases hpre : ∃ r, s.data.toList = 47 :: r
 case neg =>
   have hno := prefix_no (w := w) s (fun r h => hpre ⟨r, h⟩)
   have hp : pathL s = none := by
     unfold pathL
     rw [if_neg hbig]
     cases hl : s.data.toList with
     | nil => rfl
     | cons b r =>
       have : b ≠ 47 := fun e => hpre ⟨r, by rw [hl, e]⟩
       simp [this]
   have HP := Lib.hid hp
   clear hbig hp hpre
   go_enter Tryz.func38, Tryz.ntmps38
   go_wp2_with fail
   refine hno.mono ?_
   rintro e w1 ⟨rfl, rfl⟩
   go_wp2_with fail
   go_ret2
   exact ⟨Kp.refl w, .inl ⟨HP.out, rfl, hs⟩⟩
 obtain ⟨r, h⟩ := hpre
 have hyes := prefix_yes (w := w) s h
 have hrs : s.size = r.length + 1 := by rw [← list_size, h]; rfl
 by_cases hr : r = []
 · subst hr
   have hne : (s.toList == [47]) = true := by rw [ByteArray.toList_eq, h]; rfl
   have hp : pathL s = some [] := by unfold pathL; rw [if_neg hbig, h]; simp
   have HP := Lib.hid hp
   clear hbig hp h hrs
   go_enter Tryz.func38, Tryz.ntmps38
   go_wp2_with fail
   refine hyes.mono ?_
   rintro e w1 ⟨rfl, rfl⟩
   clear hyes
   go_wp2_with fail
   go_ret2
   exact ⟨Kp.refl w, .inr ⟨_, [], HP.out, by simp, fun x hx => (by cases hx), rfl, hs.tNil fSt 9 1⟩⟩
 have hne : (s.toList == [47]) = false := by
   rw [ByteArray.toList_eq, h]
   cases r with
   | nil => exact absurd rfl hr
   | cons a t => rfl
 have hx : s.extract 1 s.size = mkB r := by rw [ext_from, h]; rfl
 have b1 : (1 : Int) ≤ (s.size : Int) := by omega
 have hp : pathL s = if ((splitS r).map mkB).all nameOk then some ((splitS r).map mkB) else none := by unfold pathL; rw [if_neg hbig, h]; simp [hr]
 have hsz : ∀ x ∈ (splitS r).map mkB, x.size ≤ 400 := fun x hx => by
   obtain ⟨y, hy, rfl⟩ := List.mem_map.1 hx
   have := splitS_size hy
   rw [mkB_size]
   omega
 have hnl : ((splitS r).map mkB).length ≤ 400 := by
   rw [List.length_map, splitS_len]
   have := count_le_size (mkB r)
   rw [list_mkB, mkB_size] at this
   omega
 have hsp := fun (W' : World) => split_str (w := W') (l := oldH W :: l) (mkB r) (by rw [mkB_size]; omega)
 simp only [list_mkB] at hsp
 generalize hnm : (splitS r).map mkB = nms at hp hsz hnl hsp
 have HP := Lib.hid hp
 have HSZ := Lib.hid hsz
 have HSP := Lib.hid hsp
 have HNL := Lib.hid hnl
 clear hbig hr h hrs hp hsz hnm hsp hnl
 go_enter Tryz.func38, Tryz.ntmps38
 go_wp2_with fail
 refine hyes.mono ?_
 rintro e w1 ⟨rfl, rfl⟩
 clear hyes
 go_wp2_with fail
 refine (HSP.out _ hs).mono ?_
 rintro e w1 ⟨v, rfl, h1, k1⟩
 clear HSP hs
 obtain ⟨ao, cap, rfl⟩ := h1.tLen
 obtain ⟨n, hn⟩ : ∃ n, n = nms.length := ⟨_, rfl⟩
 have hnb : n ≤ 400 := by rw [hn]; exact HNL.out
 rw [← hn] at h1 ⊢
 have HN := Lib.hid hn
 clear hn hx
 go_wp2_with fail
 go_loopw [6, 22] (fun sv iv wr => ∃ i : Nat, i ≤ n ∧ iv = .int .i64 i ∧ Hid (∀ j x, j < i → nms[j]? = some x → nameOk x = true) ∧ Sat wr (rowT fSt (.slice ao n cap) 9 1 nms :: oldH W :: l) ∧ Kp w wr) (fun _ iv _ => n - (intOf iv).toNat)
 case atStart => exact ⟨0, by omega, rfl, Lib.hid (fun j x hj => absurd hj (Nat.not_lt_zero _)), h1, k1⟩
 case round =>
   clear h1 k1
   obtain ⟨i, hin, rfl, hI, h2, k2⟩ := hrel
   by_cases hlt : i < n
   case neg =>
     obtain rfl : n = i := by omega
     have hall : nms.all nameOk = true := List.all_eq_true.2 fun x hx => by
       obtain ⟨j, hj⟩ := List.getElem?_of_mem hx
       exact hI.out j x (by rw [HN.out]; exact (List.getElem?_eq_some_iff.1 hj).1) hj
     have hp := HP.out
     rw [hall, if_pos rfl] at hp
     have HP2 := Lib.hid hp
     clear hp hall
     go_wp2_with fail
     go_ret2
     exact ⟨k2, .inr ⟨_, nms, HP2.out, HNL.out, HSZ.out, rfl, h2⟩⟩
   obtain ⟨x, hx⟩ : ∃ x, nms[i]? = some x := ⟨_, List.getElem?_eq_getElem (by rw [← HN.out]; exact hlt)⟩
   rcases h2.tForm with ⟨hv, hp⟩ | ⟨g, off, cap', hv⟩
   · rw [hp] at hx; simp at hx
   simp only [Value.slice.injEq] at hv
   obtain ⟨rfl, -, rfl⟩ := hv
   have x0 := h2.tCell len_fSt2 i 0 hx rfl
   simp at x0
   have i0' : (0 : Int) ≤ (i : Int) := by omega
   have i1' : (i : Int) < (n : Int) := by omega
   have iw : IntKind.i64.wrap ((i : Int) + 1) = (i : Int) + 1 := by rw [IntWalk.i64_in _ (by omega)]
   have hcall := name_right HT.out (h2.pull 1) x (Nat.le_trans (HSZ.out x (List.mem_of_getElem? hx)) (by omega))
   have HX := Lib.hid hx
   clear hx
   cases hok : nameOk x with
   | false =>
     rw [hok] at hcall
     have hp := HP.out
     rw [show nms.all nameOk = false from List.all_eq_false.2 ⟨x, List.mem_of_getElem? HX.out, by rw [hok]; simp⟩] at hp
     have HP2 := Lib.hid (show pathL s = none by rw [hp]; rfl)
     clear hp hok
     go_wp2_with fail
     refine hcall.mono ?_
     rintro e w3 ⟨rfl, h3, k3⟩
     go_wp2_with fail
     go_ret2
     exact ⟨k2.trans k3, .inl ⟨HP2.out, rfl, (h3.pull 1).tail⟩⟩
   | true =>
     rw [hok] at hcall
     have HI2 := Lib.hid (show ∀ j x, j < i + 1 → nms[j]? = some x → nameOk x = true from fun j y hj hy => by
       by_cases e : j = i
       · subst e; rw [HX.out] at hy; cases hy; exact hok
       · exact hI.out j y (by omega) hy)
     clear hok
     go_wp2_with fail
     refine hcall.mono ?_
     rintro e w3 ⟨rfl, h3, k3⟩
     go_wp2_with fail
     go_roundw
     case rel => exact ⟨i + 1, by omega, by go_num, HI2, h3.swap, k2.trans k3⟩
     case measure => simp [intOf]; omega
end Go.Proofs.YtddglbjhhnipgaaGreatDoor

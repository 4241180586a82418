import Derived.Test.YtbnipieokpeadaaDoorGP
import Derived.Test.YtbnipieokpeadaaDoorGK
import Derived.Test.YtbnipieokpeadaaDoorGE
import Derived.Test.YtbnipieokpeadaaDoorGM
namespace Go.Proofs.YtbnipieokpeadaaDoor
open Go Go.RowKit
set_option linter.unusedVariables false
set_option linter.unusedSimpArgs false

theorem letter_size (j : Nat) : (letter j).size ≤ 1000 := by
  have : (letter j).size = 1 := rfl
  omega
theorem ofT_size (t : TinyD) : (ofT t).name.size ≤ 1000 := letter_size _
theorem spot_eq (q : Bool) (z : Int) (nm : ByteArray) (W : World) : (binOp BinOp.eql 49 (.agg #[.bool q, .int .i64 z, .string nm]) (.agg #[.bool q, .int .i64 z, .string nm])).run Tryd.prog W = .ok (.bool true) W := by
  go_simp
  try simp

set_option maxRecDepth 100000 in
set_option maxHeartbeats 4000000 in
theorem treeAsked_walk (ao : Option Addr) (n cap : Nat) (ts : List TinyD) (a b : Int) (path : ByteArray) (W : World) (hr : ArgRow W fT ao n cap ts) (hok : ∀ t ∈ ts, TinyOk t) (hT : Lib.Utf8Tabs (validS_ren.g 3) (validS_ren.g 4) W) :
    LawCalls Tryd.prog 4 #[.slice ao n cap, .int .i64 a, .int .i64 b, .string path] W := by
  have H0 := Sat.start W
  have hle := hr.le
  have hsm := hr.small
  unfold maxLen at hsm
  have HL := Lib.hid hr.len
  have HT := Lib.hid hT
  have HR := Lib.hid hr
  have HOK := Lib.hid hok
  clear hT hr hok
  go_enter Tryd.func4, Tryd.ntmps4
  go_wp2_with fail
  refine (tree_awake H0).mono ?_
  rintro e w1 ⟨rfl, h1, k1⟩
  clear H0
  by_cases hmost : 30 < n
  · have hmost' : (30 : Int) < (n : Int) := by omega
    clear hmost
    go_wp2_with fail
    go_ret
    exact ⟨rfl, h1.below k1⟩
  have hmost' : ¬ (30 : Int) < (n : Int) := by omega
  by_cases hlong : 500 < path.size
  · have hlong' : (500 : Int) < (path.size : Int) := by omega
    clear hlong
    go_wp2_with fail
    go_ret
    exact ⟨rfl, h1.below k1⟩
  have hlong' : ¬ (500 : Int) < (path.size : Int) := by omega
  have hta := tiny_all h1 HR.out HOK.out (by omega)
  go_wp2_with fail
  refine hta.mono ?_
  rintro e w2 ⟨v, rfl, h2, k2⟩
  have k2 := k1.trans k2
  clear hta h1 k1
  have hz : ∀ o ∈ ts.map ofT, o.name.size ≤ 1000 := fun o ho => by
    obtain ⟨t, _, rfl⟩ := List.mem_map.1 ho
    exact ofT_size t
  have hlen : (ts.map ofT).length = n := by rw [List.length_map]; exact HL.out
  generalize ts.map ofT = os at h2 hz hlen
  obtain ⟨vao, vcap, rfl⟩ := h2.tLen
  rw [hlen] at h2 ⊢
  have HZ := Lib.hid hz
  have HLEN := Lib.hid hlen
  have hgr := tree_grown_any (os := os) (ao := vao) (n := n) (cap := vcap) HT.out h2.swap (fun w' h => (h.pull 1).rowArg2 hlen) hz (by omega)
  have HGR := Lib.hid hgr
  clear hz hlen hgr
  go_wp2_with fail
  refine HGR.out.mono ?_
  rintro e w3 ⟨t, rfl, h3, k3⟩
  have k3 := k2.trans k3
  clear HGR h2 k2
  have hof := ref_of (os := os) (ao := vao) (n := n) (cap := vcap) h3 (fun w' h => (h.pull 2).rowArg2 HLEN.out) HZ.out (by omega)
  have HOF := Lib.hid hof
  clear hof
  go_wp2_with fail
  refine HOF.out.mono ?_
  rintro e w4 ⟨tr, L, Ws, rfl, hb, h4, k4⟩
  have k4 := k3.trans k4
  clear HOF h3 k3
  have hgl := grow_len os
  rw [HLEN.out] at hgl
  generalize growT os = s at hb h4 hgl
  obtain ⟨f, ds⟩ := s
  obtain ⟨b1, b2, b3, b4⟩ := both_facts hb
  have hL : L.length ≤ 1000 := by dsimp only at b3 hgl; omega
  have B1 := Lib.hid b1
  have LL := Lib.hid hL
  have BD := Lib.hid (enumk_bnd b1 hL)
  have AC := Lib.hid b2
  clear b1 b2 b3 b4 hL hb hgl
  have hf1 := tree_find_any HT.out path (h4.swap.pull 2) BD.out
  have HF1 := Lib.hid hf1
  clear hf1
  go_wp2_with fail
  refine HF1.out.mono ?_
  rintro e w5 ⟨a1, e1, hA1, rfl, h5, k5⟩
  have k5 := k4.trans k5
  have HA1 := Lib.hid hA1
  clear HF1 h4 k4 hA1
  have hf2 := ref_find_any path (h5.pull 2) B1.out LL.out
  have HF2 := Lib.hid hf2
  clear hf2
  go_wp2_with fail
  refine HF2.out.mono ?_
  rintro e w6 ⟨a2, e2, hA2, rfl, h6, k6⟩
  have k6 := k5.trans k6
  obtain ⟨rfl, rfl⟩ := hA2.uniq HA1.out
  clear HF2 h5 k5 hA2 HA1
  obtain ⟨kb, hkb⟩ := AC.out b
  have HKB := Lib.hid hkb
  have HRE := Lib.hid (enumk_reach B1.out _ _ hkb)
  have hr : ∀ r : Bool, r = (known f b && above f a b) → (r = true ↔ known f b = true ∧ Anc f a b) := fun r e => by rw [e, Bool.and_eq_true, above_iff]
  have HRR := Lib.hid hr
  clear hkb hr
  obtain ⟨r, hrr⟩ : ∃ r, r = (known f b && above f a b) := ⟨_, rfl⟩
  have HRV := Lib.hid (HRR.out r hrr)
  clear hrr HRR
  have e1 : (a2 == a2) = true := by simp
  have e2' : (e2 == e2) = true := by simp
  have e3 : (r == r) = true := by simp
  have e4 : (known f a == known f a) = true := by simp
  obtain ⟨q, z, nm, -, hvl⟩ := locCells_form (f b)
  have hq := fun W => spot_eq q z nm W
  have HVL := Lib.hid hvl
  clear hvl
  have hc1 := tree_above (r := r) (h6.pull 2) HKB.out HRV.out
  go_wp2_with fail
  refine hc1.mono ?_
  rintro e w7 ⟨rfl, h7, k7⟩
  have k7 := k6.trans k7
  clear hc1 h6 k6
  have hc2 := ref_above (r := r) (h7.pull 1) B1.out LL.out HKB.out HRE.out HRV.out
  go_wp2_with fail
  refine hc2.mono ?_
  rintro e w8 ⟨rfl, rfl⟩
  clear hc2
  have hc3 := tree_known (n := a) h7
  go_wp2_with fail
  refine hc3.mono ?_
  rintro e w9 ⟨rfl, h9, k9⟩
  have k9 := k7.trans k9
  clear hc3 h7 k7
  have hc4 := ref_known (n := a) (h9.pull 1) B1.out LL.out
  go_wp2_with fail
  refine hc4.mono ?_
  rintro e wA ⟨rfl, rfl⟩
  clear hc4
  have hc5 := tree_spot (n := b) h9
  rw [HVL.out] at hc5
  go_wp2_with fail
  refine hc5.mono ?_
  rintro e wB ⟨rfl, hB, kB⟩
  have kB := k9.trans kB
  clear hc5 h9 k9
  have hc6 := ref_spot (n := b) (hB.pull 1) B1.out LL.out
  rw [HVL.out] at hc6
  go_wp2_with fail
  refine hc6.mono ?_
  rintro e wC ⟨rfl, hC, kC⟩
  have kC := kB.trans kC
  clear hc6 hB kB
  go_wp2_with fail
  go_ret
  exact ⟨rfl, (hC.pull 2).below kC⟩

end Go.Proofs.YtbnipieokpeadaaDoor

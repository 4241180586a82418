import Derived.Test.YtbnipieokpeadaaDoorSpot
import Derived.Test.YtbnipieokpeadaaDoorUp
import Derived.Test.YtbnipieokpeadaaDoorOpArg
import Derived.Test.YtbnipieokpeadaaDoorAwake
namespace Go.Proofs.YtbnipieokpeadaaDoor
open Go Go.RowKit
set_option linter.unusedVariables false
set_option linter.unusedSimpArgs false

set_option maxRecDepth 100000 in
set_option maxHeartbeats 4000000 in
theorem treeUp_walk (ao : Option Addr) (n cap : Nat) (os : List OpD) (W : World) (hr : ArgRow W fO ao n cap os) (hT : Lib.Utf8Tabs (validS_ren.g 3) (validS_ren.g 4) W) :
    LawCalls Tryd.prog 5 #[.slice ao n cap] W := by
  have H0 := Sat.start W
  have hle := hr.le
  have hsm := hr.small
  unfold maxLen at hsm
  have HL := Lib.hid hr.len
  have HT := Lib.hid hT
  have HR := Lib.hid hr
  clear hT hr
  go_enter Tryd.func5, Tryd.ntmps5
  go_wp2_with fail
  refine (tree_awake H0).mono ?_
  rintro e w1 ⟨rfl, h1, k1⟩
  clear H0
  go_wp2_with fail
  refine (short_ops h1 HR.out).mono ?_
  rintro e w2 ⟨rfl, h2, k2⟩
  have k2 := k1.trans k2
  clear h1 k1
  by_cases hmost : 30 < n
  · have hmost' : (30 : Int) < (n : Int) := by omega
    clear hmost
    go_wp2_with fail
    go_ret
    exact ⟨rfl, h2.below k2⟩
  have hmost' : ¬ (30 : Int) < (n : Int) := by omega
  cases hsh : shortO os with
  | false =>
    go_wp2_with fail
    go_ret
    exact ⟨rfl, h2.below k2⟩
  | true =>
    have hz : ∀ o ∈ os, o.name.size ≤ 1000 := fun o ho => by
      have := List.all_eq_true.1 hsh o ho
      simp at this
      omega
    have HZ := Lib.hid hz
    clear hz
    have hgr := tree_grown_any HT.out h2 (fun w' h => HR.out.old h) HZ.out (by omega)
    go_wp2_with fail
    refine hgr.mono ?_
    rintro e w3 ⟨t, rfl, h3, k3⟩
    have k3 := k2.trans k3
    clear hgr h2 k2 hsh
    have HG := Lib.hid (grow_grown os)
    have HLEN : os.length ≤ 30 := by rw [HL.out]; omega
    generalize growT os = s at h3 HG
    obtain ⟨f, ds⟩ := s
    have hal := tree_all2 h3 (HG.out.bnd (by omega))
    go_wp2_with fail
    refine hal.mono ?_
    rintro e w4 ⟨S, kv, hS, rfl, h4, k4⟩
    have k4 := k3.trans k4
    clear hal h3 k3
    have hkl : (isort klt (kidsOf (fun _ => true) S)).length ≤ n := by
      rw [(isort_perm klt _).length_eq, ← HL.out]
      exact Nat.le_trans (kidsOf_len _ _) (HG.out.len hS.mem hS.nodup)
    have HKM := Lib.hid (show ∀ k ∈ isort klt (kidsOf (fun _ => true) S), ∃ l, f k.node = some l from fun k hk => all_known hS hk)
    have HKN := Lib.hid (all_nodup hS)
    have HRL := Lib.hid (show ∀ b k, Reach f b k → k ≤ (isort klt (kidsOf (fun _ => true) S)).length from fun b k h => by
      rw [(isort_perm klt _).length_eq]
      have h2 : kidsOf (fun _ => true) S = S.map kidOf := by unfold kidsOf; rw [List.filter_eq_self.2 (fun _ _ => rfl)]
      rw [h2, List.length_map]
      exact reach_le h hS)
    generalize isort klt (kidsOf (fun _ => true) S) = ks at h4 hkl HKM HKN HRL
    clear hS
    obtain ⟨kao, kcap, rfl⟩ := h4.tLen
    obtain ⟨q, hq⟩ : ∃ q, q = ks.length := ⟨_, rfl⟩
    rw [← hq] at h4 hkl ⊢
    have HQK := Lib.hid hq
    have hkl' : decide (n < q) = false := by simp; omega
    clear hq
    go_wp2_with fail
    go_loopw [7, 8, 9, 10, 11, 12, 13] (fun iv nv kv' sv av bv cv wr => ∃ i : Nat, i ≤ q ∧ iv = .int .i64 i ∧ Sat wr [rowT fK (.slice kao q kcap) 39 3 ks, treeP t f ds, oldH W] ∧ Kp W wr) (fun iv _ _ _ _ _ _ _ => q - (intOf iv).toNat)
    case atStart => exact ⟨0, by omega, rfl, h4, k4⟩
    case round =>
      clear h4 k4
      obtain ⟨i, hiq, rfl, h2, k2⟩ := hrel
      by_cases hlt : i < q
      case neg =>
        obtain rfl : q = i := by omega
        go_wp2_with fail
        go_ret
        exact ⟨rfl, (h2.pull 2).below k2⟩
      obtain ⟨x, hx⟩ : ∃ x, ks[i]? = some x := ⟨_, List.getElem?_eq_getElem (by rw [← HQK.out]; exact hlt)⟩
      rcases h2.tForm with ⟨hv, hp⟩ | ⟨g, off, cap', hv⟩
      · rw [hp] at hx; simp at hx
      simp only [Value.slice.injEq] at hv
      obtain ⟨rfl, -, rfl⟩ := hv
      have x2 := h2.tCell len_fK i 2 hx rfl
      obtain ⟨lx, hfx⟩ := HKM.out x (List.mem_of_getElem? hx)
      obtain ⟨hx0, hrx⟩ := HG.out.acyc x.node
      have i0' : (0 : Int) ≤ (i : Int) := by omega
      have i1' : (i : Int) < (q : Int) := by omega
      have iw : IntKind.i64.wrap ((i : Int) + 1) = (i : Int) + 1 := by rw [IntWalk.i64_in _ (by omega)]
      have HX := Lib.hid hx
      have HFX := Lib.hid hfx
      have HRX := Lib.hid hrx
      clear hx hfx hrx
      go_wp2_with fail
      clear x2
      go_loopw [9] (fun kv' wr => ∃ k : Nat, k ≤ q ∧ kv' = .int .i64 k ∧ Sat wr [rowT fK (.slice (some ⟨g, off, none⟩) q kcap) 39 3 ks, treeP t f ds, oldH W] ∧ Kp W wr) (fun kv' _ => q - (intOf kv').toNat)
      case atStart => exact ⟨0, by omega, rfl, h2, k2⟩
      case round =>
        clear h2 k2
        obtain ⟨k, hkq, rfl, h2, k2⟩ := hrel
        by_cases hlt2 : k < q
        case pos =>
          obtain ⟨y, hy⟩ : ∃ y, ks[k]? = some y := ⟨_, List.getElem?_eq_getElem (by rw [← HQK.out]; exact hlt2)⟩
          have y2 := h2.tCell len_fK k 2 hy rfl
          have j0' : (0 : Int) ≤ (k : Int) := by omega
          have j1' : (k : Int) < (q : Int) := by omega
          have jw : IntKind.i64.wrap ((k : Int) + 1) = (k : Int) + 1 := by rw [IntWalk.i64_in _ (by omega)]
          by_cases hki : k = i
          · have e1 : ((k : Int) != (i : Int)) = false := by rw [hki]; simp
            clear hy hki
            go_wp2_with fail
            go_roundw
            case rel => exact ⟨k + 1, by omega, by go_num, h2, k2⟩
            case measure => simp [intOf]; omega
          · have e1 : ((k : Int) != (i : Int)) = true := by simp; omega
            have e2 : (y.node == x.node) = false := by
              rw [beq_eq_false_iff_ne]
              intro e
              have hxm : (ks.map KidD.node)[i]? = some x.node := by rw [List.getElem?_map, HX.out]; rfl
              have hym : (ks.map KidD.node)[k]? = some x.node := by rw [List.getElem?_map, hy, ← e]; rfl
              exact hki (nodup_idx HKN.out hym hxm)
            clear hy hki
            go_wp2_with fail
            go_roundw
            case rel => exact ⟨k + 1, by omega, by go_num, h2, k2⟩
            case measure => simp [intOf]; omega
        have hlt2' : ¬ (k : Int) < (q : Int) := by omega
        clear hlt2
        go_wp2_with fail
        go_loopw [8, 10, 11] (fun nv stv sv wr => ∃ (nn : Int) (st h : Nat), nv = .int .i64 nn ∧ stv = .int .i64 st ∧ Hid (Reach f nn h ∧ st + h ≤ q ∧ known f nn = true) ∧ Sat wr [rowT fK (.slice (some ⟨g, off, none⟩) q kcap) 39 3 ks, treeP t f ds, oldH W] ∧ Kp W wr) (fun _ stv _ _ => q - (intOf stv).toNat)
        case atStart =>
          refine ⟨x.node, 0, hx0, rfl, rfl, Lib.hid ⟨HRX.out, ?_, ?_⟩, h2, k2⟩
          · have := HRL.out _ _ HRX.out
            rw [HQK.out]
            omega
          · unfold known
            rw [HFX.out]
            rfl
        case round =>
          clear h2 k2
          obtain ⟨nn, st, h, rfl, rfl, hI, h2, k2⟩ := hrel
          have htail : ∀ {P : Prop}, P → P := fun h => h
          by_cases hstop : nn = 0 ∨ nn = 1
          case pos =>
            have hkx : known f x.node = true := by unfold known; rw [HFX.out]; rfl
            have hrt := root_trash HG.out HRX.out hkx
            have ha0 := fun (w : World) (hs : Sat w [treeP t f ds, rowT fK (.slice (some ⟨g, off, none⟩) q kcap) 39 3 ks, oldH W]) => tree_above (a := 0) (b := x.node) (r := above f 0 x.node) hs HRX.out ⟨fun e => ⟨hkx, above_iff.1 e⟩, fun e => above_iff.2 e.2⟩
            have ha1 := fun (w : World) (hs : Sat w [treeP t f ds, rowT fK (.slice (some ⟨g, off, none⟩) q kcap) 39 3 ks, oldH W]) => tree_above (a := 1) (b := x.node) (r := above f 1 x.node) hs HRX.out ⟨fun e => ⟨hkx, above_iff.1 e⟩, fun e => above_iff.2 e.2⟩
            generalize above f 0 x.node = r0 at hrt ha0
            generalize above f 1 x.node = r1 at hrt ha1
            have HA0 := Lib.hid ha0
            have HA1 := Lib.hid ha1
            have x2 := h2.tCell len_fK i 2 HX.out rfl
            clear hI ha0 ha1 htail
            rcases hstop with rfl | rfl
            all_goals
              go_wp2_with fail
              refine (HA0.out _ (h2.pull 1)).mono ?_
              rintro e w5 ⟨rfl, h3, k3⟩
              have k3 := k2.trans k3
              clear h2 k2 x2
              have x2 := (h3.pull 1).tCell len_fK i 2 HX.out rfl
              go_wp2_with fail
              refine (HA1.out _ h3).mono ?_
              rintro e w6 ⟨rfl, h4, k4⟩
              have k4 := k3.trans k4
              clear h3 k3 x2
              go_wp2_with fail
              go_roundw
              case rel =>
                exact ⟨i + 1, by omega, by go_num, h4.swap, k4⟩
              case measure => simp [intOf]; omega
          have hn0 : nn ≠ 0 := fun h => hstop (.inl h)
          have hn1 : nn ≠ 1 := fun h => hstop (.inr h)
          have e3 : (nn != 1) = true := by simpa using hn1
          have e2 : (nn != 0) = true := by simpa using hn0
          obtain ⟨loc, hloc⟩ : ∃ loc, f nn = some loc := by
            have h := hI.out.2.2
            unfold known at h
            cases hf : f nn with
            | some l => exact ⟨l, rfl⟩
            | none => rw [hf] at h; simp [hn0, hn1] at h
          obtain ⟨h', rfl, hr'⟩ : ∃ h', h = h' + 1 ∧ Reach f loc.up h' := by
            have := hI.out.1
            cases this with
            | zero e => rw [hloc] at e; cases e
            | succ e r => rw [hloc] at e; cases e; exact ⟨_, rfl, r⟩
          have hst : st + (h' + 1) ≤ q := hI.out.2.1
          have e4 : ¬ (q : Int) < (st : Int) := by omega
          have sw : IntKind.i64.wrap ((st : Int) + 1) = (st : Int) + 1 := by rw [IntWalk.i64_in _ (by omega)]
          have hkn := hI.out.2.2
          have HI2 := Lib.hid (show Reach f loc.up h' ∧ (st + 1) + h' ≤ q ∧ known f loc.up = true from ⟨hr', by omega, HG.out.closed nn loc hloc⟩)
          have hsp := tree_spot (n := nn) (h2.pull 1)
          rw [hloc] at hsp
          simp only [vL] at hsp
          clear hI hr' hloc hstop hn0 hn1 htail
          go_wp2_with fail
          refine hsp.mono ?_
          rintro e w5 ⟨rfl, h3, k3⟩
          have k3 := k2.trans k3
          clear hsp h2 k2
          have hP := h3.alloc (.cells #[.bool true, .int .i64 loc.up, .string loc.name] 49)
          have kP := k3.alloc (.cells #[.bool true, .int .i64 loc.up, .string loc.name] 49)
          go_upto_region 23 with (fail)
          generalize World.alloc _ _ = w6 at hP kP ⊢
          generalize w5.heap.size = P at hP ⊢
          clear h3 k3
          have p0 := hP.cell 0
          simp at p0
          have hknc := tree_known (n := nn) (hP.pull 1)
          rw [hkn] at hknc
          go_wp2_with fail
          refine hknc.mono ?_
          rintro e w7 ⟨rfl, h4, k4⟩
          have k4 := kP.trans k4
          clear hknc hP kP p0 hkn
          have p1 := (h4.pull 1).cell 1
          simp at p1
          go_wp2_with fail
          go_roundw
          case rel => exact ⟨loc.up, st + 1, h', rfl, by go_num, HI2, ((h4.pull 1).tail).swap, k4⟩
          case measure => simp [intOf]; omega

end Go.Proofs.YtbnipieokpeadaaDoor

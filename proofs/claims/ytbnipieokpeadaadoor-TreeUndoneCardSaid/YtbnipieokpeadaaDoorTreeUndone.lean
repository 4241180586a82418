import Derived.Test.YtbnipieokpeadaaDoorPlays
import Derived.Test.YtbnipieokpeadaaDoorOpArg
import Derived.Test.YtbnipieokpeadaaDoorAwake
import Derived.Test.YtbnipieokpeadaaDoorSpot
import Derived.Test.YtbnipieokpeadaaDoorGrown
namespace Go.Proofs.YtbnipieokpeadaaDoor
open Go Go.RowKit
set_option linter.unusedVariables false
set_option linter.unusedSimpArgs false

theorem grow_right (os : List OpD) : growT os = growT (os.filter rightO) := by
  have key : ∀ (os : List OpD) (s : TreeD), os.foldl stepT s = (os.filter rightO).foldl stepT s := by
    intro os
    induction os with
    | nil => exact fun s => rfl
    | cons o os ih =>
      intro s
      rw [List.foldl_cons, List.filter_cons]
      cases h : rightO o with
      | true => rw [if_pos rfl, List.foldl_cons]; exact ih _
      | false =>
        rw [if_neg (by simp)]
        have : stepT s o = s := by unfold stepT; rw [h]; rfl
        rw [this]
        exact ih s
  exact key os _
theorem grow_step {R : List OpD} {j : Nat} {o : OpD} (hR : ∀ o ∈ R, rightO o = true) (h : R[j]? = some o) : growT (R.take (j + 1)) = (applied (growT (R.take j)).1 o (can (growT (R.take j)).1 o), (growT (R.take j)).2 ++ [⟨o.node, (growT (R.take j)).1 o.node, newLoc (growT (R.take j)).1 o (can (growT (R.take j)).1 o)⟩]) := by
  rw [take_snoc' h, growT_snoc]
  unfold stepT
  rw [hR o (List.mem_of_getElem? h)]
  rfl
theorem ArgRow.take {α : Type} {w : World} {f : α → List Value} {size : Nat} (hf : ∀ x, (f x).length = size) {ao : Option Addr} {n cap : Nat} {xs : List α} (h : ArgRow w f ao n cap xs) (k : Nat) (hk : k ≤ n) : ArgRow w f ao k cap (xs.take k) := by
  refine ⟨by rw [List.length_take, h.len]; omega, Nat.le_trans hk h.le, h.small, fun hp => ?_⟩
  obtain ⟨b, off, e, hc⟩ := h.cells (by omega)
  refine ⟨b, off, e, fun j u hj => hc j u ?_⟩
  have e2 : xs.flatMap f = (xs.take k).flatMap f ++ (xs.drop k).flatMap f := by rw [← List.flatMap_append, List.take_append_drop]
  rw [e2, List.getElem?_append_left (List.getElem?_eq_some_iff.1 hj).1]
  exact hj
theorem Sat.rowArg' {α : Type} {f : α → List Value} {w : World} {ao : Option Addr} {n cap q : Nat} {e : TypeId} {size : Nat} {xs : List α} {l : List HProp} (hs : Sat w (rowT f (.slice ao n cap) e size xs :: l)) (hq : xs.length = q) : ArgRow w f ao q cap xs := by
  obtain ⟨ao', cap', e', h⟩ := hs.argRow
  simp only [Value.slice.injEq] at e'
  obtain ⟨rfl, rfl, rfl⟩ := e'
  rwa [hq] at h
theorem grow_bnd (R : List OpD) (h : R.length ≤ 1000) : Bnd (growT R).1 := (grow_grown R).bnd h

set_option maxRecDepth 100000 in
set_option maxHeartbeats 2000000 in
/-- One Undo takes the last of right operations back. -/
theorem undo_step {w : World} {l : List HProp} {t : Nat} {R : List OpD} {j : Nat} (hR : ∀ o ∈ R, rightO o = true) (hj : j < R.length) (hl : R.length ≤ 1000) (hs : Sat w (treeP t (growT (R.take (j + 1))).1 (growT (R.take (j + 1))).2 :: l)) :
    Calls Tryd.prog 30 #[.pointer (some ⟨t, 0, none⟩)] w fun e w' => e = .returned (.bool true) ∧ Sat w' (treeP t (growT (R.take j)).1 (growT (R.take j)).2 :: l) ∧ Kp w w' := by
  obtain ⟨o, ho⟩ : ∃ o, R[j]? = some o := ⟨_, List.getElem?_eq_getElem hj⟩
  rw [grow_step hR ho] at hs
  have h := tree_undo hs (by have := grow_len (R.take j); rw [List.length_take] at this; omega)
  dsimp only at h
  rw [upd_back] at h
  exact h
theorem undo_end {w : World} {l : List HProp} {t : Nat} (hs : Sat w (treeP t (growT []).1 (growT []).2 :: l)) :
    Calls Tryd.prog 30 #[.pointer (some ⟨t, 0, none⟩)] w fun e w' => e = .returned (.bool false) ∧ Sat w' (treeP t (growT []).1 (growT []).2 :: l) ∧ Kp w w' := tree_undo_none hs
theorem enum_none {S : List (Int × Loc)} (h : Enum (growT []).1 S) : isort klt (kidsOf (fun _ => true) S) = [] := by
  cases S with
  | nil => rfl
  | cons p S => have := h.mem p (List.mem_cons_self ..); cases this

set_option maxRecDepth 100000 in
set_option maxHeartbeats 4000000 in
theorem treeUndone_walk (ao : Option Addr) (n cap : Nat) (os : List OpD) (k : Int) (W : World) (hr : ArgRow W fO ao n cap os) (hk0 : 0 ≤ k) (hk1 : k < 256) (hT : Lib.Utf8Tabs (validS_ren.g 3) (validS_ren.g 4) W) :
    LawCalls Tryd.prog 8 #[.slice ao n cap, .int .u8 k] W := by
  obtain ⟨i0, hi, hz0, hz1, hz2⟩ := info_parts Tryd.infoOp
  have H0 := Sat.start W
  have hle := hr.le
  have hsm := hr.small
  unfold maxLen at hsm
  have HL := Lib.hid hr.len
  have HT := Lib.hid hT
  have HR := Lib.hid hr
  clear hT hr
  go_enter Tryd.func8, Tryd.ntmps8
  go_wp2_with fail
  refine (tree_awake H0).mono ?_
  rintro e w1 ⟨rfl, h1, k1⟩
  clear H0
  go_wp2_with fail
  refine (short_ops h1 HR.out).mono ?_
  rintro e w2 ⟨rfl, h2, k2⟩
  have k2 := k1.trans k2
  clear h1 k1
  by_cases hmost : 30 < n
  · have hmost' : (30 : Int) < (n : Int) := by omega
    clear hmost
    go_wp2_with fail
    go_ret
    exact ⟨rfl, h2.below k2⟩
  have hmost' : ¬ (30 : Int) < (n : Int) := by omega
  cases hsh : shortO os with
  | false =>
    go_wp2_with fail
    go_ret
    exact ⟨rfl, h2.below k2⟩
  | true =>
    have hz : ∀ o ∈ os, o.name.size ≤ 1000 := fun o ho => by
      have := List.all_eq_true.1 hsh o ho
      simp at this
      omega
    have HZ := Lib.hid hz
    clear hz hsh
    have h2 := h2.tNil fO 33 5
    go_wp2_with fail
    go_loopw [7, 8, 9] (fun ov iv bv wr => ∃ i : Nat, i ≤ n ∧ iv = .int .i64 i ∧ Sat wr [rowT fO ov 33 5 ((os.take i).filter rightO), oldH W] ∧ Kp W wr) (fun _ iv _ _ => n - (intOf iv).toNat)
    case atStart => exact ⟨0, by omega, rfl, h2, k2⟩
    case round =>
      clear h2 k2
      obtain ⟨i, hin, rfl, h2, k2⟩ := hrel
      have hfl : ((os.take i).filter rightO).length ≤ i := Nat.le_trans (List.length_filter_le _ _) (List.length_take_le _ _)
      by_cases hlt : i < n
      case pos =>
        obtain ⟨o, ho⟩ : ∃ o, os[i]? = some o := ⟨_, List.getElem?_eq_getElem (by rw [HL.out]; exact hlt)⟩
        obtain ⟨ob, ooff, rfl⟩ := HR.out.some hlt
        obtain ⟨x0, x1, x2, x3, x4⟩ := op_at (HR.out.old (h2.pull 1)) ho
        have i0' : (0 : Int) ≤ (i : Int) := by omega
        have i1' : (i : Int) < (n : Int) := by omega
        have hri := ref_right o h2 (HZ.out o (List.mem_of_getElem? ho))
        simp only [aggO] at hri
        have HO := Lib.hid ho
        have HTK := Lib.hid (show (os.take (i + 1)).filter rightO = (os.take i).filter rightO ++ (if rightO o then [o] else []) by
          rw [take_snoc' ho, List.filter_append]
          congr 1
          cases hb : rightO o <;> simp [hb])
        obtain ⟨q, hq⟩ : ∃ q, ((os.take i).filter rightO).length = q := ⟨_, rfl⟩
        obtain ⟨oao, ocap, hov⟩ := h2.tLen
        rw [hq] at hov hfl
        subst hov
        have HQ := Lib.hid hq
        clear ho hq
        go_wp2_with fail
        refine hri.mono ?_
        rintro e w3 ⟨rfl, h3, k3⟩
        have k3 := k2.trans k3
        clear hri x0 x1 x2 x3 x4 h2 k2
        cases hb : rightO o with
        | false =>
          have HTK2 := Lib.hid (show (os.take (i + 1)).filter rightO = (os.take i).filter rightO by rw [HTK.out, hb]; simp)
          go_wp2_with fail
          go_roundw
          case rel => exact ⟨i + 1, by omega, by go_num, by rw [HTK2.out]; exact h3, k3⟩
          case measure => simp [intOf]; omega
        | true =>
          have HTK2 := Lib.hid (show (os.take (i + 1)).filter rightO = (os.take i).filter rightO ++ [o] by rw [HTK.out, hb]; rfl)
          obtain ⟨x0, x1, x2, x3, x4⟩ := op_at (HR.out.old (h3.pull 1)) HO.out
          have e2 : rowT fO (.slice oao q ocap) 33 5 ((os.take i).filter rightO) = row (.slice oao q ocap) 33 5 q (((os.take i).filter rightO).flatMap fO) := by unfold rowT; rw [HQ.out]
          rw [e2] at h3
          have hX := h3.alloc (.cells #[.int .i64 o.n, .int .i64 o.r, .int .i64 o.node, .int .i64 o.up, .string o.name] 33)
          have kX := k3.alloc (.cells #[.int .i64 o.n, .int .i64 o.r, .int .i64 o.node, .int .i64 o.up, .string o.name] 33)
          clear e2
          go_wp2_with (at_builtin; refine wpList_append_lit rfl (.tmp 43) (.tmp 48) 28 rfl 33 i0 _ 5 48 Tryd.underlying28 hi hz0 hz1 hz2 rfl (by decide) _ _ _ _ _ _ _ rfl (hX.pull 1) 1 1 rfl rfl rfl ?c3 ?c4 ?c5)
          case c3 => unfold maxLen; omega
          case c4 => omega
          case c5 =>
            intro v' w5 hs5 hk5
            rw [← HQ.out] at hs5
            have h7 := Sat.tSnoc (f := fO) (x := o) hs5 rfl
            rw [← HTK2.out] at h7
            have h8 := (h7.pull 1).tail
            clear hs5 h7 hX h3 x0 x1 x2 x3 x4
            go_wp2_with fail
            go_roundw
            case rel => exact ⟨i + 1, by omega, by go_num, h8, kX.trans hk5⟩
            case measure => simp [intOf]; omega
      obtain rfl : n = i := by omega
      have e1 : os.take n = os := List.take_of_length_le (by rw [HL.out]; exact Nat.le_refl _)
      rw [e1] at h2 hfl
      have hgr := grow_right os
      obtain ⟨R, hRR⟩ : ∃ R, R = os.filter rightO := ⟨_, rfl⟩
      rw [← hRR] at h2 hfl hgr
      have HGR := Lib.hid hgr
      have HRR := Lib.hid (show ∀ o ∈ R, rightO o = true from fun o ho => by rw [hRR] at ho; exact (List.mem_filter.1 ho).2)
      have HRZ := Lib.hid (show ∀ o ∈ R, o.name.size ≤ 1000 from fun o ho => by rw [hRR] at ho; exact HZ.out o (List.mem_filter.1 ho).1)
      clear e1 hgr hRR
      obtain ⟨q, hq⟩ : ∃ q, R.length = q := ⟨_, rfl⟩
      obtain ⟨rao, rcap, hov⟩ := h2.tLen
      have hrc : R.length ≤ rcap := by
        obtain ⟨a, b, e, hh⟩ := h2.argRow
        rw [hov] at e
        simp only [Value.slice.injEq] at e
        obtain ⟨-, -, rfl⟩ := e
        exact hh.le
      rw [hq] at hov hfl hrc
      subst hov
      have HQ := Lib.hid hq
      have hRL : R.length ≤ 1000 := by omega
      have HRL := Lib.hid hRL
      clear hq hRL
      obtain ⟨nn, hnn⟩ : ∃ nn : Nat, k % ((q : Int) + 1) = (nn : Int) := ⟨(k % ((q : Int) + 1)).toNat, by rw [Int.toNat_of_nonneg (Int.emod_nonneg _ (by omega))]⟩
      have hnq : nn ≤ q := by
        have := Int.emod_lt_of_pos k (show (0 : Int) < (q : Int) + 1 by omega)
        omega
      have hq0 : ((q : Int) + 1 == 0) = false := by simp; omega
      have hqw : IntKind.i64.wrap ((q : Int) + 1) = (q : Int) + 1 := by rw [IntWalk.i64_in _ (by omega)]
      have hnn0 : (0 : Int) ≤ (nn : Int) := by omega
      have hnn1 : (nn : Int) ≤ (rcap : Int) := by omega
      have hg1 := tree_grown_any (os := os) HT.out (h2.pull 1) (fun w' h => HR.out.old h) HZ.out (by omega)
      rw [HGR.out] at hg1
      have HG1 := Lib.hid hg1
      clear hg1
      go_wp2_with fail
      refine HG1.out.mono ?_
      rintro e w3 ⟨t, rfl, h3, k3⟩
      have k3 := k2.trans k3
      clear h2 k2
      rw [hnn]
      clear hnn hqw hq0
      have hg2 := tree_grown_any (os := R.take nn) (ao := rao) (n := nn) (cap := rcap) HT.out (h3.pull 1) (fun w' h => ((h.pull 2).rowArg' HQ.out).take len_fO nn hnq) (fun o ho => HRZ.out o (List.mem_of_mem_take ho)) (by omega)
      have HG2 := Lib.hid hg2
      clear hg2
      go_wp2_with fail
      refine HG2.out.mono ?_
      rintro e w4 ⟨tw, rfl, h4, k4⟩
      have k4 := k3.trans k4
      clear h3 k3
      have h4 : Sat w4 [treeP t (growT R).1 (growT R).2, treeP tw (growT (R.take nn)).1 (growT (R.take nn)).2, rowT fO (.slice rao q rcap) 33 5 R, oldH W] := ((h4.pull 2).pull 3).push 2
      have hbR := grow_bnd R HRL.out
      have hbN := grow_bnd (R.take nn) (by rw [List.length_take]; have := HRL.out; omega)
      have HBR := Lib.hid hbR
      have HBN := Lib.hid hbN
      clear hbR hbN
      go_wp2_with fail
      refine (tree_all2 h4 HBR.out).mono ?_
      rintro e w5 ⟨S1, wv, hS1, rfl, h5, k5⟩
      have k5 := k4.trans k5
      clear h4 k4
      have HS1 := Lib.hid hS1
      clear hS1
      have hwl : (isort klt (kidsOf (fun _ => true) S1)).length ≤ 1000 := by rw [(isort_perm klt _).length_eq]; exact Nat.le_trans (kidsOf_len _ _) (HBR.out _ HS1.out.mem HS1.out.nodup)
      have HWL := Lib.hid hwl
      clear hwl
      obtain ⟨was, hwas⟩ : ∃ was, was = isort klt (kidsOf (fun _ => true) S1) := ⟨_, rfl⟩
      rw [← hwas] at h5
      have HWAS := Lib.hid hwas
      clear hwas
      obtain ⟨wao, wcap, hwv⟩ := h5.tLen
      generalize was.length = wl at hwv
      subst hwv
      have h5 := h5.push 4
      go_wp2_with fail
      have htk : R.take q = R := List.take_of_length_le (by rw [HQ.out]; exact Nat.le_refl _)
      have HTQ := Lib.hid htk
      clear htk
      go_loopw [14, 15] (fun iv bv wr => ∃ i : Nat, nn ≤ i ∧ i ≤ q ∧ iv = .int .i64 i ∧ Sat wr [treeP t (growT (R.take (q - (i - nn)))).1 (growT (R.take (q - (i - nn)))).2, treeP tw (growT (R.take nn)).1 (growT (R.take nn)).2, rowT fO (.slice rao q rcap) 33 5 R, oldH W, rowT fK (.slice wao wl wcap) 39 3 was] ∧ Kp W wr) (fun iv _ _ => q - (intOf iv).toNat)
      case atStart => exact ⟨nn, Nat.le_refl _, hnq, rfl, by rw [Nat.sub_self, Nat.sub_zero, HTQ.out]; exact h5, k5⟩
      case round =>
        clear h5 k5
        obtain ⟨i, hni, hiq, rfl, h6, k6⟩ := hrel
        by_cases hlt2 : i < q
        case pos =>
          have i1' : (i : Int) < (q : Int) := by omega
          have iw : IntKind.i64.wrap ((i : Int) + 1) = (i : Int) + 1 := by rw [IntWalk.i64_in _ (by omega)]
          obtain ⟨j, hj⟩ : ∃ j, q - (i - nn) = j + 1 := ⟨q - (i - nn) - 1, by omega⟩
          rw [hj] at h6
          have HU := Lib.hid (undo_step (j := j) HRR.out (by rw [HQ.out]; omega) HRL.out h6)
          have HJ := Lib.hid (show q - (i + 1 - nn) = j by omega)
          clear hj
          go_wp2_with fail
          refine HU.out.mono ?_
          rintro e w7 ⟨rfl, h7, k7⟩
          go_wp2_with fail
          go_roundw
          case rel => exact ⟨i + 1, by omega, by omega, by go_num, by rw [HJ.out]; exact h7, k6.trans k7⟩
          case measure => simp [intOf]; omega
        obtain rfl : q = i := by omega
        have hqn : q - (q - nn) = nn := by omega
        rw [hqn] at h6
        clear hqn
        go_wp2_with fail
        refine (tree_all2 h6 HBN.out).mono ?_
        rintro e w7 ⟨S2, v2, hS2, rfl, h7, k7⟩
        have k7 := k6.trans k7
        clear h6 k6
        go_wp2_with fail
        refine (tree_all2 (h7.pull 2) HBN.out).mono ?_
        rintro e w8 ⟨S3, v3, hS3, rfl, h8, k8⟩
        have k8 := k7.trans k8
        clear h7 k7
        rw [kids_same hS3 hS2 (fun _ => true)] at h8
        have hl2 : (isort klt (kidsOf (fun _ => true) S2)).length ≤ 1000 := by rw [(isort_perm klt _).length_eq]; exact Nat.le_trans (kidsOf_len _ _) (HBN.out _ hS2.mem hS2.nodup)
        have HSM := Lib.hid (same_list (h8.pull 2) hl2)
        clear hS2 hS3 hl2 h8
        go_wp2_with fail
        refine HSM.out.mono ?_
        rintro e w9 ⟨rfl, h9, k9⟩
        have k9 := k8.trans k9
        clear HSM k8
        have h10 : Sat w9 [treeP t (growT (R.take nn)).1 (growT (R.take nn)).2, oldH W, rowT fO (.slice rao q rcap) 33 5 R, rowT fK (.slice wao wl wcap) 39 3 was] := (h9.tail.tail.tail.pull 2).push 1
        clear h9
        go_wp2_with fail
        go_loopw [17] (fun iv wr => ∃ i : Nat, nn ≤ i ∧ i ≤ q ∧ iv = .int .i64 i ∧ Sat wr [treeP t (growT (R.take i)).1 (growT (R.take i)).2, oldH W, rowT fO (.slice rao q rcap) 33 5 R, rowT fK (.slice wao wl wcap) 39 3 was] ∧ Kp W wr) (fun iv _ => q - (intOf iv).toNat)
        case atStart => exact ⟨nn, Nat.le_refl _, hnq, rfl, h10, k9⟩
        case round =>
          clear h10 k9
          obtain ⟨i, hni, hiq, rfl, h6, k6⟩ := hrel
          by_cases hlt3 : i < q
          case pos =>
            have i0' : (0 : Int) ≤ (i : Int) := by omega
            have i1' : (i : Int) < (q : Int) := by omega
            have iw : IntKind.i64.wrap ((i : Int) + 1) = (i : Int) + 1 := by rw [IntWalk.i64_in _ (by omega)]
            obtain ⟨o, ho⟩ : ∃ o, R[i]? = some o := ⟨_, List.getElem?_eq_getElem (by rw [HQ.out]; exact hlt3)⟩
            have har := (h6.pull 2).rowArg' HQ.out
            obtain ⟨ob, ooff, rfl⟩ := har.some hlt3
            obtain ⟨x0, x1, x2, x3, x4⟩ := op_at har ho
            have hap := tree_apply_any (s := growT (R.take i)) HT.out o h6 (grow_acyc _) (HRZ.out o (List.mem_of_getElem? ho)) (Nat.le_trans (grow_len _) (by rw [List.length_take]; omega))
            rw [← growT_snoc, ← take_snoc' ho] at hap
            generalize (rightO o && can (growT (R.take i)).1 o) = rb at hap
            simp only [aggO] at hap
            have HA := Lib.hid hap
            clear hap ho har
            go_wp2_with fail
            refine HA.out.mono ?_
            rintro e w7 ⟨rfl, h7, k7⟩
            clear x0 x1 x2 x3 x4 HA
            go_wp2_with fail
            go_roundw
            case rel => exact ⟨i + 1, by omega, by omega, by go_num, h7, k6.trans k7⟩
            case measure => simp [intOf]; omega
          obtain rfl : q = i := by omega
          rw [HTQ.out] at h6
          go_wp2_with fail
          refine (tree_all2 h6 HBR.out).mono ?_
          rintro e w7 ⟨S4, v4, hS4, rfl, h7, k7⟩
          have k7 := k6.trans k7
          clear h6 k6
          rw [kids_same hS4 HS1.out (fun _ => true), ← HWAS.out] at h7
          have HSM := Lib.hid (same_list (h7.pull 4).swap (by rw [HWAS.out]; exact HWL.out))
          clear hS4 h7
          go_wp2_with fail
          refine HSM.out.mono ?_
          rintro e w9 ⟨rfl, h9, k9⟩
          have k9 := k7.trans k9
          have h9 := h9.tail.tail
          clear HSM k7
          go_wp2_with fail
          go_loopw [19] (fun iv wr => ∃ i : Nat, i ≤ q ∧ iv = .int .i64 i ∧ Sat wr [treeP t (growT (R.take (q - i))).1 (growT (R.take (q - i))).2, oldH W, rowT fO (.slice rao q rcap) 33 5 R] ∧ Kp W wr) (fun iv _ => q - (intOf iv).toNat)
          case atStart => exact ⟨0, Nat.zero_le _, rfl, by rw [Nat.sub_zero, HTQ.out]; exact h9, k9⟩
          case round =>
            clear h9 k9
            obtain ⟨i, hiq2, rfl, h6, k6⟩ := hrel
            by_cases hlt4 : i < q
            case pos =>
              have i1' : (i : Int) < (q : Int) := by omega
              have iw : IntKind.i64.wrap ((i : Int) + 1) = (i : Int) + 1 := by rw [IntWalk.i64_in _ (by omega)]
              obtain ⟨j, hj⟩ : ∃ j, q - i = j + 1 := ⟨q - i - 1, by omega⟩
              rw [hj] at h6
              have HU := Lib.hid (undo_step (j := j) HRR.out (by rw [HQ.out]; omega) HRL.out h6)
              have HJ := Lib.hid (show q - (i + 1) = j by omega)
              clear hj
              go_wp2_with fail
              refine HU.out.mono ?_
              rintro e w7 ⟨rfl, h7, k7⟩
              go_wp2_with fail
              go_roundw
              case rel => exact ⟨i + 1, by omega, by go_num, by rw [HJ.out]; exact h7, k6.trans k7⟩
              case measure => simp [intOf]; omega
            obtain rfl : q = i := by omega
            rw [Nat.sub_self, List.take_zero] at h6
            have HB0 := Lib.hid (grow_bnd [] (by simp))
            go_wp2_with fail
            refine (tree_all2 h6 HB0.out).mono ?_
            rintro e w7 ⟨S5, v5, hS5, rfl, h7, k7⟩
            have k7 := k6.trans k7
            clear h6 k6
            rw [enum_none hS5] at h7
            obtain ⟨ao5, cap5, hv5⟩ := h7.tLen
            rw [List.length_nil] at hv5
            subst hv5
            clear hS5
            go_wp2_with fail
            refine (undo_end (h7.pull 1)).mono ?_
            rintro e w8 ⟨rfl, h8, k8⟩
            go_wp2_with fail
            go_ret
            exact ⟨rfl, (h8.pull 2).below (k7.trans k8)⟩

end Go.Proofs.YtbnipieokpeadaaDoor

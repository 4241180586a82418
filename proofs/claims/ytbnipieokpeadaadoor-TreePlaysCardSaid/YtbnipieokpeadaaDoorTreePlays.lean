import Derived.Test.YtbnipieokpeadaaDoorPlays
import Derived.Test.YtbnipieokpeadaaDoorOpArg
import Derived.Test.YtbnipieokpeadaaDoorAwake
import Derived.Test.YtbnipieokpeadaaDoorSpot
namespace Go.Proofs.YtbnipieokpeadaaDoor
open Go Go.RowKit
set_option linter.unusedVariables false
set_option linter.unusedSimpArgs false

theorem spot_neq (q : Bool) (z : Int) (nm : ByteArray) (W : World) : (binOp BinOp.neq 49 (.agg #[.bool q, .int .i64 z, .string nm]) (.agg #[.bool q, .int .i64 z, .string nm])).run Tryd.prog W = .ok (.bool false) W := by
  go_simp
  try simp
theorem op_up {W w : World} {l : List HProp} {b off n cap k : Nat} {os : List OpD} {o : OpD} (hr : ArgRow W fO (some ⟨b, off, none⟩) n cap os) (hs : Sat w (oldH W :: l)) (hk : os[k]? = some o) : w.cell? ⟨b, off + k * 5 + 3, none⟩ = some (.int .i64 o.up) := (op_at (hr.old hs) hk).2.2.2.1

set_option maxRecDepth 100000 in
set_option maxHeartbeats 4000000 in
theorem treePlays_walk (ao : Option Addr) (n cap : Nat) (os : List OpD) (bo : Option Addr) (m bcap : Nat) (us : List Bool) (W : World) (hr : ArgRow W fO ao n cap os) (hu : ArgRow W fB bo m bcap us) (hT : Lib.Utf8Tabs (validS_ren.g 3) (validS_ren.g 4) W) :
    LawCalls Tryd.prog 9 #[.slice ao n cap, .slice bo m bcap] W := by
  have H0 := Sat.start W
  have hle := hr.le
  have hsm := hr.small
  have hle2 := hu.le
  have hsm2 := hu.small
  unfold maxLen at hsm hsm2
  have HL := Lib.hid hr.len
  have HT := Lib.hid hT
  have HR := Lib.hid hr
  have HU := Lib.hid hu
  clear hT hr hu
  go_enter Tryd.func9, Tryd.ntmps9
  go_wp2_with fail
  refine (tree_awake H0).mono ?_
  rintro e w1 ⟨rfl, h1, k1⟩
  clear H0
  go_wp2_with fail
  refine (short_ops h1 HR.out).mono ?_
  rintro e w2 ⟨rfl, h2, k2⟩
  have k2 := k1.trans k2
  clear h1 k1
  by_cases hmost : 30 < n
  · have hmost' : (30 : Int) < (n : Int) := by omega
    clear hmost
    go_wp2_with fail
    go_ret
    exact ⟨rfl, h2.below k2⟩
  have hmost' : ¬ (30 : Int) < (n : Int) := by omega
  cases hsh : shortO os with
  | false =>
    go_wp2_with fail
    go_ret
    exact ⟨rfl, h2.below k2⟩
  | true =>
    have hz : ∀ o ∈ os, o.name.size ≤ 1000 := fun o ho => by
      have := List.all_eq_true.1 hsh o ho
      simp at this
      omega
    have HZ := Lib.hid hz
    clear hz hsh
    go_wp2_with fail
    refine (tree_new h2).mono ?_
    rintro e w3 ⟨t, rfl, h3, k3⟩
    have k3 := k2.trans k3
    clear h2 k2
    have h4 := refP_I (L := []) (Ws := []) (vs := []) rfl (((((h3.poolNil fK).alloc (.cells #[.slice none 0 0, .slice none 0 0] 61)).pull 1).head (B := poolP fK [(.slice none 0 0, [])]) (fun h hh p hp => by
      obtain rfl := List.mem_singleton.1 hp
      exact ⟨none, 0, rfl, Nat.le_refl _, by simp [maxLen], fun h => by simp at h⟩)).tNil fV 36 1 |>.pull 2)
    have k4 := k3.alloc (.cells #[.slice none 0 0, .slice none 0 0] 61)
    go_upto_region 7 with (fail)
    generalize World.alloc _ _ = w4 at h4 k4 ⊢
    generalize w3.heap.size = tr at h4 ⊢
    clear h3 k3
    have h4 := h4.swap
    go_wp2_with fail
    go_loopw [9, 10, 11] (fun iv bv nv wr => ∃ (i : Nat) (f : Int → Option Loc) (ds : List ChD) (L : List KidD) (Ws : List (List KidD)), i ≤ n ∧ iv = .int .i64 i ∧ ds.length ≤ i ∧ Hid (Both ds Ws f L) ∧ Sat wr [treeP t f ds, refP tr L Ws, oldH W] ∧ Kp W wr) (fun iv _ _ _ => n - (intOf iv).toNat)
    case atStart => exact ⟨0, _, _, _, _, by omega, rfl, Nat.le_refl _, Lib.hid both_start, h4, k4⟩
    case round =>
      clear h4 k4
      obtain ⟨i, f, ds, L, Ws, hin, rfl, hdl, HB, h5, k5⟩ := hrel
      by_cases hlt : i < n
      case neg =>
        obtain rfl : n = i := by omega
        go_wp2_with fail
        go_ret
        exact ⟨rfl, (h5.pull 2).below k5⟩
      have i0' : (0 : Int) ≤ (i : Int) := by omega
      have i1' : (i : Int) < (n : Int) := by omega
      obtain ⟨o, ho⟩ : ∃ o, os[i]? = some o := ⟨_, List.getElem?_eq_getElem (by rw [HL.out]; exact hlt)⟩
      obtain ⟨ob, ooff, rfl⟩ := HR.out.some hlt
      have HO := Lib.hid ho
      have HOZ := Lib.hid (HZ.out o (List.mem_of_getElem? ho))
      clear ho
      obtain ⟨back, hback⟩ : ∃ back, back = (if i < m then us.getD i false else false) := ⟨_, rfl⟩
      have HBK := Lib.hid hback
      clear hback
      go_upto_if 37 with (fail)
      go_cut [10] from 28 to 115 (fun v wx => v = .bool back ∧ wr = wx)
      case first =>
        by_cases him : i < m
        · have him' : (i : Int) < (m : Int) := by omega
          have hul := HU.out.len
          obtain ⟨u, hu⟩ : ∃ u, us[i]? = some u := ⟨_, List.getElem?_eq_getElem (by omega)⟩
          obtain ⟨ub, uoff, rfl⟩ := HU.out.some him
          have y0 := (HU.out.old (h5.pull 2)).cell len_fB 0 rfl hu rfl
          rw [Nat.mul_one, Nat.add_zero] at y0
          have hbu : back = u := by rw [HBK.out, if_pos him, List.getD_eq_getElem?_getD, hu]; rfl
          subst hbu
          clear hu hul
          go_wp2_with fail
          go_meet
          case rel => exact ⟨rfl, rfl⟩
        · have him' : ¬ (i : Int) < (m : Int) := by omega
          have hbu : back = false := by rw [HBK.out, if_neg him]
          subst hbu
          go_wp2_with fail
          go_meet
          case rel => exact ⟨rfl, rfl⟩
      case rest =>
        obtain ⟨rfl, rfl⟩ := hcut
        clear HBK
        go_upto_if 42 with (fail)
        go_cut [10] from 28 to 115 (fun v wx => ∃ (f : Int → Option Loc) (ds : List ChD) (L : List KidD) (Ws : List (List KidD)), v = .bool back ∧ ds.length ≤ i + 1 ∧ Hid (Both ds Ws f L) ∧ Sat wx [treeP t f ds, refP tr L Ws, oldH W] ∧ Kp W wx)
        case first =>
          obtain ⟨b1, b2, b3, b4⟩ := both_facts HB.out
          cases back with
          | true =>
            rcases List.eq_nil_or_concat ds with rfl | ⟨ds', c, rfl⟩
            · obtain rfl := both_none HB.out
              have hc1 := tree_undo_none h5
              clear b1 b2 b3 b4
              go_wp2_with fail
              refine hc1.mono ?_
              rintro e w6 ⟨rfl, h6, k6⟩
              have hc2 := ref_undo_none (h6.pull 1)
              go_wp2_with fail
              refine hc2.mono ?_
              rintro e w7 ⟨rfl, h7, k7⟩
              go_wp2_with fail
              go_meet
              case rel => exact ⟨f, [], L, [], rfl, by simp, HB, h7.swap, (k5.trans k6).trans k7⟩
            · rw [List.concat_eq_append] at *
              obtain ⟨Ws', L', rfl, hb'⟩ := both_undo HB.out
              have hc1 := tree_undo h5 (by simp at hdl; omega)
              have HW := Lib.hid (show Ws'.length ≤ 1000 by simp at b4 hdl; omega)
              have HDL := Lib.hid (show ds'.length ≤ i + 1 by simp at hdl; omega)
              have HB' := Lib.hid hb'
              clear b1 b2 b3 b4 hdl hb'
              go_wp2_with fail
              refine hc1.mono ?_
              rintro e w6 ⟨rfl, h6, k6⟩
              have hc2 := ref_undo (h6.pull 1) HW.out
              go_wp2_with fail
              refine hc2.mono ?_
              rintro e w7 ⟨rfl, h7, k7⟩
              go_wp2_with fail
              go_meet
              case rel => exact ⟨_, ds', L', Ws', rfl, HDL.out, HB', h7.swap, (k5.trans k6).trans k7⟩
          | false =>
            obtain ⟨x0, x1, x2, x3, x4⟩ := op_at (HR.out.old (h5.pull 2)) HO.out
            have hre := enumk_reach b1
            have hap := tree_apply_any (s := (f, ds)) HT.out o ((h5.pull 2).swap.drewN 1) b2 HOZ.out (show ds.length ≤ 1000 by omega)
            cases hro : rightO o with
            | false =>
              have hst : stepT (f, ds) o = (f, ds) := by unfold stepT; rw [hro]; rfl
              rw [hst, hro] at hap
              have hap2 := fun (w' : World) (hs : Sat w' [refP tr L Ws, treeP t f ds, oldH W]) => ref_apply_no (t := tr) o hs HOZ.out hro
              simp only [Bool.false_and] at hap
              simp only [aggO] at hap hap2
              have HA := Lib.hid hap
              have HA2 := Lib.hid hap2
              clear hap hap2 hre hro b1 b2 b3 b4 hst
              go_upto_region 18 with (fail)
              go_region_held3 (fun w' => w'.cell? ⟨ob, ooff + i * 5, none⟩ = some (.int .i64 o.n) ∧ w'.cell? ⟨ob, ooff + i * 5 + 1, none⟩ = some (.int .i64 o.r) ∧ w'.cell? ⟨ob, ooff + i * 5 + 2, none⟩ = some (.int .i64 o.node) ∧ w'.cell? ⟨ob, ooff + i * 5 + 3, none⟩ = some (.int .i64 o.up) ∧ w'.cell? ⟨ob, ooff + i * 5 + 4, none⟩ = some (.string o.name)) (first | exact ⟨x0, x1, x2, x3, x4⟩ | exact op_at (HR.out.old (hB.pull 2)) HO.out | exact op_at (HR.out.old (hA.pull 1)) HO.out | go_keep)
                (first | (go_at_call 15; refine HA.out.mono ?_; rintro e wA ⟨rfl, hA, kA⟩) | (go_at_call 33; refine (HA2.out _ (hA.pull 2)).mono ?_; rintro e wB ⟨rfl, hB, kB⟩))
              clear x0 x1 x2 x3 x4
              all_goals
                go_wp2_with fail
                go_meet
                case rel => exact ⟨f, ds, L, Ws, rfl, by omega, HB, hB.swap, ((k5.drewN 1).trans kA).trans kB⟩
            | true =>
              have hst : stepT (f, ds) o = (applied f o (can f o), ds ++ [⟨o.node, f o.node, newLoc f o (can f o)⟩]) := by unfold stepT; rw [hro]; rfl
              rw [hst, hro] at hap
              have hb' := both_apply HB.out o
              have hcl := can f o
              simp only [Bool.true_and] at hap
              have hap2 := fun (w' : World) (r : Bool) (hr : r = can f o) (hs : Sat w' [refP tr L Ws, treeP t (applied f o r) (ds ++ [⟨o.node, f o.node, newLoc f o r⟩]), oldH W]) => ref_apply_yes (t := tr) o hs b1 (by omega) (by omega) HOZ.out hre b2 hro hr
              simp only [aggO] at hap hap2
              generalize hrr : can f o = r at hap hb' hap2
              have HA := Lib.hid hap
              have HA2 := Lib.hid (hap2 · r rfl)
              have HB' := Lib.hid hb'
              clear hap hap2 hre hro b1 b2 b3 b4 hst hb' hcl hrr
              go_upto_region 18 with (fail)
              go_region_held3 (fun w' => w'.cell? ⟨ob, ooff + i * 5, none⟩ = some (.int .i64 o.n) ∧ w'.cell? ⟨ob, ooff + i * 5 + 1, none⟩ = some (.int .i64 o.r) ∧ w'.cell? ⟨ob, ooff + i * 5 + 2, none⟩ = some (.int .i64 o.node) ∧ w'.cell? ⟨ob, ooff + i * 5 + 3, none⟩ = some (.int .i64 o.up) ∧ w'.cell? ⟨ob, ooff + i * 5 + 4, none⟩ = some (.string o.name)) (first | exact ⟨x0, x1, x2, x3, x4⟩ | exact op_at (HR.out.old (hB.pull 2)) HO.out | exact op_at (HR.out.old (hA.pull 1)) HO.out | go_keep)
                (first | (go_at_call 15; refine HA.out.mono ?_; rintro e wA ⟨rfl, hA, kA⟩) | (go_at_call 33; refine (HA2.out _ (hA.pull 2)).mono ?_; rintro e wB ⟨rfl, hB, kB⟩))
              clear x0 x1 x2 x3 x4
              all_goals
                go_wp2_with fail
                go_meet
                case rel => exact ⟨_, _, _, _, rfl, by simp; omega, HB', hB.swap, ((k5.drewN 1).trans kA).trans kB⟩
        case rest =>
          clear h5 k5 HB hdl
          obtain ⟨f, ds, L, Ws, rfl, hdl, HB, h5, k5⟩ := hcut
          obtain ⟨b1, b2, b3, b4⟩ := both_facts HB.out
          have hnd := nodup_nodes b1.nodup
          have hbd := enumk_bnd b1 (by omega)
          have hL : L.length ≤ 1000 := by omega
          have B1 := Lib.hid b1
          have ND := Lib.hid hnd
          have BD := Lib.hid hbd
          have LL := Lib.hid hL
          have hil : (isort klt L).length ≤ 1000 := by rw [(isort_perm klt L).length_eq]; exact hL
          have hkl : (isort klt (L.filter fun k => k.up == o.up)).length ≤ 1000 := by rw [(isort_perm klt _).length_eq]; exact Nat.le_trans (List.length_filter_le _ _) hL
          have IL := Lib.hid hil
          have KL := Lib.hid hkl
          clear b1 b2 b3 b4 hnd hbd hL hil hkl
          have x2 := (op_at (HR.out.old (h5.pull 2)) HO.out).2.2.1
          have x3 := op_up HR.out (h5.pull 2) HO.out
          obtain ⟨q, z, nm, -, hvl⟩ := locCells_form (f o.node)
          have hq := fun W => spot_neq q z nm W
          have hsA := tree_spot (n := o.node) (h5.drewN 1)
          have hsB := fun (w' : World) (hs : Sat w' [refP tr L Ws, treeP t f ds, oldH W]) => ref_spot (n := o.node) hs B1.out LL.out
          rw [hvl] at hsA
          simp only [hvl] at hsB
          have SA := Lib.hid hsA
          have SB := Lib.hid hsB
          clear hsA hsB hvl
          have e1 : ∀ (S : List (Int × Loc)), Enum f S → isort klt (kidsOf (fun _ => true) S) = isort klt L := fun S hS => all_one B1.out hS
          have e2 : ∀ (S : List (Int × Loc)), Enum f S → isort klt (kidsOf (fun p => p.2.up == o.up) S) = isort klt (L.filter fun k => k.up == o.up) := fun S hS => kids_one_n o.up B1.out hS
          have E1 := Lib.hid e1
          have E2 := Lib.hid e2
          clear e1 e2
          go_upto_region 21 with (fail)
          have hkk : (known f o.up != known f o.up) = false := by simp
          go_region_held3 (fun w' => w'.cell? ⟨ob, ooff + i * 5 + 3, none⟩ = some (.int .i64 o.up)) (first | exact x3 | exact op_up HR.out (hM.pull 6) HO.out | exact op_up HR.out (hJ.pull 6) HO.out | exact op_up HR.out (hI.pull 5) HO.out | exact op_up HR.out (hG.pull 4) HO.out | exact op_up HR.out (hF.pull 4) HO.out | exact op_up HR.out (hE.pull 3) HO.out | exact op_up HR.out (hC.pull 2) HO.out | exact op_up HR.out (hB.pull 2) HO.out | exact op_up HR.out (hA.pull 2) HO.out | go_keep)
            (first | (go_at_call 24; refine SA.out.mono ?_; rintro e wA ⟨rfl, hA, kA⟩) | (go_at_call 25; refine (SB.out _ (hA.pull 1)).mono ?_; rintro e wB ⟨rfl, hB, kB⟩) | (go_at_call 22; refine (tree_known (hB.pull 1)).mono ?_; rintro e wC ⟨rfl, hC, kC⟩) | (go_at_call 23; refine (ref_known (n := o.up) (hC.pull 1) B1.out LL.out).mono ?_; rintro e wD ⟨rfl, rfl⟩) | (go_at_call 27; refine (tree_all2 hC BD.out).mono ?_; rintro e wE ⟨S1, v1, hS1, rfl, hE, kE⟩; rw [E1.out S1 hS1] at hE) | (go_at_call 34; refine (ref_all (hE.pull 2) ND.out LL.out).mono ?_; rintro e wF ⟨v2, rfl, hF, kF⟩) | (go_at_call 16; refine (tree_kids2 (n := o.up) (hG.pull 3) BD.out).mono ?_; rintro e wI ⟨S3, v3, hS3, rfl, hI, kI⟩; rw [E2.out S3 hS3] at hI) | (go_at_call 35; refine (ref_kids (n := o.up) (hI.pull 4) ND.out LL.out).mono ?_; rintro e wJ ⟨v4, rfl, hJ, kJ⟩) | (go_at_call 28; refine (same_list (hJ.pull 2) KL.out).mono ?_; rintro e wM ⟨rfl, hM, kM⟩) | (go_at_call 28; refine (same_list (hF.pull 2) IL.out).mono ?_; rintro e wG ⟨rfl, hG, kG⟩))
          clear x2 x3
          all_goals
            have h9 := ((hM.tail.tail.swap.pull 2).tail.pull 2).tail
            have k9 := ((((((((k5.drewN 1).trans kA).trans kB).trans kC).trans kE).trans kF).trans kG).trans kI).trans (kJ.trans kM)
            go_wp2_with fail
            go_roundw
            case rel => exact ⟨i + 1, f, ds, L, Ws, by omega, by go_num, by omega, HB, h9, k9⟩
            case measure => simp [intOf]; omega

end Go.Proofs.YtbnipieokpeadaaDoor

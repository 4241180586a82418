import Derived.Test.YtbnipieokpeadaaDoorSpot
import Derived.Test.YtbnipieokpeadaaDoorLast
import Derived.Test.YtbnipieokpeadaaDoorGrown2
namespace Go.Proofs.YtbnipieokpeadaaDoor
open Go Go.RowKit
set_option linter.unusedVariables false
set_option linter.unusedSimpArgs false

theorem undo_applied (f : Int → Option Loc) (o : OpD) (r : Bool) : upd (applied f o r) o.node (f o.node) = f := by
  cases r with
  | false => exact upd_self f o.node
  | true =>
    show upd (upd f o.node _) o.node _ = f
    funext j
    by_cases h : j = o.node
    · subst h; rw [upd_same]
    · rw [upd_other h, upd_other h]
theorem Few.undo {f : Int → Option Loc} (h : Few f) {c : ChD} (hc : 256 ≤ c.node ∧ c.node < 264) : Few (upd f c.node c.old) := fun k l hk => by
  by_cases e : k = c.node
  · rw [e]; exact hc
  · rw [upd_other e] at hk
    exact h k l hk
theorem snoc_of {α : Type} {xs : List α} (h : 0 < xs.length) : ∃ ys y, xs = ys ++ [y] := by
  have hne : xs ≠ [] := by intro e; rw [e] at h; cases h
  exact ⟨xs.dropLast, xs.getLast hne, (List.dropLast_concat_getLast hne).symm⟩
theorem kids_len {f : Int → Option Loc} {S : List (Int × Loc)} (hF : Few f) (hS : Enum f S) : (isort klt (kidsOf (fun _ => true) S)).length ≤ 8 := by
  rw [(isort_perm klt _).length_eq]
  exact Nat.le_trans (kidsOf_len _ _) (hF.length hS.mem hS.nodup)

set_option maxRecDepth 100000 in
set_option maxHeartbeats 4000000 in
theorem treeClones_walk (ao : Option Addr) (n cap : Nat) (ts : List TinyD) (m : TinyD) (fst : Bool) (W : World) (hr : ArgRow W fT ao n cap ts) (hq : ∀ t ∈ ts, TinyOk t) (hm : TinyOk m) :
    LawCalls Tryd.prog 10 #[.slice ao n cap, .agg #[.int .u8 m.n, .int .u8 m.r, .int .u8 m.node, .int .u8 m.up, .int .u8 m.name], .bool fst] W := by
  have H0 := Sat.start W
  have hle := hr.le
  have hsm := hr.small
  unfold maxLen at hsm
  have HL := Lib.hid hr.len
  have HQ := Lib.hid hq
  have HM := Lib.hid hm
  clear hq hm
  have hM := H0.alloc (.cells #[.int .u8 m.n, .int .u8 m.r, .int .u8 m.node, .int .u8 m.up, .int .u8 m.name] 24)
  have kM := (Kp.refl W).alloc (.cells #[.int .u8 m.n, .int .u8 m.r, .int .u8 m.node, .int .u8 m.up, .int .u8 m.name] 24)
  go_enter Tryd.func10, Tryd.ntmps10
  go_upto_region 1 with (fail)
  generalize World.alloc _ _ = w0 at hM kM ⊢
  generalize W.heap.size = M at hM ⊢
  go_wp2_with fail
  refine (tree_awake hM).mono ?_
  rintro e w1 ⟨rfl, h1, k1⟩
  have k1 := kM.trans k1
  clear H0 hM kM
  by_cases hmost : 30 < n
  · have hmost' : (30 : Int) < (n : Int) := by omega
    clear hmost
    go_wp2_with fail
    go_ret
    exact ⟨rfl, (h1.pull 1).below k1⟩
  have hmost' : (n : Int) ≤ 30 := by omega
  go_wp2_with fail
  refine (tiny_all (h1.pull 1) hr HQ.out (by omega)).mono ?_
  rintro e w2 ⟨v, rfl, h2, k2⟩
  go_wp2_with fail
  refine (tree_grown2 h2 ?_ (by rw [List.length_map, HL.out]; omega)).mono ?_
  · intro o ho
    obtain ⟨t, ht, rfl⟩ := List.mem_map.1 ho
    exact small_ofT (HQ.out t ht)
  rintro e w3 ⟨t, f, ds, hA, hF, hd, hnd, rfl, h3, k3⟩
  have k3 := (k1.trans k2).trans k3
  have hdl : ds.length = n := by rw [hd, List.length_map, HL.out]
  have HA := Lib.hid hA
  have HF := Lib.hid hF
  have HD := Lib.hid hdl
  have HND := Lib.hid hnd
  clear hA hF hd hdl hnd h1 k1 h2 k2
  go_wp2_with fail
  refine (tree_clone h3 (by rw [HD.out]; omega)).mono ?_
  rintro e w4 ⟨c, rfl, h4, k4⟩
  have k4 := k3.trans k4
  go_wp2_with fail
  refine (tree_all (h4.pull 1) HF.out).mono ?_
  rintro e w5 ⟨S, kv, hS, rfl, h5, k5⟩
  have k5 := k4.trans k5
  clear h3 k3 h4 k4
  have hkl := kids_len HF.out hS
  have HKS := Lib.hid (show ∀ S', Enum f S' → isort klt (kidsOf (fun _ => true) S') = isort klt (kidsOf (fun _ => true) S) from fun S' h' => kids_same h' hS _)
  generalize isort klt (kidsOf (fun _ => true) S) = ks at h5 hkl HKS
  clear hS
  go_upto_if 34 with (fail)
  go_cut [11, 12] from 35 to 36 (fun av bv wx => ∃ A B, av = .pointer (some ⟨A, 0, none⟩) ∧ bv = .pointer (some ⟨B, 0, none⟩) ∧ Sat wx [treeP A f ds, treeP B f ds, rowT fK kv 39 3 ks, rowT fO v 33 5 (ts.map ofT), oldH W, own M (.cells #[.int .u8 m.n, .int .u8 m.r, .int .u8 m.node, .int .u8 m.up, .int .u8 m.name] 24 (0, 0))] ∧ Kp W wx)
  case first =>
    cases fst with
    | false =>
      go_wp2_with fail
      go_meet
      case rel => exact ⟨t, c, rfl, rfl, (h5.push 2), k5⟩
    | true =>
      go_wp2_with fail
      go_meet
      case rel => exact ⟨c, t, rfl, rfl, (h5.push 2).swap, k5⟩
  case rest =>
    clear h5 k5
    obtain ⟨A, B, rfl, rfl, h5, k5⟩ := hcut
    have m0 := (h5.pull 5).cell 0
    have m1 := (h5.pull 5).cell 1
    have m2 := (h5.pull 5).cell 2
    have m3 := (h5.pull 5).cell 3
    have m4 := (h5.pull 5).cell 4
    simp at m0 m1 m2 m3 m4
    go_wp2_with fail
    refine (tiny_of h5 HM.out).mono ?_
    rintro e w6 ⟨rfl, h6, k6⟩
    have k6 := k5.trans k6
    clear m0 m1 m2 m3 m4 h5 k5
    have hso := small_ofT HM.out
    generalize ofT m = o at hso ⊢
    obtain ⟨r, hrr⟩ : ∃ r : Bool, r = true ↔ known f o.up = true ∧ ¬ Anc f o.node o.up := by
      by_cases h : known f o.up = true ∧ ¬ Anc f o.node o.up
      · exact ⟨true, fun _ => h, fun _ => rfl⟩
      · exact ⟨false, fun e => (by cases e), fun e => absurd e h⟩
    have hcall := tree_apply (o := o) (r := r) h6 HA.out (isRight_small hso) hrr (by rw [HD.out]; omega)
    clear hrr hso
    go_wp2_with fail
    refine hcall.mono ?_
    rintro e w7 ⟨rfl, h7, k7⟩
    have k7 := k6.trans k7
    clear hcall h6 k6
    go_wp2_with fail
    refine (tree_all (h7.pull 1) HF.out).mono ?_
    rintro e w8 ⟨S2, kv2, hS2, rfl, h8, k8⟩
    rw [HKS.out S2 hS2] at h8
    have k8 := k7.trans k8
    clear hS2 h7 k7
    have hsame := same_list (h8.pull 3).swap (by omega)
    go_wp2_with fail
    refine hsame.mono ?_
    rintro e w9 ⟨rfl, h9, k9⟩
    have k9 := k8.trans k9
    clear hsame h8 k8
    have hund := tree_undo (h9.pull 3) (by rw [HD.out]; omega)
    simp only [undo_applied] at hund
    go_wp2_with fail
    refine hund.mono ?_
    rintro e w10 ⟨rfl, h10, k10⟩
    have k10 := k9.trans k10
    clear hund h9 k9
    have h11 := ((h10.pull 1).tail.pull 1).tail
    clear h10
    go_wp2_with fail
    go_loopw [13, 14, 15] (fun iv xv yv wr => ∃ (i : Nat) (f' : Int → Option Loc) (ds' : List ChD), i ≤ n ∧ iv = .int .i64 i ∧ Hid (ds'.length = n - i ∧ Few f' ∧ ∀ d ∈ ds', 256 ≤ d.node ∧ d.node < 264) ∧ Sat wr [treeP A f' ds', treeP B f' ds', rowT fO v 33 5 (ts.map ofT), oldH W, own M (.cells #[.int .u8 m.n, .int .u8 m.r, .int .u8 m.node, .int .u8 m.up, .int .u8 m.name] 24 (0, 0))] ∧ Kp W wr) (fun iv _ _ _ => n - (intOf iv).toNat)
    case atStart => exact ⟨0, f, ds, by omega, rfl, Lib.hid ⟨by rw [HD.out]; omega, HF.out, HND.out⟩, h11, k10⟩
    case round =>
      clear h11 k10
      obtain ⟨i, f', ds', hin, rfl, hI, h2, k2⟩ := hrel
      by_cases hlt : i < n
      case pos =>
        have i1' : (i : Int) < (n : Int) := by omega
        obtain ⟨ys, ch, hys⟩ := snoc_of (xs := ds') (by rw [hI.out.1]; omega)
        subst hys
        have hyl : ys.length = n - (i + 1) := by have := hI.out.1; rw [List.length_append, List.length_singleton] at this; omega
        have hF' : Few (upd f' ch.node ch.old) := hI.out.2.1.undo (hI.out.2.2 ch (by simp))
        have HI2 := Lib.hid (show ys.length = n - (i + 1) ∧ Few (upd f' ch.node ch.old) ∧ ∀ d ∈ ys, 256 ≤ d.node ∧ d.node < 264 from ⟨hyl, hF', fun d hd => hI.out.2.2 d (by simp [hd])⟩)
        have hu1 := tree_undo h2 (by omega)
        clear hI hyl hF'
        go_wp2_with fail
        refine hu1.mono ?_
        rintro e w3 ⟨rfl, h3, k3⟩
        have k3 := k2.trans k3
        clear hu1 h2 k2
        have hu2 := tree_undo (h3.pull 1) (by have := HI2.out.1; omega)
        go_wp2_with fail
        refine hu2.mono ?_
        rintro e w4 ⟨rfl, h4, k4⟩
        have k4 := k3.trans k4
        clear hu2 h3 k3
        generalize upd f' ch.node ch.old = g at h4 HI2
        have ha1 := tree_all (h4.pull 1) HI2.out.2.1
        go_wp2_with fail
        refine ha1.mono ?_
        rintro e w5 ⟨S3, va, hS3, rfl, h5, k5⟩
        have k5 := k4.trans k5
        clear ha1 h4 k4
        have ha2 := tree_all (h5.pull 2) HI2.out.2.1
        go_wp2_with fail
        refine ha2.mono ?_
        rintro e w6 ⟨S4, vb, hS4, rfl, h6, k6⟩
        have k6 := k5.trans k6
        clear ha2 h5 k5
        rw [kids_same hS4 hS3 _] at h6
        have hl3 := kids_len HI2.out.2.1 hS3
        generalize isort klt (kidsOf (fun _ => true) S3) = ks3 at h6 hl3
        clear hS3 hS4
        have hsame := same_list (h6.pull 2) (by omega)
        clear HKS hkl
        go_wp2_with fail
        refine hsame.mono ?_
        rintro e w7 ⟨rfl, h7, k7⟩
        have k7 := k6.trans k7
        clear hsame h6 k6
        go_wp2_with fail
        go_roundw
        case rel => exact ⟨i + 1, g, ys, by omega, by go_num, HI2, h7.tail.tail.swap, k7⟩
        case measure => simp [intOf]; omega
      obtain rfl : n = i := by omega
      obtain rfl : ds' = [] := List.eq_nil_of_length_eq_zero (by rw [hI.out.1]; omega)
      have hu1 := tree_undo_none h2
      go_wp2_with fail
      refine hu1.mono ?_
      rintro e w3 ⟨rfl, h3, k3⟩
      have hu2 := tree_undo_none (h3.pull 1)
      go_wp2_with fail
      refine hu2.mono ?_
      rintro e w4 ⟨rfl, h4, k4⟩
      go_wp2_with fail
      go_ret
      exact ⟨rfl, (h4.pull 3).below ((k2.trans k3).trans k4)⟩

end Go.Proofs.YtbnipieokpeadaaDoor

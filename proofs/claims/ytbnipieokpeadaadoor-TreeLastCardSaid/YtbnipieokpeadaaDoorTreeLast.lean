import Derived.Test.YtbnipieokpeadaaDoorLast
namespace Go.Proofs.YtbnipieokpeadaaDoor
open Go Go.RowKit
set_option linter.unusedVariables false
set_option linter.unusedSimpArgs false

set_option maxRecDepth 100000 in
set_option maxHeartbeats 4000000 in
theorem treeLast_walk (ao : Option Addr) (n cap : Nat) (ts : List TinyD) (m : TinyD) (W : World) (hr : ArgRow W fT ao n cap ts) (hq : ∀ t ∈ ts, TinyOk t) (hm : TinyOk m) :
    LawCalls Tryd.prog 3 #[.slice ao n cap, .agg #[.int .u8 m.n, .int .u8 m.r, .int .u8 m.node, .int .u8 m.up, .int .u8 m.name]] W := by
  have H0 := Sat.start W
  have hle := hr.le
  have hsm := hr.small
  unfold maxLen at hsm
  have HL := Lib.hid hr.len
  have HQ := Lib.hid hq
  have HM := Lib.hid hm
  clear hq hm
  have hM := H0.alloc (.cells #[.int .u8 m.n, .int .u8 m.r, .int .u8 m.node, .int .u8 m.up, .int .u8 m.name] 24)
  have kM := (Kp.refl W).alloc (.cells #[.int .u8 m.n, .int .u8 m.r, .int .u8 m.node, .int .u8 m.up, .int .u8 m.name] 24)
  go_enter Tryd.func3, Tryd.ntmps3
  go_upto_region 1 with (fail)
  generalize World.alloc _ _ = w0 at hM kM ⊢
  generalize W.heap.size = M at hM ⊢
  go_wp2_with fail
  refine (tree_awake hM).mono ?_
  rintro e w1 ⟨rfl, h1, k1⟩
  have k1 := kM.trans k1
  clear H0 hM kM
  by_cases hmost : 30 < n
  · have hmost' : (30 : Int) < (n : Int) := by omega
    clear hmost
    go_wp2_with fail
    go_ret
    exact ⟨rfl, (h1.pull 1).below k1⟩
  have hmost' : (n : Int) ≤ 30 := by omega
  go_wp2_with fail
  refine (tiny_all (h1.pull 1) hr HQ.out (by omega)).mono ?_
  rintro e w2 ⟨v, rfl, h2, k2⟩
  go_wp2_with fail
  refine (tree_grown h2 ?_ (by rw [List.length_map, HL.out]; omega)).mono ?_
  · intro o ho
    obtain ⟨t, ht, rfl⟩ := List.mem_map.1 ho
    exact small_ofT (HQ.out t ht)
  rintro e w3 ⟨t, f, ds, hA, hF, hd, rfl, h3, k3⟩
  have k3 := (k1.trans k2).trans k3
  have hdl : ds.length ≤ 1000 := by rw [hd, List.length_map, HL.out]; omega
  have HA := Lib.hid hA
  have HF := Lib.hid hF
  have HD := Lib.hid hdl
  clear hA hF hd hdl h1 k1 h2 k2
  have m0 := (h3.pull 3).cell 0
  have m1 := (h3.pull 3).cell 1
  have m2 := (h3.pull 3).cell 2
  have m3 := (h3.pull 3).cell 3
  have m4 := (h3.pull 3).cell 4
  simp at m0 m1 m2 m3 m4
  go_wp2_with fail
  refine (tiny_of h3 HM.out).mono ?_
  rintro e w4 ⟨rfl, h4, k4⟩
  have k4 := k3.trans k4
  clear m0 m1 m2 m3 m4 h3 k3
  simp only [aggO]
  have hso := small_ofT HM.out
  generalize ofT m = o at hso ⊢
  obtain ⟨on, or', node, up, name⟩ := o
  have hO := h4.alloc (.cells #[.int .i64 on, .int .i64 or', .int .i64 node, .int .i64 up, .string name] 33)
  have kO := k4.alloc (.cells #[.int .i64 on, .int .i64 or', .int .i64 node, .int .i64 up, .string name] 33)
  go_upto_region 8 with (fail)
  generalize World.alloc _ _ = w5 at hO kO ⊢
  generalize w4.heap.size = O at hO ⊢
  clear h4 k4
  have c3 := hO.cell 3
  have g3 := hO.free 3
  simp at c3
  have h5 := hO.set 3 (.int .i64 0)
  have k5 := kO.setCell ⟨O, 3, none⟩ (.int .i64 0)
  go_upto_region 9 with (fail)
  generalize World.setCell _ _ _ = w6 at h5 k5 ⊢
  clear hO kO c3 g3
  have c0 := h5.cell 0
  have c1 := h5.cell 1
  have c2 := h5.cell 2
  have c3 := h5.cell 3
  have c4 := h5.cell 4
  simp at c0 c1 c2 c3 c4
  have hsm2 : Small ⟨on, or', node, 0, name⟩ := ⟨hso.n0, hso.n1, hso.r0, hso.r1, hso.node0, hso.node1, .inl rfl, hso.nm⟩
  have hn0 : 256 ≤ node := hso.node0
  have hf0 : f 0 = none := HF.out.none (by omega)
  have hna : ¬ Anc f node 0 := Anc.stops hf0 (by omega)
  have hcall := tree_apply (o := ⟨on, or', node, 0, name⟩) (r := true) (h5.pull 1) HA.out (isRight_small hsm2) ⟨fun _ => ⟨by simp [known], hna⟩, fun _ => rfl⟩ HD.out
  have hA' := HA.out.put (s := ⟨0, name⟩) hna
  have hF' := HF.out.put (n := node) (s := ⟨0, name⟩) hso.node0 hso.node1
  have hfn : upd f node (some ⟨0, name⟩) node = some ⟨0, name⟩ := upd_same _ _ _
  have hf0' : upd f node (some ⟨0, name⟩) 0 = none := by rw [upd_other (by omega)]; exact hf0
  simp only [aggO] at hcall
  go_wp2_with fail
  refine hcall.mono ?_
  rintro e w7 ⟨rfl, h7, k7⟩
  have k7 := k5.trans k7
  clear hcall c0 c1 c2 c3 c4 h5 k5 hsm2 hso hna hf0
  have h7 : Sat w7 (treeP t (upd f node (some ⟨0, name⟩)) _ :: _) := h7
  generalize ds ++ _ = ds' at h7
  generalize upd f node (some ⟨0, name⟩) = f' at h7 hA' hF' hfn hf0'
  go_wp2_with fail
  refine (tree_kids h7 hF').mono ?_
  rintro e w8 ⟨S, kv, hS, rfl, h8, k8⟩
  have hcnt := last_count hS hfn
  have hkl : (isort klt (kidsOf (fun p => p.2.up == 0) S)).length ≤ 8 := by
    rw [(isort_perm klt _).length_eq]
    exact Nat.le_trans (kidsOf_len _ _) (hF'.length hS.mem hS.nodup)
  have k8 := k7.trans k8
  simp only [] at ⊢
  generalize isort klt _ = ks at h8 hcnt hkl
  clear hS h7 k7
  obtain ⟨kao, kcap, rfl⟩ := h8.tLen
  obtain ⟨q, hq⟩ : ∃ q, q = ks.length := ⟨_, rfl⟩
  rw [← hq] at h8 hkl ⊢
  have h8 : Sat w8 [rowT fK (.slice kao q kcap) 39 3 ks, treeP t f' ds', own O (.cells #[.int .i64 on, .int .i64 or', .int .i64 node, .int .i64 0, .string name] 33 (0, 0)), rowT fO v 33 5 (ts.map ofT), oldH W, own M (.cells #[.int .u8 m.n, .int .u8 m.r, .int .u8 m.node, .int .u8 m.up, .int .u8 m.name] 24 (0, 0))] := h8
  have HQK := Lib.hid hq
  have HCNT := Lib.hid hcnt
  have hkl' : (q : Int) ≤ 8 := by omega
  obtain ⟨kk, hkk⟩ := hA' node
  have HKK := Lib.hid hkk
  have HFN := Lib.hid hfn
  have HF0 := Lib.hid hf0'
  clear hq hcnt hkk hfn hf0'
  go_wp2_with fail
  go_loopw [10, 11] (fun cv iv wr => ∃ (i c : Nat), i ≤ q ∧ iv = .int .i64 i ∧ cv = .int .i64 c ∧ c ≤ i ∧ Hid (c = ((ks.take i).filter fun k => kidEq k ⟨0, name, node⟩).length) ∧ Sat wr [rowT fK (.slice kao q kcap) 39 3 ks, treeP t f' ds', own O (.cells #[.int .i64 on, .int .i64 or', .int .i64 node, .int .i64 0, .string name] 33 (0, 0)), rowT fO v 33 5 (ts.map ofT), oldH W, own M (.cells #[.int .u8 m.n, .int .u8 m.r, .int .u8 m.node, .int .u8 m.up, .int .u8 m.name] 24 (0, 0))] ∧ Kp W wr) (fun _ iv _ => q - (intOf iv).toNat)
  case atStart => exact ⟨0, 0, by omega, rfl, rfl, Nat.le_refl _, Lib.hid (by simp), h8, k8⟩
  case round =>
    clear h8 k8
    obtain ⟨i, c, hiq, rfl, rfl, hci, hc, h2, k2⟩ := hrel
    by_cases hlt : i < q
    case neg =>
      obtain rfl : q = i := by omega
      have hc1 : c = 1 := by
        rw [hc.out, List.take_of_length_le (by have := HQK.out; omega)]
        exact HCNT.out
      subst hc1
      have c2 := (h2.pull 2).cell 2
      simp at c2
      go_wp2_with fail
      refine (tree_above (r := true) (h2.pull 1) HKK.out ⟨fun _ => ⟨by simp [known, HFN.out], .up HFN.out .here⟩, fun _ => rfl⟩).mono ?_
      rintro e w3 ⟨rfl, h3, k3⟩
      have c2 := (h3.pull 2).cell 2
      simp at c2
      go_wp2_with fail
      refine (tree_above (r := false) h3 HKK.out ⟨fun h => (by cases h), fun h => absurd h.2 (fun ha => by rw [Anc.step HFN.out (by omega)] at ha; exact absurd (ha.stop HF0.out) (by simp))⟩).mono ?_
      rintro e w4 ⟨rfl, h4, k4⟩
      go_wp2_with fail
      go_ret
      exact ⟨rfl, (h4.pull 4).below ((k2.trans k3).trans k4)⟩
    obtain ⟨x, hx⟩ : ∃ x, ks[i]? = some x := ⟨ks[i]'(by rw [← HQK.out]; exact hlt), by simp⟩
    rcases h2.tForm with ⟨hv, hp⟩ | ⟨g, off, cap', hv⟩
    · rw [hp] at hx; simp at hx
    simp only [Value.slice.injEq] at hv
    obtain ⟨rfl, -, rfl⟩ := hv
    have x0 := h2.tCell len_fK i 0 hx rfl
    have x1 := h2.tCell len_fK i 1 hx rfl
    have x2 := h2.tCell len_fK i 2 hx rfl
    rw [Nat.add_zero] at x0
    have hg := h2.rowBlock
    have hOl := (h2.pull 2).lt
    have c2 := (h2.pull 2).cell 2
    have c4 := (h2.pull 2).cell 4
    simp at c2 c4
    have i0' : (0 : Int) ≤ (i : Int) := by omega
    have i1' : (i : Int) < (q : Int) := by omega
    have heq := fun W => kid_eq x ⟨0, name, node⟩ W
    have HX := Lib.hid hx
    clear hx
    go_upto_region 15 with (fail)
    go_quiet (fail)
    cases hb : kidEq x ⟨0, name, node⟩ with
    | true =>
      have e1 : ((ks.take (i + 1)).filter fun k => kidEq k ⟨0, name, node⟩).length = c + 1 := by rw [take_snoc' HX.out, List.filter_append, List.length_append, ← hc.out]; simp [hb]
      clear x0 x1 x2 c2 c4 heq
      go_wp2_with fail
      go_roundw
      case rel => exact ⟨i + 1, c + 1, by omega, by go_num, by go_num, by omega, Lib.hid e1.symm, h2.drewN _, k2.drewN _⟩
      case measure => simp [intOf]; omega
    | false =>
      have e1 : ((ks.take (i + 1)).filter fun k => kidEq k ⟨0, name, node⟩).length = c := by rw [take_snoc' HX.out, List.filter_append, List.length_append, ← hc.out]; simp [hb]
      clear x0 x1 x2 c2 c4 heq
      go_wp2_with fail
      go_roundw
      case rel => exact ⟨i + 1, c, by omega, by go_num, rfl, by omega, Lib.hid e1.symm, h2.drewN _, k2.drewN _⟩
      case measure => simp [intOf]; omega

end Go.Proofs.YtbnipieokpeadaaDoor

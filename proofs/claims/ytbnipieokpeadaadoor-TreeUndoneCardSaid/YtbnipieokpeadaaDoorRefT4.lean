import Derived.Test.YtbnipieokpeadaaDoorRefT3
import Derived.Test.YtbnipieokpeadaaDoorForm2
import Derived.Test.YtbnipieokpeadaaDoorUndo
import Derived.Test.YtbnipieokpeadaaDoorFind
import Derived.Test.YtbnipieokpeadaaDoorGrow
namespace Go.Proofs.YtbnipieokpeadaaDoor
open Go Go.RowKit
set_option linter.unusedVariables false
set_option linter.unusedSimpArgs false

theorem nodup_nodes {L : List KidD} (h : (L.map KidD.node).Nodup) : L.Nodup := nodup_of_map KidD.node h
theorem refP_row {w : World} {l : List HProp} {t ao n cap} {L : List KidD} {Ws : List (List KidD)} (hc : w.cell? ⟨t, 0, none⟩ = some (.slice ao n cap)) (hs : Sat w (refP t L Ws :: l)) : ArgRow w fK ao n cap L := by
  obtain ⟨ao', cap', c0, ha, _⟩ := refP_L hs
  rw [hc] at c0
  simp only [Option.some.injEq, Value.slice.injEq] at c0
  obtain ⟨rfl, rfl, rfl⟩ := c0
  exact ha

set_option maxRecDepth 100000 in
theorem ref_all {w : World} {l : List HProp} {t : Nat} {L : List KidD} {Ws : List (List KidD)} (hs : Sat w (refP t L Ws :: l)) (hnd : L.Nodup) (hL : L.length ≤ 1000) :
    Calls Tryd.prog 34 #[.pointer (some ⟨t, 0, none⟩)] w fun e w' => ∃ v, e = .returned v ∧ Sat w' (rowT fK v 39 3 (isort klt L) :: refP t L Ws :: l) ∧ Kp w w' := by
  obtain ⟨v, vw, vs, hl, h⟩ := refP_E hs
  obtain ⟨ao, cap, rfl, ha⟩ := (h.pull 2).poolArg (v := v) (ks := L) (List.mem_cons_self ..)
  have c0 := h.cell 0
  simp at c0
  have hso := ref_sorted h (fun w' h' => (h'.pull 2).poolArg' (List.mem_cons_self ..)) hnd hL
  have HL := Lib.hid hl
  clear hl
  go_enter Tryd.func34, Tryd.ntmps34
  go_wp2_with fail
  refine hso.mono ?_
  rintro e w1 ⟨v', rfl, h1, k1⟩
  go_wp2_with fail
  go_ret
  exact ⟨v', rfl, (refP_I HL.out (h1.push 3)).swap, k1⟩

set_option maxRecDepth 100000 in
set_option maxHeartbeats 2000000 in
theorem ref_kids {w : World} {l : List HProp} {t : Nat} {L : List KidD} {Ws : List (List KidD)} {n : Int} (hs : Sat w (refP t L Ws :: l)) (hnd : L.Nodup) (hL : L.length ≤ 1000) :
    Calls Tryd.prog 35 #[.pointer (some ⟨t, 0, none⟩), .int .i64 n] w fun e w' => ∃ v, e = .returned v ∧ Sat w' (rowT fK v 39 3 (isort klt (L.filter fun k => k.up == n)) :: refP t L Ws :: l) ∧ Kp w w' := by
  obtain ⟨i1, hj, hy0, hy1, hy2⟩ := info_parts Tryd.infoKid
  obtain ⟨v, vw, vs, hl, h⟩ := refP_E hs
  obtain ⟨ao, cap, rfl, _⟩ := (h.pull 2).poolArg (v := v) (ks := L) (List.mem_cons_self ..)
  obtain ⟨m, hm⟩ : ∃ m, m = L.length := ⟨_, rfl⟩
  rw [← hm] at h hL
  have HM := Lib.hid hm
  have HL := Lib.hid hl
  have HD := Lib.hid hnd
  have hL' : (m : Int) ≤ 1000 := by omega
  clear hm hl hnd hs
  have h0 := h.tNil fK 39 3
  go_enter Tryd.func35, Tryd.ntmps35
  go_wp2_with fail
  go_loopw [5, 6] (fun ov iv wr => ∃ i : Nat, i ≤ m ∧ iv = .int .i64 i ∧ Sat wr (rowT fK ov 39 3 ((L.take i).filter fun k => k.up == n) :: own t (.cells #[.slice ao m cap, vw] 61 (0, 0)) :: rowT fV vw 36 1 vs :: poolP fK ((.slice ao m cap, L) :: vs.zip Ws) :: l) ∧ Kp w wr) (fun _ iv _ => m - (intOf iv).toNat)
  case atStart => exact ⟨0, by omega, rfl, h0, Kp.refl w⟩
  case round =>
    clear h0 h
    obtain ⟨i, him, rfl, h1, k1⟩ := hrel
    have c0 := (h1.pull 1).cell 0
    simp at c0
    have har := (h1.pull 3).poolArg' (List.mem_cons_self ..)
    have hfl : ((L.take i).filter fun k => k.up == n).length ≤ i := Nat.le_trans (List.length_filter_le _ _) (List.length_take_le _ _)
    by_cases hlt : i < m
    case neg =>
      obtain rfl : m = i := by omega
      have e1 : L.take m = L := List.take_of_length_le (by rw [HM.out]; exact Nat.le_refl _)
      rw [e1] at h1 hfl
      have hnd2 : (L.filter fun k => k.up == n).Nodup := HD.out.filter _
      have hso : ∀ ao' n' cap', u5 = .slice ao' n' cap' → _ := fun ao' n' cap' e => ref_sorted (ao := ao') (n := n') (cap := cap') h1 (fun w' h' => by
        obtain ⟨ao2, cap2, e2, ha2⟩ := h'.argRow
        rw [e] at e2
        simp only [Value.slice.injEq] at e2
        obtain ⟨rfl, rfl, rfl⟩ := e2
        exact ha2) hnd2 (by
        obtain ⟨ao2, cap2, e2, ha2⟩ := h1.argRow
        rw [e] at e2
        simp only [Value.slice.injEq] at e2
        obtain ⟨rfl, rfl, rfl⟩ := e2
        omega)
      obtain ⟨oao, ocap, ho⟩ := h1.tLen
      have hso2 := hso _ _ _ ho
      generalize (L.filter fun k => k.up == n).length = q at ho hso2
      subst ho
      have HS := Lib.hid hso2
      clear hso hso2 hnd2 hfl har e1
      go_wp2_with fail
      refine HS.out.mono ?_
      rintro e w2 ⟨v', rfl, h2, k2⟩
      go_wp2_with fail
      go_ret
      exact ⟨v', rfl, (refP_I HL.out ((((h2.pull 1).tail).push 3))).swap, k1.trans k2⟩
    obtain ⟨x, hx⟩ : ∃ x, L[i]? = some x := ⟨_, List.getElem?_eq_getElem (by rw [← HM.out]; exact hlt)⟩
    obtain ⟨ab, off, rfl⟩ := har.some hlt
    have x0 := har.cell len_fK 0 rfl hx rfl
    have x1 := har.cell len_fK 1 rfl hx rfl
    have x2 := har.cell len_fK 2 rfl hx rfl
    rw [Nat.add_zero] at x0
    have i0' : (0 : Int) ≤ (i : Int) := by omega
    have i1' : (i : Int) < (m : Int) := by omega
    have HTK := Lib.hid (show (L.take (i + 1)).filter (fun k => k.up == n) = (L.take i).filter (fun k => k.up == n) ++ (if x.up == n then [x] else []) by
      rw [take_snoc' hx, List.filter_append]
      congr 1
      cases hb : x.up == n <;> simp [hb])
    obtain ⟨q, hq⟩ : ∃ q, ((L.take i).filter fun k => k.up == n).length = q := ⟨_, rfl⟩
    obtain ⟨oao, ocap, ho⟩ := h1.tLen
    rw [hq] at ho hfl
    subst ho
    have HQ := Lib.hid hq
    clear hx hq
    cases hb : x.up == n with
    | false =>
      have HTK2 := Lib.hid (show (L.take (i + 1)).filter (fun k => k.up == n) = (L.take i).filter (fun k => k.up == n) by rw [HTK.out, hb]; simp)
      go_wp2_with fail
      go_roundw
      case rel => exact ⟨i + 1, by omega, by go_num, by rw [HTK2.out]; exact h1, k1⟩
      case measure => simp [intOf]; omega
    | true =>
      have HTK2 := Lib.hid (show (L.take (i + 1)).filter (fun k => k.up == n) = (L.take i).filter (fun k => k.up == n) ++ [x] by rw [HTK.out, hb]; rfl)
      have hX := h1.alloc (.cells #[.int .i64 x.up, .string x.name, .int .i64 x.node] 39)
      have kX := k1.alloc (.cells #[.int .i64 x.up, .string x.name, .int .i64 x.node] 39)
      have e2 : rowT fK (.slice oao q ocap) 39 3 ((L.take i).filter fun k => k.up == n) = row (.slice oao q ocap) 39 3 q (((L.take i).filter fun k => k.up == n).flatMap fK) := by unfold rowT; rw [HQ.out]
      rw [e2] at hX
      clear e2
      go_wp2_with (at_builtin; refine wpList_append_lit rfl (.tmp 26) (.tmp 34) 36 rfl 39 i1 _ 3 32 Tryd.underlying36 hj hy0 hy1 hy2 rfl (by decide) _ _ _ _ _ _ _ rfl (hX.pull 1) 1 1 rfl rfl rfl ?c3 ?c4 ?c5)
      case c3 => unfold maxLen; omega
      case c4 => omega
      case c5 =>
        intro v' w5 hs5 hk5
        rw [← HQ.out] at hs5
        have h7 := Sat.tSnoc (f := fK) (x := x) hs5 rfl
        rw [← HTK2.out] at h7
        have h8 := (h7.pull 1).tail
        clear hs5 h7 hX h1 x0 x1 x2
        go_wp2_with fail
        go_roundw
        case rel => exact ⟨i + 1, by omega, by go_num, h8, kX.trans hk5⟩
        case measure => simp [intOf]; omega

end Go.Proofs.YtbnipieokpeadaaDoor

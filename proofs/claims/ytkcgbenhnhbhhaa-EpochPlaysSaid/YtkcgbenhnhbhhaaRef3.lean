import Derived.Test.YtkcgbenhnhbhhaaRef2
import Derived.Deep.RegionWith
namespace Go.Proofs.Ytkcgbenhnhbhhaa
open Go Go.RowKit
set_option linter.unusedVariables false
set_option linter.unusedSimpArgs false

theorem one_fI10 (xs : List Int) : ∀ u ∈ xs.flatMap fI, u.oneCell' = true := one_fI xs
/-- The struct and its three slices. -/
def refL (b : Nat) (now : Int) (v1 v2 v3 : Value) (hs : List HanD) (bs : List Int) (gs : List Bool) (l : List HProp) : List HProp :=
  own b (.cells #[.int .i64 now, v1, v2, v3] 59 (0, 0)) :: rowT fH v1 70 2 hs :: rowT fI v2 3 1 bs :: rowT fB v3 4 1 gs :: l

set_option maxRecDepth 100000 in
set_option maxHeartbeats 4000000 in
theorem ref_retire {w : World} {l : List HProp} {b : Nat} {now : Int} {rs : List RefD} {ao : Option Addr} {n cap : Nat} {hs : List HanD} (hw : Sat w (refP b now rs :: l)) (hr : ReadIn l fH ao n cap hs) (hn : n ≤ 1000000) (hm : rs.length ≤ 1000000) :
    Calls Try.prog 39 #[.pointer (some ⟨b, 0, none⟩), .slice ao n cap] w fun e w' => e = .returned (.tuple #[]) ∧ Sat w' (refP b now (rs ++ hs.map fun h => ⟨h, now, false⟩) :: l) ∧ Kp w w' := by
  obtain ⟨i0, hi, hz0, hz1, hz2⟩ := info_parts Try.infoHandle
  obtain ⟨i1, hi1, hz10, hz11, hz12⟩ := info_parts Try.infoInt10
  obtain ⟨i2, hi2, hz20, hz21, hz22⟩ := info_parts Try.infoBool10
  have R := Lib.hid hr
  have hle := (hr w hw.tail).le
  have hsm := (hr w hw.tail).small
  unfold maxLen at hsm
  have HLEN := Lib.hid (hr w hw.tail).len
  clear hr
  obtain ⟨v1, v2, v3, hv⟩ := refP_E hw
  clear hw
  go_enter Try.func39, Try.ntmps39
  go_wp2_with fail
  go_loopw [4] (fun i wr => ∃ (k m : Nat) (v1 v2 v3 : Value) (xs : List HanD) (bs : List Int) (gs : List Bool), k ≤ n ∧ i = .int .i64 k ∧ xs.length = m ∧ bs.length = m ∧ gs.length = m ∧ m ≤ 1000000 + k ∧ Hid (xs = rs.map RefD.h ++ hs.take k) ∧ Hid (bs = rs.map RefD.by_ ++ List.replicate k now) ∧ Hid (gs = rs.map RefD.gone ++ List.replicate k false) ∧ Sat wr (refL b now v1 v2 v3 xs bs gs l) ∧ Kp w wr) (fun i _ => n - (intOf i).toNat)
  case atStart => exact ⟨0, rs.length, v1, v2, v3, _, _, _, by omega, rfl, by simp, by simp, by simp, by omega, by simp [Hid], by simp [Hid], by simp [Hid], hv, Kp.refl w⟩
  case round =>
    clear hv
    obtain ⟨k, m, v1, v2, v3, xs, bs, gs, hk, rfl, hl1, hl2, hl3, hm2, hxs, hbs, hgs, h2, k2⟩ := hrel
    by_cases hlt : k < n
    case neg =>
      obtain rfl : k = n := by omega
      have e1 : (rs ++ hs.map fun h => (⟨h, now, false⟩ : RefD)).map RefD.h = xs := by
        rw [hxs.out, List.take_of_length_le (by rw [HLEN.out]; omega), List.map_append, List.map_map]
        congr 1; exact List.map_id _
      have e2 : (rs ++ hs.map fun h => (⟨h, now, false⟩ : RefD)).map RefD.by_ = bs := by
        rw [hbs.out, List.map_append, List.map_map, ← HLEN.out]
        congr 1
        rw [List.eq_replicate_iff]
        exact ⟨by simp, by simp⟩
      have e3 : (rs ++ hs.map fun h => (⟨h, now, false⟩ : RefD)).map RefD.gone = gs := by
        rw [hgs.out, List.map_append, List.map_map, ← HLEN.out]
        congr 1
        rw [List.eq_replicate_iff]
        exact ⟨by simp, by simp⟩
      have h3 : Sat wr (refP b now (rs ++ hs.map fun h => (⟨h, now, false⟩ : RefD)) :: l) := by
        refine refP_I (v1 := v1) (v2 := v2) (v3 := v3) ?_
        rw [e1, e2, e3]; exact h2
      clear e1 e2 e3 hl1 hl2 hl3
      go_wp2_with fail
      go_end0
      exact ⟨rfl, h3, k2⟩
    obtain ⟨x, hx⟩ : ∃ x, hs[k]? = some x := ⟨hs[k]'(by rw [HLEN.out]; exact hlt), by simp⟩
    have ha := R.out wr h2.tail.tail.tail.tail
    obtain ⟨g, off, rfl, hcell⟩ := ha.cells (by omega)
    have q0 := hcell (k * 2 + 0) (.int .i64 x.slot) (by rw [get_flat len_fH hs k 0 x hx (by omega)]; rfl)
    have q1 := hcell (k * 2 + 1) (.int .i64 x.gen) (by rw [get_flat len_fH hs k 1 x hx (by omega)]; rfl)
    rw [Nat.add_zero] at q0
    rw [← Nat.add_assoc] at q1
    have hgl : g < wr.heap.size := World.block_lt_of_cell? _ _ q0
    have hnext := take_snoc' hx
    have j0 : (0 : Int) ≤ (k : Int) := by omega
    have j1 : (k : Int) < (n : Int) := by omega
    have hxs3 : Hid (xs ++ [x] = rs.map RefD.h ++ hs.take (k + 1)) := by
      show _ = _
      rw [hxs.out, hnext, List.append_assoc]
    have hbs3 : Hid (bs ++ [now] = rs.map RefD.by_ ++ List.replicate (k + 1) now) := by
      show _ = _
      rw [hbs.out, List.replicate_succ', List.append_assoc]
    have hgs3 : Hid (gs ++ [false] = rs.map RefD.gone ++ List.replicate (k + 1) false) := by
      show _ = _
      rw [hgs.out, List.replicate_succ', List.append_assoc]
    clear ha hcell hx hnext
    obtain ⟨a1, p1, rfl⟩ := (h2.pull 1).tLen
    have H1 := Lib.hid hl1
    have H2 := Lib.hid hl2
    have H3 := Lib.hid hl3
    clear hl1 hl2 hl3
    go_upto_region 3 with (fail)
    go_cut [4] from 5 to 45 (fun i wx => i = .int .i64 k ∧ ∃ v1, Sat wx (refL b now v1 v2 v3 (xs ++ [x]) bs gs l) ∧ Kp w wx)
    case first =>
      have c1 := h2.cell 1
      have f1 := h2.free 1
      have hbl := h2.lt
      simp at c1
      go_region_law ((refine step_append_lit (by rfl) (.tmp 15) (.tmp 20) 56 (by rfl) 70 i0 _ 2 16 Try.underlying56 hi hz0 hz1 hz2 (by rfl) (by omega) _ _ _ _ _ _ _ (by rfl) (Sat.pull 2 (h2.drew.alloc _)) 0 1 (by rfl) (by rfl) (by rfl) (by rw [H1.out]; unfold maxLen; omega) (by rw [H1.out]; omega) ?_; intro g' off' q cap' w2 h3 k3; have e1 := (h3.pull 2).cell 1; have e2 := (h3.pull 2).free 1; simp at e1))
      all_goals
        go_wp2_with fail
        have h4 := (h3.pull 2).set 1 (.slice (some ⟨g', off', none⟩) q cap')
        have h5 : Sat _ (rowT fH (.slice (some ⟨g', off', none⟩) q cap') 70 2 (xs ++ [x]) :: _) := Sat.tSnoc (f := fH) (x := x) (h4.pull 1) rfl
        go_meet
        case rel => exact ⟨rfl, _, (h5.pull 2).tail.pull 1, ((k2.alloc _).drew.trans k3).setCell _ _⟩
    case rest =>
      clear h2 k2 q0 q1 hgl
      obtain ⟨rfl, v1, h2, k2⟩ := hcut
      obtain ⟨a2, p2, rfl⟩ := (h2.pull 2).tLen
      go_upto_region 4 with (fail)
      go_cut [4] from 5 to 45 (fun i wx => i = .int .i64 k ∧ ∃ v2, Sat wx (refL b now v1 v2 v3 (xs ++ [x]) (bs ++ [now]) gs l) ∧ Kp w wx)
      case first =>
        have c0 := h2.cell 0
        have c2 := h2.cell 2
        have f2 := h2.free 2
        have hbl := h2.lt
        simp at c0 c2
        go_region_law ((refine step_append_lit (by rfl) (.tmp 28) (.tmp 33) 22 (by rfl) 3 i1 _ 1 8 Try.underlying22 hi1 hz10 hz11 hz12 (by rfl) (by omega) _ _ _ _ _ _ _ (by rfl) (Sat.pull 3 (h2.drew.alloc _)) 0 1 (by rfl) (by rfl) (by rfl) (by rw [H2.out]; unfold maxLen; omega) (by rw [H2.out]; omega) ?_; intro g' off' q cap' w2 h3 k3; have e1 := (h3.pull 2).cell 2; have e2 := (h3.pull 2).free 2; simp at e1))
        all_goals
          go_wp2_with fail
          have h4 := (h3.pull 2).set 2 (.slice (some ⟨g', off', none⟩) q cap')
          have h5 : Sat _ (rowT fI (.slice (some ⟨g', off', none⟩) q cap') 3 1 (bs ++ [now]) :: _) := Sat.tSnoc (f := fI) (x := now) (h4.pull 1) rfl
          go_meet
          case rel => exact ⟨rfl, _, ((h5.pull 2).tail).push 2 |>.pull 0, ((k2.alloc _).drew.trans k3).setCell _ _⟩
      case rest =>
        clear h2 k2
        obtain ⟨rfl, v2, h2, k2⟩ := hcut
        obtain ⟨a3, p3, rfl⟩ := (h2.pull 3).tLen
        have c3 := h2.cell 3
        have hbl := h2.lt
        simp at c3
        have hB := h2.alloc (.cells #[.bool false] 4)
        go_wp2_with (at_builtin; refine wpList_append_lit rfl (.tmp 41) (.tmp 42) 57 rfl 4 i2 _ 1 1 Try.underlying57 hi2 hz20 hz21 hz22 rfl (by decide) _ _ _ _ _ _ _ rfl (hB.pull 4) 1 1 rfl rfl rfl ?c3 ?c4 ?c5)
        case c3 => rw [H3.out]; unfold maxLen; omega
        case c4 => rw [H3.out]; omega
        case c5 =>
          intro v' w3 hs3 hk3
          have h4 : Sat _ (rowT fB v' 4 1 (gs ++ [false]) :: _) := Sat.tSnoc (f := fB) (x := false) hs3 rfl
          obtain ⟨a4, p4, e4⟩ := h4.tLen
          rw [List.length_append, List.length_singleton] at e4
          subst e4
          have e1 := (h4.pull 2).cell 3
          have e2 := (h4.pull 2).free 3
          simp at e1
          have h5 := (h4.pull 2).set 3 (.slice a4 (gs.length + 1) p4)
          have l1 : (xs ++ [x]).length = m + 1 := by rw [List.length_append, H1.out]; rfl
          have l2 : (bs ++ [now]).length = m + 1 := by rw [List.length_append, H2.out]; rfl
          have l3 : (gs ++ [false]).length = m + 1 := by rw [List.length_append, H3.out]; rfl
          have L1 := Lib.hid l1
          have L2 := Lib.hid l2
          have L3 := Lib.hid l3
          clear l1 l2 l3
          go_wp2_with fail
          go_roundw
          case rel => exact ⟨k + 1, m + 1, _, _, _, xs ++ [x], bs ++ [now], gs ++ [false], by omega, by go_num, L1.out, L2.out, L3.out, by omega, hxs3, hbs3, hgs3, ((h5.pull 2).tail.pull 1).push 3, ((k2.alloc _).trans hk3).setCell _ _⟩
          case measure => simp [intOf]; omega

end Go.Proofs.Ytkcgbenhnhbhhaa

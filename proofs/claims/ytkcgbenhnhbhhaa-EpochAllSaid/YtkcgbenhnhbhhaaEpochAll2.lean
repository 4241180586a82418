import Derived.Test.YtkcgbenhnhbhhaaEpochAll
namespace Go.Proofs.Ytkcgbenhnhbhhaa
open Go Go.RowKit
set_option linter.unusedVariables false
set_option linter.unusedSimpArgs false

set_option maxRecDepth 100000 in
set_option maxHeartbeats 4000000 in
theorem epochAll_walk (ao : Option Addr) (n cap : Nat) (acts : List ActD) (W : World) (hr : ArgRow W fAct ao n cap acts) (hq : ∀ a ∈ acts, (Lit.int .i64 a.kind).wf = true ∧ (Lit.int .i64 a.least).wf = true ∧ ArgRow W fH a.ao a.n a.cap a.hs) :
    LawCalls Try.prog 12 #[.slice ao n cap] W := by
  have H0 := Sat.start W
  obtain ⟨i0, hi, hz0, hz1, hz2⟩ := info_parts Try.infoHandle
  have hle := hr.le
  have hsm := hr.small
  unfold maxLen at hsm
  have HL := Lib.hid hr.len
  have HQ := Lib.hid hq
  clear hq
  go_enter Try.func12, Try.ntmps12
  go_wp2_with fail
  refine (epoch_awake H0).mono ?_
  rintro e w1 ⟨rfl, h1, k1⟩
  by_cases hmost : 40 < n
  · have hmost' : (40 : Int) < (n : Int) := by omega
    clear hmost
    go_wp2_with fail
    go_ret
    exact ⟨rfl, h1.below k1⟩
  have hmost' : (n : Int) ≤ 40 := by omega
  clear hmost H0
  go_wp2_with fail
  refine (limbo_new w1 _ h1).mono ?_
  rintro e w2 ⟨b, rfl, h2, k2⟩
  have k3 := k1.trans k2
  clear h1 k1 k2
  go_wp2_with fail
  go_loopw [5, 6, 7] (fun vn vg i wr => ∃ (k N G : Nat) (now : Int) (ws : List WaitD), k ≤ n ∧ i = .int .i64 k ∧ vn = .int .i64 N ∧ vg = .int .i64 G ∧ 0 ≤ now ∧ now ≤ k ∧ N ≤ 10 * k ∧ Hid (N = G + ws.length) ∧ Hid (AllOk ws now G) ∧ Sat wr [limboP b now ws, oldH W] ∧ Kp W wr) (fun _ _ i _ => n - (intOf i).toNat)
  case atStart => exact ⟨0, 0, 0, 0, [], by omega, rfl, rfl, rfl, by omega, by omega, by omega, rfl, ⟨rfl, List.Pairwise.nil, by simp⟩, h2, k3⟩
  case round =>
    clear h2 k3
    obtain ⟨k, N, G, now, ws, hk, rfl, rfl, rfl, hn0, hn1, hN, hNG, hok, h2, k3⟩ := hrel
    have hNG' := hNG.out
    have hGN : G ≤ N := by omega
    have hwl : ws.length ≤ N := by omega
    clear hNG'
    by_cases hlt : k < n
    case neg =>
      obtain rfl : n = k := by omega
      go_wp2_with fail
      go_ret
      exact ⟨rfl, (h2.pull 1).below k3⟩
    obtain ⟨a, hx⟩ : ∃ x, acts[k]? = some x := ⟨acts[k]'(by rw [HL.out]; exact hlt), by simp⟩
    have ha := hr.old (h2.pull 1)
    obtain ⟨q, off, rfl⟩ := act_some ha hlt
    obtain ⟨c0, c1, c2⟩ := act_at ha hx
    obtain ⟨_, _, hh⟩ := HQ.out a (List.mem_of_getElem? hx)
    have HX := Lib.hid hx
    have i0' : (0 : Int) ≤ (k : Int) := by omega
    have i1' : (k : Int) < (n : Int) := by omega
    clear hx ha
    by_cases hten : 10 < a.n
    · have hten' : (10 : Int) < (a.n : Int) := by omega
      clear hten
      go_wp2_with fail
      go_ret
      exact ⟨rfl, (h2.pull 1).below k3⟩
    have hten' : (a.n : Int) ≤ 10 := by omega
    clear hten
    go_upto_block 2 with (fail)
    go_cut [5, 6, 8, 9, 10, 11] from 22 to 112 (fun vn vg _ _ _ _ wx => ∃ (N G : Nat) (now : Int) (ws : List WaitD), vn = .int .i64 N ∧ vg = .int .i64 G ∧ 0 ≤ now ∧ now ≤ k + 1 ∧ N ≤ 10 * (k + 1) ∧ Hid (N = G + ws.length) ∧ Hid (AllOk ws now G) ∧ Sat wx [limboP b now ws, oldH W] ∧ Kp W wx)
    case first =>
      by_cases hz : a.kind = 0
      · have hzb : (a.kind == 0) = true := by simpa using hz
        clear hz
        go_wp2_with fail
        refine (limbo_advance h2 hn0 (by omega)).mono ?_
        rintro e w4 ⟨rfl, h4, k4⟩
        clear c0 c1 c2
        go_wp2_with fail
        go_meet
        case rel => exact ⟨N, G, now + 1, ws, rfl, rfl, by omega, by omega, by omega, hNG, hok.out.next, h4, k3.trans k4⟩
      have hzb : (a.kind == 0) = false := by simpa using hz
      clear hz
      by_cases hz : a.kind = 1
      · have hzb1 : (a.kind == 1) = true := by simpa using hz
        clear hz
        go_wp2_with fail
        go_loopw [5, 8, 9] (fun vn vh vk wr => ∃ (j m : Nat) (out : List HanD), j ≤ a.n ∧ vk = .int .i64 j ∧ vn = .int .i64 m ∧ m = N + j ∧ out.length = j ∧ Hid (out = seqH ((N : Int) + 1) j) ∧ Sat wr [rowT fH vh 70 2 out, limboP b now ws, oldH W] ∧ Kp W wr) (fun _ _ vk _ => a.n - (intOf vk).toNat)
        case atStart => exact ⟨0, N, [], by omega, rfl, rfl, rfl, rfl, rfl, h2.tNil _ _ _, k3⟩
        case round =>
          clear h2 k3 c0 c1 c2
          obtain ⟨j, m, out, hj, rfl, rfl, hm, hol, hout, h2, k3⟩ := hrel
          obtain ⟨d0, d1, d2⟩ := act_at (hr.old (h2.pull 2)) HX.out
          obtain ⟨va, vc, rfl⟩ := h2.tLen
          rw [hol] at h2 ⊢
          have HOL := Lib.hid hol
          have HM := Lib.hid hm
          have m1 : m ≤ N + j := by omega
          have m2 : m < 1000 := by omega
          clear hol hm
          by_cases hjl : j < a.n
          · have j1 : (j : Int) < (a.n : Int) := by omega
            have hB := h2.alloc (.cells #[.int .i64 ((m : Int) + 1), .int .i64 1] 70)
            have hout3 : Hid (out ++ [⟨(m : Int) + 1, 1⟩] = seqH ((N : Int) + 1) (j + 1)) := by
              show _ = _
              rw [seqH_snoc, hout.out, HM.out]
              congr 3; push_cast; omega
            go_wp2_with (at_builtin; refine wpList_append_lit rfl (.tmp 81) (.tmp 84) 56 rfl 70 i0 _ 2 16 Try.underlying56 hi hz0 hz1 hz2 rfl (by decide) _ _ _ _ _ _ _ rfl hB.swap 1 1 rfl rfl rfl ?c3 ?c4 ?c5)
            case c3 => rw [HOL.out]; unfold maxLen; omega
            case c4 => rw [HOL.out]; omega
            case c5 =>
              intro v' w3 hs3 hk3
              have h4 := Sat.tSnoc (f := fH) (x := (⟨(m : Int) + 1, 1⟩ : HanD)) hs3 rfl
              have h5 := (h4.pull 1).tail
              go_wp2_with fail
              go_roundw
              case rel => exact ⟨j + 1, m + 1, out ++ [⟨(m : Int) + 1, 1⟩], by omega, by go_num, by go_num, by rw [HM.out]; omega, by rw [List.length_append, HOL.out]; rfl, hout3, h5, k3.trans (((Kp.refl _).alloc _).trans hk3)⟩
              case measure => simp [intOf]; omega
          obtain rfl : j = a.n := by omega
          have h4 := h2.swap
          have hok2 : Hid (AllOk (ws ++ out.map fun h => (⟨h.slot, h.gen, now⟩ : WaitD)) now G) := by
            show AllOk _ _ _
            rw [hout.out]; exact hok.out.put hNG.out
          have hNG2 : Hid (m = G + (ws ++ out.map fun h => (⟨h.slot, h.gen, now⟩ : WaitD)).length) := by
            show _ = _
            rw [List.length_append, List.length_map, HOL.out, HM.out, hNG.out]; omega
          clear hjl
          go_wp2_with fail
          clear d0 d1 d2
          refine (limbo_retire h4 readIn_row (by omega) (by omega)).mono ?_
          rintro e w5 ⟨rfl, h5, k5⟩
          generalize (ws ++ out.map fun h => (⟨h.slot, h.gen, now⟩ : WaitD)) = ws2 at h5 hok2 hNG2
          go_wp2_with fail
          go_meet
          case rel => exact ⟨m, G, now, ws2, rfl, rfl, by omega, by omega, by omega, hNG2, hok2, (h5.pull 1).tail, k3.trans k5⟩
      have hzb1 : (a.kind == 1) = false := by simpa using hz
      clear hz
      go_wp2_with fail
      refine (limbo_free (least := a.least) h2 hn0 (by omega) (by omega)).mono ?_
      rintro e w4 ⟨v4, rfl, h4, k4⟩
      obtain ⟨m, hm, f1, f2, hok2⟩ := hok.out.free a.least
      rw [f1, f2] at h4
      obtain ⟨a4, c4, e4, g4⟩ := h4.argRow
      simp only [seqH_len] at e4 g4
      subst e4
      have k5 := k3.trans k4
      have h5 := h4.tail
      have HOK2 := Lib.hid hok2
      have hNG2 : Hid (N = G + m + (ws.drop m).length) := by
        show _ = _
        rw [List.length_drop, hNG.out]; omega
      generalize ws.drop m = ws2 at h5 HOK2 hNG2
      clear f1 f2 hok2 h4 h2 k3 k4 c0 c1 c2
      go_wp2_with fail
      go_loopw [6, 11] (fun vg vk wr => ∃ (j p : Nat), j ≤ m ∧ vk = .int .i64 j ∧ vg = .int .i64 p ∧ p = G + j ∧ w4 = wr) (fun _ vk _ => m - (intOf vk).toNat)
      case atStart => exact ⟨0, G, by omega, rfl, rfl, rfl, rfl⟩
      case round =>
        obtain ⟨j, p, hj, rfl, rfl, hp, rfl⟩ := hrel
        have p2 : p < 1000 := by omega
        have HPJ := Lib.hid hp
        clear hp
        by_cases hjl : j < m
        · have j1 : (j : Int) < (m : Int) := by omega
          obtain ⟨q4, off4, rfl, hc4⟩ := g4.cells (by omega)
          have x0 := hc4 (j * 2 + 0) (.int .i64 ((p : Int) + 1)) (by rw [get_flat len_fH _ j 0 _ (seqH_get _ hjl) (by omega), HPJ.out]; simp [fH]; omega)
          have x1 := hc4 (j * 2 + 1) (.int .i64 1) (by rw [get_flat len_fH _ j 1 _ (seqH_get _ hjl) (by omega)]; rfl)
          rw [Nat.add_zero] at x0
          rw [← Nat.add_assoc] at x1
          clear hc4
          go_wp2_with fail
          go_roundw
          case rel => exact ⟨j + 1, p + 1, by omega, by go_num, by go_num, by rw [HPJ.out]; omega, trivial⟩
          case measure => simp [intOf]; omega
        obtain rfl : j = m := by omega
        clear hjl
        have HNG3 : Hid (N = p + ws2.length) := by
          show _ = _
          rw [HPJ.out]; exact hNG2.out
        have HOK3 : Hid (AllOk ws2 now p) := by
          show AllOk _ _ _
          rw [HPJ.out]; exact HOK2.out
        go_wp2_with fail
        go_meet
        case rel => exact ⟨N, p, now, ws2, rfl, rfl, by omega, by omega, by omega, HNG3, HOK3, h5, k5⟩
    case rest =>
      clear hNG hok h2 k3 hGN hwl hN hn0 hn1 c0 c1 c2
      obtain ⟨N, G, now, ws, rfl, rfl, hn0, hn1, hN, hNG, hok, h2, k3⟩ := hcut
      have hNG' := hNG.out
      have hGN : G ≤ N := by omega
      have hwl : ws.length ≤ N := by omega
      have hsub : (N : Int) - (G : Int) = ((ws.length : Nat) : Int) := by omega
      clear hNG'
      go_wp2_with fail
      refine (limbo_waiting h2 (by omega)).mono ?_
      rintro e w4 ⟨v4, rfl, h4, k4⟩
      obtain ⟨a4, c4, e4, g4⟩ := h4.argRow
      simp only [List.length_map] at e4 g4
      subst e4
      have kb := k3.trans k4
      have hb := h4.tail
      have hne : ((ws.length : Int) != (ws.length : Int)) = false := by simp
      have hwr : IntKind.i64.wrap ((N : Int) - (G : Int)) = ((ws.length : Nat) : Int) := by rw [hsub]; exact IntWalk.i64_in _ (by omega)
      clear h2 k3 k4 h4
      go_wp2_with fail
      go_loopw [13] (fun vk wr => ∃ (j : Nat), j ≤ ws.length ∧ vk = .int .i64 j ∧ w4 = wr) (fun vk _ => ws.length - (intOf vk).toNat)
      case atStart => exact ⟨0, by omega, rfl, rfl⟩
      case round =>
        obtain ⟨j, hj, rfl, rfl⟩ := hrel
        by_cases hjl : j < ws.length
        · have j1 : (j : Int) < (ws.length : Int) := by omega
          obtain ⟨q4, off4, rfl, hc4⟩ := g4.cells (by omega)
          have x0 := hc4 (j * 2 + 0) (.int .i64 ((G : Int) + j + 1)) (by rw [get_flat len_fH _ j 0 _ (hok.out.get hjl) (by omega)]; rfl)
          have x1 := hc4 (j * 2 + 1) (.int .i64 1) (by rw [get_flat len_fH _ j 1 _ (hok.out.get hjl) (by omega)]; rfl)
          rw [Nat.add_zero] at x0
          rw [← Nat.add_assoc] at x1
          clear hc4
          go_wp2_with fail
          go_roundw
          case rel => exact ⟨j + 1, by omega, by go_num, trivial⟩
          case measure => simp [intOf]; omega
        have hje : j = ws.length := by omega
        clear hjl
        subst hje
        go_wp2_with fail
        go_roundw
        case rel => exact ⟨k + 1, N, G, now, ws, by omega, by go_num, rfl, rfl, by omega, by push_cast; omega, by omega, hNG, hok, hb, kb⟩
        case measure => simp [intOf]; omega

end Go.Proofs.Ytkcgbenhnhbhhaa

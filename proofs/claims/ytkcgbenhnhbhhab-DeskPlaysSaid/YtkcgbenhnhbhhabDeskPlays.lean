import Derived.Test.YtkcgbenhnhbhhabDeskSw8
import Derived.Test.YtkcgbenhnhbhhabDeskRest
namespace Go.Proofs.Ytkcgbenhnhbhhab
open Go Go.RowKit
set_option linter.unusedVariables false
set_option linter.unusedSimpArgs false

theorem dact_at {w : World} {b off n cap k : Nat} {acts : List DAct} {a : DAct} (h : ArgRow w fDA (some ⟨b, off, none⟩) n cap acts) (hk : acts[k]? = some a) :
    w.cell? ⟨b, off + k * 3, none⟩ = some (.int .i64 a.kind) ∧ w.cell? ⟨b, off + k * 3 + 1, none⟩ = some (.int .i64 a.client) ∧ w.cell? ⟨b, off + k * 3 + 2, none⟩ = some (.int .i64 a.n) := by
  have h0 := (List.getElem?_eq_some_iff.1 hk).1
  have hl := h.len
  obtain ⟨b', off', e, hc⟩ := h.cells (by omega)
  simp only [Option.some.injEq, Addr.mk.injEq, and_true] at e
  obtain ⟨rfl, rfl⟩ := e
  refine ⟨?_, ?_, ?_⟩
  · have := hc (k * 3 + 0) (.int .i64 a.kind) (by rw [get_flat len_fDA acts k 0 a hk (by omega)]; rfl)
    simpa using this
  · have := hc (k * 3 + 1) (.int .i64 a.client) (by rw [get_flat len_fDA acts k 1 a hk (by omega)]; rfl)
    rw [← Nat.add_assoc] at this; exact this
  · have := hc (k * 3 + 2) (.int .i64 a.n) (by rw [get_flat len_fDA acts k 2 a hk (by omega)]; rfl)
    rw [← Nat.add_assoc] at this; exact this

set_option maxRecDepth 100000 in
set_option maxHeartbeats 4000000 in
theorem deskPlays_walk (a0 a1 : Int) (ao : Option Addr) (n cap : Nat) (acts : List DAct) (W : World) (z0 : 0 ≤ a0) (z0' : a0 < 256) (z1 : 0 ≤ a1) (z1' : a1 < 256) (hr : ArgRow W fDA ao n cap acts) (hq : ∀ a ∈ acts, (Lit.int .i64 a.kind).wf = true ∧ (Lit.int .i64 a.client).wf = true ∧ (Lit.int .i64 a.n).wf = true) :
    LawCalls Try.prog 3 #[.int .u8 a0, .int .u8 a1, .slice ao n cap] W := by
  have H0 := Sat.start W
  have hle := hr.le
  have hsm := hr.small
  unfold maxLen at hsm
  have HL := Lib.hid hr.len
  have HQ := Lib.hid hq
  clear hq
  go_enter Try.func3, Try.ntmps3
  go_wp2_with fail
  refine (desk_awake H0).mono ?_
  rintro e w1 ⟨rfl, h1, k1⟩
  by_cases hmost : 60 < n
  · have hmost' : (60 : Int) < (n : Int) := by omega
    clear hmost
    go_wp2_with fail
    go_ret
    exact ⟨rfl, h1.below k1⟩
  have hmost' : (n : Int) ≤ 60 := by omega
  clear hmost H0
  go_wp2_with fail
  have hb : 0 ≤ a0 % 9 ∧ a0 % 9 < 9 := by omega
  have hb1 : 0 ≤ a1 % 9 ∧ a1 % 9 < 9 := by omega
  generalize a0 % 9 = c0 at hb ⊢
  obtain ⟨c, rfl⟩ := Int.eq_ofNat_of_zero_le hb.1
  have hc : c < 9 := by omega
  clear hb
  refine (desk_new c (a1 % 9) w1 _ h1 (by omega) (by omega) (by omega)).mono ?_
  rintro e w2 ⟨d, rfl, h2, k2⟩
  go_wp2_with fail
  refine (rd_new c (a1 % 9) w2 _ h2 (by omega)).mono ?_
  rintro e w3 ⟨q, rfl, h3, k3⟩
  have hD := DRel.new c (a1 % 9) hb1.1 (by omega)
  have k4 := (k1.trans k2).trans k3
  have hA0 : (newD c (a1 % 9)).acc ≤ 0 := by simp [newD]
  generalize newD c (a1 % 9) = D0 at h3 hD hA0
  generalize newR c (a1 % 9) = R0 at h3 hD
  have HD0 := Lib.hid hD
  clear hD h1 h2 k1 k2 k3 hb1
  go_wp2_with fail
  go_loopw [11] (fun i wr => ∃ (k : Nat) (D : DeskD) (R : RD), k ≤ n ∧ i = .int .i64 k ∧ Hid (DRel c 0 D R) ∧ D.acc ≤ 2 * k ∧ Sat wr [rdP q R, deskP d D, oldH W] ∧ Kp W wr) (fun i _ => n - (intOf i).toNat)
  case atStart => exact ⟨0, D0, R0, by omega, rfl, HD0, by simpa using hA0, h3, k4⟩
  case round =>
    clear h3 k4 HD0
    obtain ⟨k, D, R, hk, rfl, hR, hacc, h2, k2⟩ := hrel
    by_cases hlt : k < n
    case neg =>
      obtain rfl : n = k := by omega
      go_wp2_with fail
      go_ret
      exact ⟨rfl, (h2.pull 2).below k2⟩
    obtain ⟨⟨kind, client, num⟩, hx⟩ : ∃ x, acts[k]? = some x := ⟨acts[k]'(by rw [HL.out]; exact hlt), by simp⟩
    have ha := hr.old (h2.pull 2)
    obtain ⟨b, off, rfl⟩ : ∃ b off, ao = some ⟨b, off, none⟩ := by
      obtain ⟨b, off, e, _⟩ := ha.cells (by omega)
      exact ⟨b, off, e⟩
    obtain ⟨x0, x1, x2⟩ := dact_at ha hx
    obtain ⟨wf0, wf1, wf2⟩ := HQ.out _ (List.mem_of_getElem? hx)
    dsimp only at x0 x1 x2 wf0 wf1 wf2
    have i0' : (0 : Int) ≤ (k : Int) := by omega
    have i1' : (k : Int) < (n : Int) := by omega
    clear hx ha
    have hB := h2.alloc (.cells #[.int .i64 kind, .int .i64 client, .int .i64 num] 29)
    have kB := k2.alloc (.cells #[.int .i64 kind, .int .i64 client, .int .i64 num] 29)
    go_upto_region 13 with (fail)
    generalize World.alloc _ _ = wB at hB kB ⊢
    generalize wr.heap.size = B at hB ⊢
    clear x0 x1 x2 h2 k2
    have b0 := hB.cell 0
    have b1 := hB.cell 1
    have b2 := hB.cell 2
    simp at b0 b1 b2
    go_wp2_with fail
    refine (rd_has (hB.pull 1)).mono ?_
    rintro e wx ⟨rfl, hwx⟩
    subst hwx
    have hrn := hR.out.rn
    obtain ⟨t, ht⟩ : ∃ t, t = (decide (0 ≤ client) && decide (client < R.n)) := ⟨_, rfl⟩
    rw [← ht]
    rw [hrn] at ht
    have HT := Lib.hid ht
    clear ht hrn
    obtain ⟨vp, vr, vl, hv⟩ := rdP_E (hB.pull 1)
    have r4 := hv.cell 4
    have f4 := hv.free 4
    simp [rdC] at r4
    have hcnt : R.cnt = D.acc := by have := hR.out.acc; omega
    have hacc0 := hR.out.acc0
    rw [hcnt] at r4
    go_upto_block 2 with (fail)
    have h6 := rdP_I (R := { R with cnt := R.cnt + 1 }) (by have h5 := hv.set 4 (.int .i64 (D.acc + 1)); rw [← hcnt] at h5; exact h5)
    have k6 := kB.setCell ⟨q, 4, none⟩ (.int .i64 (D.acc + 1))
    have hR1 := Lib.hid (hR.out.count)
    rw [hcnt] at h6 hR1
    generalize World.setCell _ _ _ = w5 at h6 k6 ⊢
    clear hv r4 f4 hcnt hB kB hR
    generalize { R with cnt := D.acc + 1 } = R1 at h6 hR1
    clear R vp vr vl b0 b1 b2
    go_cut [14, 15, 16, 17, 18, 19] from 41 to 329 (fun _ _ _ _ _ _ wx => ∃ (D : DeskD) (R : RD), Hid (DRel c 0 D R) ∧ D.acc ≤ 2 * k + 2 ∧ Sat wx [rdP q R, own B (.cells #[.int .i64 kind, .int .i64 client, .int .i64 num] 29 (0, 0)), deskP d D, oldH W] ∧ Kp W wx)
    case first =>
      rename_i J K2 hJ hM
      exact sw_all (fun a w h => hM a w (hJ a w h)) h6 k6 hR1 hacc0 hacc (by omega) HT
    case rest =>
      rename_i K1 hK1 K0 hK0
      obtain ⟨D', R', hR', hacc', h7, k7⟩ := hcut
      clear h6 k6 hR1 hacc0 hacc
      refine hK0 _ _ (rest_all ?_ h7 k7 hR' HT)
      intro a w h
      obtain ⟨u20, u295, u296, u297, u298, u299, u300, u301, u302, u303, u304, u305, u306, u307, u308, u309, u310, u311, u312, u313, u314, u315, u316, u317, u318, u319, u320, u321, u322, u323, u324, u325, u326, u327, u328, u329, ⟨h8, k8⟩, rfl⟩ := h
      refine hK1 _ _ ?_
      go_wp2_with fail
      go_roundw
      case rel => exact ⟨k + 1, D', R', by omega, by go_num, hR', by push_cast; omega, (h8.pull 1).tail, k8⟩
      case measure => simp [intOf]; omega

end Go.Proofs.Ytkcgbenhnhbhhab

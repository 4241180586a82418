import Derived.Test.YtkcgbenhnhbhhaaEpochActs
namespace Go.Proofs.Ytkcgbenhnhbhhaa
open Go Go.RowKit
set_option linter.unusedVariables false
set_option linter.unusedSimpArgs false

theorem may_all {now : Int} {ws : List WaitD} (h : ∀ x ∈ ws, x.by_ ≤ now) (hn : now ≤ 1000000) : ws.filter (may (now + 3) 4611686018427387904) = ws ∧ (ws.filter fun x => !may (now + 3) 4611686018427387904 x) = [] := by
  have : ∀ x ∈ ws, may (now + 3) 4611686018427387904 x = true := by
    intro x hx
    have := h x hx
    unfold may
    rw [decide_eq_true (by omega), decide_eq_true (by omega)]; rfl
  refine ⟨List.filter_eq_self.2 this, List.filter_eq_nil_iff.2 fun x hx => ?_⟩
  rw [this x hx]; simp

theorem map_retired (ws : List WaitD) (hs : List HanD) (now : Int) : (ws ++ hs.map fun h => (⟨h.slot, h.gen, now⟩ : WaitD)).map WaitD.h = ws.map WaitD.h ++ hs := by
  rw [List.map_append, List.map_map]
  congr 1
  exact List.map_id _

set_option maxRecDepth 100000 in
set_option maxHeartbeats 2000000 in
theorem epochThree_walk (ao : Option Addr) (n cap : Nat) (acts : List ActD) (W : World) (hr : ArgRow W fAct ao n cap acts) (hq : ∀ a ∈ acts, (Lit.int .i64 a.kind).wf = true ∧ (Lit.int .i64 a.least).wf = true ∧ ArgRow W fH a.ao a.n a.cap a.hs) :
    LawCalls Try.prog 10 #[.slice ao n cap] W := by
  have H0 := Sat.start W
  obtain ⟨i0, hi, hz0, hz1, hz2⟩ := info_parts Try.infoHandle
  have hle := hr.le
  have hsm := hr.small
  unfold maxLen at hsm
  have HL := Lib.hid hr.len
  have HQ := Lib.hid hq
  clear hq
  go_enter Try.func10, Try.ntmps10
  go_wp2_with fail
  refine (epoch_awake H0).mono ?_
  rintro e w1 ⟨rfl, h1, k1⟩
  by_cases hmost : 40 < n
  · have hmost' : (40 : Int) < (n : Int) := by omega
    clear hmost
    go_wp2_with fail
    go_ret
    exact ⟨rfl, h1.below k1⟩
  have hmost' : (n : Int) ≤ 40 := by omega
  clear hmost H0
  go_wp2_with fail
  refine (limbo_new w1 _ h1).mono ?_
  rintro e w2 ⟨b, rfl, h2, k2⟩
  have k3 := k1.trans k2
  clear h1 k1 k2
  go_wp2_with fail
  go_loopw [5, 6] (fun va i wr => ∃ (k : Nat) (now : Int) (ws : List WaitD) (out : List HanD), k ≤ n ∧ i = .int .i64 k ∧ 0 ≤ now ∧ now ≤ k ∧ ws.length ≤ 10 * k ∧ out.length ≤ 10 * k ∧ Hid (ws.map WaitD.h = out) ∧ Hid (∀ x ∈ ws, x.by_ ≤ now) ∧ Sat wr [limboP b now ws, rowT fH va 70 2 out, oldH W] ∧ Kp W wr) (fun _ i _ => n - (intOf i).toNat)
  case atStart => exact ⟨0, 0, [], [], by omega, rfl, by omega, by omega, by simp, by simp, rfl, by simp [Hid], (h2.tNil _ _ _).swap, k3⟩
  case round =>
    clear h2 k3
    obtain ⟨k, now, ws, out, hk, rfl, hn0, hn1, hwl, hol, hout, hby, h2, k3⟩ := hrel
    obtain ⟨va, vc, rfl⟩ := (h2.pull 1).tLen
    by_cases hlt : k < n
    · obtain ⟨a, hx⟩ : ∃ x, acts[k]? = some x := ⟨acts[k]'(by rw [HL.out]; exact hlt), by simp⟩
      have ha := hr.old (h2.pull 2)
      obtain ⟨q, off, rfl⟩ := act_some ha hlt
      obtain ⟨c0, c1, c2⟩ := act_at ha hx
      obtain ⟨_, _, hh⟩ := HQ.out a (List.mem_of_getElem? hx)
      have HX := Lib.hid hx
      have i0' : (0 : Int) ≤ (k : Int) := by omega
      have i1' : (k : Int) < (n : Int) := by omega
      clear hx ha
      have hhl := hh.len
      have HHL := Lib.hid hhl
      clear hhl
      by_cases hten : 10 < a.n
      · have hten' : (10 : Int) < (a.n : Int) := by omega
        clear hten
        go_wp2_with fail
        go_ret
        exact ⟨rfl, (h2.pull 2).below k3⟩
      have hten' : (a.n : Int) ≤ 10 := by omega
      clear hten
      by_cases hz : a.kind = 0
      · have hzb : (a.kind == 0) = true := by simpa using hz
        clear hz
        go_wp2_with fail
        refine (limbo_advance h2 hn0 (by omega)).mono ?_
        rintro e w4 ⟨rfl, h4, k4⟩
        have hby2 : Hid (∀ x ∈ ws, x.by_ ≤ now + 1) := fun x hx => by have := hby.out x hx; omega
        clear c0 c1 c2
        go_wp2_with fail
        go_roundw
        case rel => exact ⟨k + 1, now + 1, ws, out, by omega, by go_num, by omega, by push_cast; omega, by omega, by omega, hout, hby2, h4, k3.trans k4⟩
        case measure => simp [intOf]; omega
      · have hzb : (a.kind == 0) = false := by simpa using hz
        clear hz
        go_wp2_with fail
        refine (limbo_retire h2 (readIn_tail (readIn_old hh)) (by omega) (by omega)).mono ?_
        rintro e w4 ⟨rfl, h4, k4⟩
        have ha := hr.old (h4.pull 2)
        obtain ⟨d0, d1, d2⟩ := act_at ha HX.out
        have hh4 := hh.old (h4.pull 2)
        have hout2 : Hid ((ws ++ a.hs.map fun h => (⟨h.slot, h.gen, now⟩ : WaitD)).map WaitD.h = out ++ a.hs) := by
          show _ = _
          rw [map_retired, hout.out]
        have hby2 : Hid (∀ x ∈ (ws ++ a.hs.map fun h => (⟨h.slot, h.gen, now⟩ : WaitD)), x.by_ ≤ now) := by
          intro x hx
          rw [List.mem_append, List.mem_map] at hx
          rcases hx with hx | ⟨y, _, rfl⟩
          · exact hby.out x hx
          · exact Int.le_refl _
        have hwl2 : (ws ++ a.hs.map fun h => (⟨h.slot, h.gen, now⟩ : WaitD)).length ≤ 10 * (k + 1) := by
          rw [List.length_append, List.length_map, HHL.out]; omega
        have hol2 : (out ++ a.hs).length ≤ 10 * (k + 1) := by
          rw [List.length_append, HHL.out]; omega
        generalize (ws ++ a.hs.map fun h => (⟨h.slot, h.gen, now⟩ : WaitD)) = ws2 at h4 hout2 hby2 hwl2
        clear c0 c1 c2 ha
        go_wp2_with (at_builtin; refine wpList_append_arg rfl (.tmp 47) (.tmp 52) 56 rfl 70 i0 _ 2 16 Try.underlying56 hi hz0 hz1 hz2 rfl (by decide) _ fH out a.hs _ rfl (h4.pull 1) a.ao a.n a.cap rfl hh4 len_fH (one_fH _) (by unfold maxLen; omega) (by omega) ?_)
        intro v5 w5 h5 k5
        go_wp2_with fail
        go_roundw
        case rel => exact ⟨k + 1, now, ws2, out ++ a.hs, by omega, by go_num, by omega, by push_cast; omega, hwl2, hol2, hout2, hby2, h5.swap, (k3.trans k4).trans k5⟩
        case measure => simp [intOf]; omega
    obtain rfl : n = k := by omega
    clear hlt
    go_wp2_with fail
    refine (limbo_waiting h2 (by omega)).mono ?_
    rintro e w4 ⟨v4, rfl, h4, k4⟩
    obtain ⟨a4, c4, e4, g4⟩ := h4.argRow
    simp only [List.length_map] at e4 g4
    subst e4
    obtain ⟨a8, c8, e8, g8⟩ := (h4.pull 2).argRow
    simp only [Value.slice.injEq, true_and] at e8
    obtain ⟨rfl, rfl⟩ := e8
    go_wp2_with fail
    refine (handles_same g4 g8 hout.out).mono ?_
    rintro e w5 ⟨rfl, q5, rfl⟩
    have h5 := h4.tail.drewN q5
    have k5 := (k3.trans k4).drewN q5
    clear g4 g8 h4 h2 k3 k4
    generalize w4.drewN q5 = w5 at h5 k5 ⊢
    go_wp2_with fail
    refine (limbo_advance h5 hn0 (by omega)).mono ?_
    rintro e w6 ⟨rfl, h6, k6⟩
    go_wp2_with fail
    refine (limbo_advance h6 (by omega) (by omega)).mono ?_
    rintro e w7 ⟨rfl, h7, k7⟩
    go_wp2_with fail
    refine (limbo_advance h7 (by omega) (by omega)).mono ?_
    rintro e w8 ⟨rfl, h8, k8⟩
    have k9 := ((k5.trans k6).trans k7).trans k8
    obtain ⟨f1, f2⟩ := may_all hby.out (by omega : now ≤ 1000000)
    rw [show now + 1 + 1 + 1 = now + 3 by omega] at h8
    clear h5 h6 h7 k5 k6 k7 k8
    go_wp2_with fail
    refine (limbo_free (least := 4611686018427387904) h8 (by omega) (by omega) (by omega)).mono ?_
    rintro e w10 ⟨v10, rfl, h10, k10⟩
    rw [f1, f2, hout.out] at h10
    clear f1 f2
    go_wp2_with fail
    refine (limbo_free (least := 4611686018427387904) (h10.pull 1) (by omega) (by omega) (by simp)).mono ?_
    rintro e w11 ⟨v11, rfl, h11, k11⟩
    simp only [List.filter_nil, List.map_nil] at h11
    obtain ⟨a11, c11, rfl⟩ := h11.tLen
    obtain ⟨a12, c12, e12, g12⟩ := (h11.pull 2).argRow
    subst e12
    obtain ⟨a13, c13, e13, g13⟩ := (h11.pull 3).argRow
    simp only [Value.slice.injEq, true_and] at e13
    obtain ⟨rfl, rfl⟩ := e13
    go_wp2_with fail
    refine (handles_same g12 g13 rfl).mono ?_
    rintro e w14 ⟨rfl, q14, rfl⟩
    have h14 := h11.drewN q14
    have k14 := ((k9.trans k10).trans k11).drewN q14
    clear g12 g13 h11 h10 h8
    generalize w11.drewN q14 = w14 at h14 k14 ⊢
    go_wp2_with fail
    refine (limbo_waiting (h14.pull 1) (by simp)).mono ?_
    rintro e w15 ⟨v15, rfl, h15, k15⟩
    obtain ⟨a15, c15, rfl⟩ := h15.tLen
    go_wp2_with fail
    go_ret
    exact ⟨rfl, (h15.pull 5).below (k14.trans k15)⟩

end Go.Proofs.Ytkcgbenhnhbhhaa

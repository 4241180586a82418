import Derived.Test.YtkcgbenhnhbhhaaRef3
namespace Go.Proofs.Ytkcgbenhnhbhhaa
open Go Go.RowKit
set_option linter.unusedVariables false
set_option linter.unusedSimpArgs false

def RefD.w (r : RefD) : WaitD := ⟨r.h.slot, r.h.gen, r.by_⟩
def wOf (rs : List RefD) : List WaitD := (rs.filter fun r => !r.gone).map RefD.w
theorem wOf_h (rs : List RefD) : (wOf rs).map WaitD.h = (rs.filter fun r => !r.gone).map RefD.h := by
  rw [wOf, List.map_map]; rfl
theorem wOf_len (rs : List RefD) : (wOf rs).length ≤ rs.length := by
  rw [wOf, List.length_map]; exact List.length_filter_le _ _
theorem wOf_retire (rs : List RefD) (hs : List HanD) (now : Int) : wOf (rs ++ hs.map fun h => (⟨h, now, false⟩ : RefD)) = wOf rs ++ hs.map fun h => (⟨h.slot, h.gen, now⟩ : WaitD) := by
  rw [wOf, List.filter_append, List.map_append]
  congr 1
  rw [List.filter_eq_self.2 (fun a ha => by
    rw [List.mem_map] at ha
    obtain ⟨h, _, rfl⟩ := ha
    rfl), List.map_map]
  rfl
theorem may_goes (now least : Int) (r : RefD) : (!r.gone && may now least r.w) = goes now least r := by
  unfold goes may RefD.w
  have : decide (r.by_ ≤ now - 2) = decide (r.by_ + 2 ≤ now) := by
    apply decide_eq_decide.2; omega
  simp only [this, Bool.and_assoc]
theorem wOf_free (now least : Int) : ∀ rs : List RefD, (wOf rs).filter (may now least) = (rs.filter (goes now least)).map RefD.w ∧ ((wOf rs).filter fun x => !may now least x) = wOf (rs.map (upd now least))
  | [] => ⟨rfl, rfl⟩
  | r :: rs => by
    obtain ⟨h1, h2⟩ := wOf_free now least rs
    have key := may_goes now least r
    unfold wOf at h1 h2 ⊢
    rw [List.map_cons]
    cases hg : r.gone with
    | true =>
      have hgo : goes now least r = false := by rw [← key, hg]; rfl
      have hu : (upd now least r).gone = true := by simp [upd, hgo, hg]
      simp only [List.filter_cons, hg, hgo, hu]
      exact ⟨h1, h2⟩
    | false =>
      have hm : may now least r.w = goes now least r := by rw [← key, hg]; rfl
      cases hgo : goes now least r with
      | true =>
        have hu : (upd now least r).gone = true := by simp [upd, hgo]
        rw [hgo] at hm
        simp only [List.filter_cons, hg, hgo, hu, List.map_cons, hm, Bool.not_false, Bool.not_true, if_true]
        exact ⟨by rw [h1], by simpa using h2⟩
      | false =>
        have hu : upd now least r = r := by simp [upd, hgo]
        rw [hgo] at hm
        simp only [List.filter_cons, hg, hgo, hu, List.map_cons, hm, Bool.not_false, if_true]
        exact ⟨by simpa using h1, by simp [hm, h2]⟩

def ByOk (now : Int) (rs : List RefD) : Prop := ∀ r ∈ rs, 0 ≤ r.by_ ∧ r.by_ ≤ now
theorem byOk_upd {now least n2 : Int} {rs : List RefD} (h : ByOk now rs) : ByOk now (rs.map (upd n2 least)) := by
  intro r hr
  rw [List.mem_map] at hr
  obtain ⟨x, hx, rfl⟩ := hr
  have := h x hx
  unfold upd; split <;> exact this
theorem byOk_retire {now : Int} {rs : List RefD} (hs : List HanD) (h : ByOk now rs) (h0 : 0 ≤ now) : ByOk now (rs ++ hs.map fun h => (⟨h, now, false⟩ : RefD)) := by
  intro r hr
  rw [List.mem_append, List.mem_map] at hr
  rcases hr with hr | ⟨x, _, rfl⟩
  · exact h r hr
  · exact ⟨h0, Int.le_refl _⟩
theorem byOk_next {now : Int} {rs : List RefD} (h : ByOk now rs) : ByOk (now + 1) rs := fun r hr => by
  have := h r hr; omega

set_option maxRecDepth 100000 in
set_option maxHeartbeats 4000000 in
theorem epochPlays_walk (ao : Option Addr) (n cap : Nat) (acts : List ActD) (W : World) (hr : ArgRow W fAct ao n cap acts) (hq : ∀ a ∈ acts, (Lit.int .i64 a.kind).wf = true ∧ (Lit.int .i64 a.least).wf = true ∧ ArgRow W fH a.ao a.n a.cap a.hs) :
    LawCalls Try.prog 8 #[.slice ao n cap] W := by
  have H0 := Sat.start W
  have hle := hr.le
  have hsm := hr.small
  unfold maxLen at hsm
  have HL := Lib.hid hr.len
  have HQ := Lib.hid hq
  clear hq
  go_enter Try.func8, Try.ntmps8
  go_wp2_with fail
  refine (epoch_awake H0).mono ?_
  rintro e w1 ⟨rfl, h1, k1⟩
  by_cases hmost : 40 < n
  · have hmost' : (40 : Int) < (n : Int) := by omega
    clear hmost
    go_wp2_with fail
    go_ret
    exact ⟨rfl, h1.below k1⟩
  have hmost' : (n : Int) ≤ 40 := by omega
  clear hmost H0
  go_wp2_with fail
  refine (limbo_new w1 _ h1).mono ?_
  rintro e w2 ⟨b, rfl, h2, k2⟩
  have k3 := (k1.trans k2).alloc (.cells #[.int .i64 0, .slice none 0 0, .slice none 0 0, .slice none 0 0] 59)
  have h3 : Sat _ (refP w2.heap.size 0 [] :: limboP b 0 [] :: oldH W :: []) := refP_I (((((h2.tNil fB 4 1).tNil fI 3 1).tNil fH 70 2).alloc (.cells #[.int .i64 0, .slice none 0 0, .slice none 0 0, .slice none 0 0] 59)))
  clear h1 k1 k2 h2
  go_wp2_with fail
  generalize World.alloc _ _ = w3 at h3 k3 ⊢
  generalize w2.heap.size = c at h3 ⊢
  go_loopw [6] (fun i wr => ∃ (k : Nat) (now : Int) (ws : List WaitD) (rs : List RefD), k ≤ n ∧ i = .int .i64 k ∧ 0 ≤ now ∧ now ≤ k ∧ rs.length ≤ 10 * k ∧ ws.length ≤ 10 * k ∧ Hid (ws = wOf rs) ∧ Hid (ByOk now rs) ∧ Sat wr [refP c now rs, limboP b now ws, oldH W] ∧ Kp W wr) (fun i _ => n - (intOf i).toNat)
  case atStart => exact ⟨0, 0, [], [], by omega, rfl, by omega, by omega, by simp, by simp, rfl, by simp [Hid, ByOk], h3, k3⟩
  case round =>
    clear h3 k3
    obtain ⟨k, now, ws, rs, hk, rfl, hn0, hn1, hrl, hwl, hws, hby, h2, k2⟩ := hrel
    by_cases hlt : k < n
    case neg =>
      obtain rfl : n = k := by omega
      go_wp2_with fail
      go_ret
      exact ⟨rfl, (h2.pull 2).below k2⟩
    obtain ⟨a, hx⟩ : ∃ x, acts[k]? = some x := ⟨acts[k]'(by rw [HL.out]; exact hlt), by simp⟩
    have ha := hr.old (h2.pull 2)
    obtain ⟨q, off, rfl⟩ := act_some ha hlt
    obtain ⟨c0, c1, c2⟩ := act_at ha hx
    obtain ⟨_, _, hh⟩ := HQ.out a (List.mem_of_getElem? hx)
    have HX := Lib.hid hx
    have HHL := Lib.hid hh.len
    have i0' : (0 : Int) ≤ (k : Int) := by omega
    have i1' : (k : Int) < (n : Int) := by omega
    clear hx ha
    by_cases hten : 10 < a.n
    · have hten' : (10 : Int) < (a.n : Int) := by omega
      clear hten
      go_wp2_with fail
      go_ret
      exact ⟨rfl, (h2.pull 2).below k2⟩
    have hten' : (a.n : Int) ≤ 10 := by omega
    clear hten
    go_upto_block 2 with (fail)
    go_cut [7, 8] from 19 to 97 (fun _ _ wx => ∃ (now : Int) (ws : List WaitD) (rs : List RefD), 0 ≤ now ∧ now ≤ k + 1 ∧ rs.length ≤ 10 * (k + 1) ∧ ws.length ≤ 10 * (k + 1) ∧ Hid (ws = wOf rs) ∧ Hid (ByOk now rs) ∧ Sat wx [refP c now rs, limboP b now ws, oldH W] ∧ Kp W wx)
    case first =>
      by_cases hz : a.kind = 0
      · have hzb : (a.kind == 0) = true := by simpa using hz
        clear hz
        go_wp2_with fail
        refine (limbo_advance (h2.pull 1) hn0 (by omega)).mono ?_
        rintro e w4 ⟨rfl, h4, k4⟩
        obtain ⟨v1, v2, v3, hv⟩ := refP_E (h4.pull 1)
        have d0 := hv.cell 0
        have d1 := hv.free 0
        simp at d0
        have h5 := refP_I (now := now + 1) (rs := rs) (hv.set 0 (.int .i64 (now + 1)))
        have k5 := (k2.trans k4).setCell ⟨c, 0, none⟩ (.int .i64 (now + 1))
        clear c0 c1 c2
        go_wp2_with fail
        go_meet
        case rel => exact ⟨now + 1, ws, rs, by omega, by omega, by omega, by omega, hws, byOk_next hby.out, h5, k5⟩
      have hzb : (a.kind == 0) = false := by simpa using hz
      clear hz
      by_cases hz : a.kind = 1
      · have hzb1 : (a.kind == 1) = true := by simpa using hz
        clear hz
        go_wp2_with fail
        refine (limbo_retire (h2.pull 1) (readIn_tail (readIn_old hh)) (by omega) (by omega)).mono ?_
        rintro e w4 ⟨rfl, h4, k4⟩
        obtain ⟨d0, d1, d2⟩ := act_at (hr.old (h4.pull 2)) HX.out
        clear c0 c1 c2
        go_wp2_with fail
        refine (ref_retire (h4.pull 1) (readIn_tail (readIn_old hh)) (by omega) (by omega)).mono ?_
        rintro e w5 ⟨rfl, h5, k5⟩
        have l1 : (ws ++ a.hs.map fun h => (⟨h.slot, h.gen, now⟩ : WaitD)).length ≤ 10 * (k + 1) := by rw [List.length_append, List.length_map, HHL.out]; omega
        have l2 : (rs ++ a.hs.map fun h => (⟨h, now, false⟩ : RefD)).length ≤ 10 * (k + 1) := by rw [List.length_append, List.length_map, HHL.out]; omega
        have hws2 : Hid ((ws ++ a.hs.map fun h => (⟨h.slot, h.gen, now⟩ : WaitD)) = wOf (rs ++ a.hs.map fun h => (⟨h, now, false⟩ : RefD))) := by
          show _ = _
          rw [wOf_retire, hws.out]
        have hby2 : Hid (ByOk now (rs ++ a.hs.map fun h => (⟨h, now, false⟩ : RefD))) := byOk_retire _ hby.out hn0
        generalize (ws ++ a.hs.map fun h => (⟨h.slot, h.gen, now⟩ : WaitD)) = ws2 at h5 l1 hws2
        generalize (rs ++ a.hs.map fun h => (⟨h, now, false⟩ : RefD)) = rs2 at h5 l2 hws2 hby2
        clear d0 d1 d2
        go_wp2_with fail
        go_meet
        case rel => exact ⟨now, ws2, rs2, by omega, by omega, by omega, by omega, hws2, hby2, h5, (k2.trans k4).trans k5⟩
      have hzb1 : (a.kind == 1) = false := by simpa using hz
      clear hz
      go_wp2_with fail
      refine (limbo_free (least := a.least) (h2.pull 1) hn0 (by omega) (by omega)).mono ?_
      rintro e w4 ⟨v4, rfl, h4, k4⟩
      obtain ⟨d0, d1, d2⟩ := act_at (hr.old (h4.pull 3)) HX.out
      clear c0 c1 c2
      go_wp2_with fail
      refine (ref_free (least := a.least) (h4.pull 2) (by omega) (fun r hr => by have := hby.out r hr; omega)).mono ?_
      rintro e w5 ⟨v5, rfl, h5, k5⟩
      obtain ⟨f1, f2⟩ := wOf_free now a.least rs
      rw [hws.out, f1, f2, List.map_map] at h5
      clear f1 f2
      have l1 : (wOf (rs.map (upd now a.least))).length ≤ 10 * (k + 1) := by
        have := wOf_len (rs.map (upd now a.least))
        rw [List.length_map] at this; omega
      have l2 : (rs.map (upd now a.least)).length ≤ 10 * (k + 1) := by rw [List.length_map]; omega
      have hby2 : Hid (ByOk now (rs.map (upd now a.least))) := byOk_upd hby.out
      generalize rs.map (upd now a.least) = rs2 at h5 l1 l2 hby2
      obtain ⟨ws2, e1⟩ : ∃ ws2, ws2 = wOf rs2 := ⟨_, rfl⟩
      rw [← e1] at h5 l1
      have hws2 := Lib.hid e1
      clear e1
      obtain ⟨a6, c6, e6, g6⟩ := h5.argRow
      obtain ⟨a7, c7, e7, g7⟩ := (h5.pull 2).argRow
      simp only [List.length_map] at e6 g6 e7 g7
      subst e6 e7
      clear d0 d1 d2
      go_wp2_with fail
      refine (handles_same g7 g6 rfl).mono ?_
      rintro e w8 ⟨rfl, q8, rfl⟩
      have h8 := (((h5.tail.pull 1).tail).drewN q8)
      have k8 := (((k2.trans k4).trans k5).drewN q8)
      go_wp2_with fail
      go_meet
      case rel => exact ⟨now, ws2, rs2, by omega, by omega, by omega, by omega, hws2, hby2, h8, k8⟩
    case rest =>
      clear h2 k2 c0 c1 c2 hws hby hwl hrl hn0 hn1
      obtain ⟨now, ws, rs, hn0, hn1, hrl, hwl, hws, hby, h2, k2⟩ := hcut
      go_upto_region 24 with (fail)
      go_cut [97] from 19 to 96 (fun t wx => t = .bool false ∧ Sat wx [refP c now rs, limboP b now ws, oldH W] ∧ Kp W wx)
      case first =>
        obtain ⟨v1, v2, v3, hv⟩ := refP_E h2
        have d0 := hv.cell 0
        have hbl := hv.lt
        simp at d0
        have hne : (now != now) = false := by simp
        clear hv
        go_region_with (first | (go_at_call 43; refine (limbo_now ((h2.pull 1).drew)).mono ?_; rintro e wA ⟨rfl, hA⟩; subst hA) | (go_at_call 44; refine (limbo_waiting ((h2.pull 1).drew) (by omega)).mono ?_; rintro e wB ⟨vB, rfl, hB, kB⟩) | (go_at_call 45; refine (ref_waiting (hB.pull 2) (by omega)).mono ?_; rintro e wC ⟨vC, rfl, hC, kC⟩; rw [← wOf_h, ← hws.out] at hC; obtain ⟨a6, c6, e6, g6⟩ := hC.argRow; obtain ⟨a7, c7, e7, g7⟩ := (hC.pull 2).argRow; simp only [List.length_map] at e6 g6 e7 g7; subst e6 e7) | (go_at_call 42; refine (handles_same g7 g6 rfl).mono ?_; rintro e wD ⟨rfl, qD, rfl⟩))
        all_goals
          go_wp2_with fail
          go_meet
          case rel => exact ⟨rfl, ((hC.tail.pull 1).tail).drewN qD, ((k2.drew.trans kB).trans kC).drewN qD⟩
      case rest =>
        clear h2 k2
        obtain ⟨rfl, h2, k2⟩ := hcut
        go_wp2_with fail
        go_roundw
        case rel => exact ⟨k + 1, now, ws, rs, by omega, by go_num, by omega, by push_cast; omega, by omega, by omega, hws, hby, h2, k2⟩
        case measure => simp [intOf]; omega

end Go.Proofs.Ytkcgbenhnhbhhaa

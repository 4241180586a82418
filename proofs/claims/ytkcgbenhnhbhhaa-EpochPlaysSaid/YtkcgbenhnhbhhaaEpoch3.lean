import Derived.Test.YtkcgbenhnhbhhaaEpoch2
namespace Go.Proofs.Ytkcgbenhnhbhhaa
open Go Go.RowKit
set_option linter.unusedVariables false
set_option linter.unusedSimpArgs false

/-- The two boxes of Free's predicate, and the epoch's. -/
def mayNeeds (b bl bq : Nat) (now least : Int) (v : Value) (l : List HProp) : List HProp :=
  own b (.cells #[.int .i64 now, v] 108 (0, 0)) :: own bl (.cells #[.pointer (some ⟨b, 0, none⟩)] 53 (0, 0)) :: own bq (.cells #[.int .i64 least] 3 (0, 0)) :: l

theorem free_may' {w : World} {A l : List HProp} {b bl bq : Nat} {now least : Int} {v : Value} (x : WaitD) (hs : Sat w (mayNeeds b bl bq now least v l)) (h0 : 0 ≤ now) (h1 : now < 9000000000000000000) :
    Calls Try.prog 58 #[aggW x, .pointer (some ⟨bq, 0, none⟩), .pointer (some ⟨bl, 0, none⟩)] w fun e w' => e = .returned (.bool (may now least x)) ∧ Sat w' (mayNeeds b bl bq now least v l) ∧ Kp w w' := by
  have c0 := hs.cell 0
  have c1 := (hs.pull 1).cell 0
  have c2 := (hs.pull 2).cell 0
  simp at c0 c1 c2
  exact free_may x hs h0 h1 c1 c2 c0

set_option maxRecDepth 100000 in
set_option maxHeartbeats 1000000 in
theorem picked_free {w : World} {l : List HProp} {b bl bq : Nat} {now least : Int} {v0 : Value} {ws : List WaitD} {v : Value}
    (hs : Sat w (mayNeeds b bl bq now least v0 (rowT fW v 110 3 ws :: l))) (hc : w.cell? ⟨b, 1, none⟩ = some v) (hm : ws.length ≤ 1000000) (h0 : 0 ≤ now) (h1 : now < 9000000000000000000) :
    Calls Try.prog 59 #[.pointer (some ⟨b, 0, none⟩), .func (.func 58) #[] #[.pointer (some ⟨bq, 0, none⟩), .pointer (some ⟨bl, 0, none⟩)]] w fun e w' => ∃ vo, e = .returned vo ∧ Sat w' (rowT fH vo 70 2 ((ws.filter (may now least)).map WaitD.h) :: mayNeeds b bl bq now least v0 (rowT fW v 110 3 ws :: l)) ∧ Kp w w' := by
  obtain ⟨i0, hi, hz0, hz1, hz2⟩ := info_parts Try.infoHandle
  obtain ⟨vao, vcap, rfl⟩ := (hs.pull 3).tLen
  go_enter Try.func59, Try.ntmps59
  go_wp2_with fail
  go_loopw [5, 13] (fun vo i wr => ∃ (k : Nat) (out : List HanD), k ≤ ws.length ∧ i = .int .i64 k ∧ Hid (out = ((ws.take k).filter (may now least)).map WaitD.h) ∧ out.length ≤ k ∧ Sat wr (rowT fH vo 70 2 out :: mayNeeds b bl bq now least v0 (rowT fW (.slice vao ws.length vcap) 110 3 ws :: l)) ∧ Kp w wr) (fun _ i _ => ws.length - (intOf i).toNat)
  case atStart => exact ⟨0, [], by omega, rfl, rfl, by simp, hs.tNil _ _ _, Kp.refl w⟩
  case round =>
    obtain ⟨k, out, hk, rfl, hout, hol, hs1, hkp⟩ := hrel
    obtain ⟨oao, ocap, rfl⟩ := hs1.tLen
    by_cases hlt : k < ws.length
    case neg =>
      have hke : k = ws.length := by omega
      have hout2 := hout.out
      rw [hke, List.take_length] at hout2
      replace hout2 := Lib.hid hout2
      clear hke
      go_wp2_with fail
      go_ret
      refine ⟨.slice oao out.length ocap, rfl, ?_, hkp⟩
      rw [← hout2.out]
      exact hs1
    obtain ⟨x, hx⟩ : ∃ x, ws[k]? = some x := ⟨ws[k], by simp⟩
    rcases (hs1.pull 4).tForm with ⟨he, hw0⟩ | ⟨g, off, cap, he⟩
    · rw [hw0] at hlt; simp at hlt
    simp only [Value.slice.injEq, true_and] at he
    obtain ⟨rfl, rfl⟩ := he
    have q0 := (hs1.pull 4).tCell len_fW k 0 hx rfl
    have q1 := (hs1.pull 4).tCell len_fW k 1 hx rfl
    have q2 := (hs1.pull 4).tCell len_fW k 2 hx rfl
    rw [Nat.add_zero] at q0
    have hgl : g < wr.heap.size := World.block_lt_of_cell? _ _ q0
    have hnext := take_snoc' hx
    have j0 : (0 : Int) ≤ (k : Int) := by omega
    have j1 : (k : Int) < (ws.length : Int) := by omega
    have hB := (hs1.alloc (.cells #[.int .i64 x.slot, .int .i64 x.gen, .int .i64 x.by_] 110))
    have kB := hkp.alloc (.cells #[.int .i64 x.slot, .int .i64 x.gen, .int .i64 x.by_] 110)
    clear hx
    go_wp2_with fail
    generalize hW : wr.alloc _ = w1 at hB kB ⊢
    clear hW q0 q1 q2 hs1
    generalize wr.heap.size = B at hB hgl ⊢
    refine (free_may' (A := []) x (l := _) (((hB.pull 4).pull 4).pull 4) h0 h1).mono ?_
    rintro e w2 ⟨rfl, h2, k2⟩
    have k3 := kB.trans k2
    have hr0 := (h2.pull 3).cell 0
    have hr1 := (h2.pull 3).cell 1
    have hr2 := (h2.pull 3).cell 2
    have hBl := (h2.pull 3).lt
    simp at hr0 hr1 hr2
    by_cases hp : may now least x = true
    · have hout3 : Hid (out ++ [x.h] = ((ws.take (k + 1)).filter (may now least)).map WaitD.h) := by
        show _ = _
        rw [hnext, List.filter_append, List.map_append, hout.out]
        simp [hp]
      clear hnext
      go_wp2_with (at_builtin; refine wpList_append_lit rfl (.tmp 20) (.tmp 23) 56 rfl 70 i0 _ 2 16 Try.underlying56 hi hz0 hz1 hz2 rfl (by decide) _ _ _ w2.heap.size _ _ _ rfl (Sat.pull 5 (h2.alloc _)) 1 1 rfl rfl rfl ?c3 ?c4 ?c5)
      case c3 => unfold maxLen; omega
      case c4 => omega
      case c5 =>
        intro v' w3 hs3 hk3
        go_wp2_with fail
        have h4 := Sat.tSnoc (f := fH) (x := x.h) hs3 rfl
        have h5 := ((((h4.pull 1).tail).pull 4).tail)
        go_roundw
        case rel => exact ⟨k + 1, out ++ [x.h], by omega, by go_num, hout3, by simp; omega, h5, k3.trans (((Kp.refl _).alloc _).trans hk3)⟩
        case measure => simp [intOf]; omega
    · have hp' : may now least x = false := by simpa using hp
      clear hp
      have hout3 : Hid (out = ((ws.take (k + 1)).filter (may now least)).map WaitD.h) := by
        show _ = _
        rw [hnext, List.filter_append, List.map_append, hout.out]
        simp [hp']
      clear hnext
      go_wp2_with fail
      go_roundw
      case rel => exact ⟨k + 1, out, by omega, by go_num, hout3, by omega, (((h2.pull 3).tail).pull 3), k3⟩
      case measure => simp [intOf]; omega

set_option maxRecDepth 100000 in
set_option maxHeartbeats 1000000 in
theorem picked_all {w : World} {l : List HProp} {b : Nat} {ws : List WaitD} {v : Value}
    (hs : Sat w ((rowT fW v 110 3 ws :: l))) (hc : w.cell? ⟨b, 1, none⟩ = some v) (hm : ws.length ≤ 1000000)  :
    Calls Try.prog 59 #[.pointer (some ⟨b, 0, none⟩), .func (.func 62) #[] #[]] w fun e w' => ∃ vo, e = .returned vo ∧ Sat w' (rowT fH vo 70 2 ((ws.filter (fun _ => true)).map WaitD.h) :: (rowT fW v 110 3 ws :: l)) ∧ Kp w w' := by
  obtain ⟨i0, hi, hz0, hz1, hz2⟩ := info_parts Try.infoHandle
  obtain ⟨vao, vcap, rfl⟩ := (hs.pull 0).tLen
  go_enter Try.func59, Try.ntmps59
  go_wp2_with fail
  go_loopw [5, 13] (fun vo i wr => ∃ (k : Nat) (out : List HanD), k ≤ ws.length ∧ i = .int .i64 k ∧ Hid (out = ((ws.take k).filter (fun _ => true)).map WaitD.h) ∧ out.length ≤ k ∧ Sat wr (rowT fH vo 70 2 out :: (rowT fW (.slice vao ws.length vcap) 110 3 ws :: l)) ∧ Kp w wr) (fun _ i _ => ws.length - (intOf i).toNat)
  case atStart => exact ⟨0, [], by omega, rfl, rfl, by simp, hs.tNil _ _ _, Kp.refl w⟩
  case round =>
    obtain ⟨k, out, hk, rfl, hout, hol, hs1, hkp⟩ := hrel
    obtain ⟨oao, ocap, rfl⟩ := hs1.tLen
    by_cases hlt : k < ws.length
    case neg =>
      have hke : k = ws.length := by omega
      have hout2 := hout.out
      rw [hke, List.take_length] at hout2
      replace hout2 := Lib.hid hout2
      clear hke
      go_wp2_with fail
      go_ret
      refine ⟨.slice oao out.length ocap, rfl, ?_, hkp⟩
      rw [← hout2.out]
      exact hs1
    obtain ⟨x, hx⟩ : ∃ x, ws[k]? = some x := ⟨ws[k], by simp⟩
    rcases (hs1.pull 1).tForm with ⟨he, hw0⟩ | ⟨g, off, cap, he⟩
    · rw [hw0] at hlt; simp at hlt
    simp only [Value.slice.injEq, true_and] at he
    obtain ⟨rfl, rfl⟩ := he
    have q0 := (hs1.pull 1).tCell len_fW k 0 hx rfl
    have q1 := (hs1.pull 1).tCell len_fW k 1 hx rfl
    have q2 := (hs1.pull 1).tCell len_fW k 2 hx rfl
    rw [Nat.add_zero] at q0
    have hgl : g < wr.heap.size := World.block_lt_of_cell? _ _ q0
    have hnext := take_snoc' hx
    have j0 : (0 : Int) ≤ (k : Int) := by omega
    have j1 : (k : Int) < (ws.length : Int) := by omega
    have hB := (hs1.alloc (.cells #[.int .i64 x.slot, .int .i64 x.gen, .int .i64 x.by_] 110))
    have kB := hkp.alloc (.cells #[.int .i64 x.slot, .int .i64 x.gen, .int .i64 x.by_] 110)
    clear hx
    go_wp2_with fail
    generalize hW : wr.alloc _ = w1 at hB kB ⊢
    clear hW q0 q1 q2 hs1
    generalize wr.heap.size = B at hB hgl ⊢
    refine (wait_all x hB).mono ?_
    rintro e w2 ⟨rfl, h2, k2⟩
    have k3 := kB.trans k2
    have hr0 := (h2.pull 0).cell 0
    have hr1 := (h2.pull 0).cell 1
    have hr2 := (h2.pull 0).cell 2
    have hBl := (h2.pull 0).lt
    simp at hr0 hr1 hr2
    have hout3 : Hid (out ++ [x.h] = ((ws.take (k + 1)).filter (fun _ => true)).map WaitD.h) := by
      show _ = _
      rw [hnext, List.filter_append, List.map_append, hout.out]
      simp 
    clear hnext
    go_wp2_with (at_builtin; refine wpList_append_lit rfl (.tmp 20) (.tmp 23) 56 rfl 70 i0 _ 2 16 Try.underlying56 hi hz0 hz1 hz2 rfl (by decide) _ _ _ w2.heap.size _ _ _ rfl (Sat.pull 2 (h2.alloc _)) 1 1 rfl rfl rfl ?c3 ?c4 ?c5)
    case c3 => unfold maxLen; omega
    case c4 => omega
    case c5 =>
      intro v' w3 hs3 hk3
      go_wp2_with fail
      have h4 := Sat.tSnoc (f := fH) (x := x.h) hs3 rfl
      have h5 := ((((h4.pull 1).tail).pull 1).tail)
      go_roundw
      case rel => exact ⟨k + 1, out ++ [x.h], by omega, by go_num, hout3, by simp; omega, h5, k3.trans (((Kp.refl _).alloc _).trans hk3)⟩
      case measure => simp [intOf]; omega

end Go.Proofs.Ytkcgbenhnhbhhaa

import Derived.Test.YtkcgbenhnhbhhaaEpoch8
namespace Go.Proofs.Ytkcgbenhnhbhhaa
open Go Go.RowKit
set_option linter.unusedVariables false
set_option linter.unusedSimpArgs false

theorem Sat.litI2 {w : World} {l : List HProp} {B : Nat} (a g : Int) (hs : Sat w (own B (.cells #[.int .i64 a, .int .i64 g] 3) :: l)) :
    ArgRow w fI (some ⟨B, 0, none⟩) 2 2 [a, g] := by
  have h : Sat w (rowT fI (.slice (some ⟨B, 0, none⟩) 2 2) 3 1 [a, g] :: l) := hs.rowI (off := 0) (size := 1) (n := 2) (cap := 2) (by omega) (by unfold maxLen; omega) (by simp)
  obtain ⟨a11, c11, e11, g11⟩ := h.argRow
  simp only [Value.slice.injEq, true_and] at e11
  obtain ⟨rfl, -, rfl⟩ := e11
  exact g11

theorem may_not {now least by_ : Int} (h : ¬ (by_ < least) ∨ ¬ (by_ ≤ now - 2)) (a g : Int) : [(⟨a, g, by_⟩ : WaitD)].filter (may now least) = [] ∧ ([(⟨a, g, by_⟩ : WaitD)].filter fun x => !may now least x) = [⟨a, g, by_⟩] := by
  have : may now least ⟨a, g, by_⟩ = false := by
    unfold may
    rcases h with h | h
    · simp only [decide_eq_false h, Bool.false_and]
    · simp only [decide_eq_false h, Bool.and_false]
  simp [this]
theorem may_yes {now least by_ : Int} (h1 : by_ < least) (h2 : by_ ≤ now - 2) (a g : Int) : [(⟨a, g, by_⟩ : WaitD)].filter (may now least) = [⟨a, g, by_⟩] ∧ ([(⟨a, g, by_⟩ : WaitD)].filter fun x => !may now least x) = [] := by
  have : may now least ⟨a, g, by_⟩ = true := by
    unfold may
    simp only [decide_eq_true h1, decide_eq_true h2, Bool.and_true]
  simp [this]

set_option maxRecDepth 100000 in
set_option maxHeartbeats 1000000 in
theorem epochPinned_walk (a0 a1 a2 : Int) (W : World) (z0 : 0 ≤ a0) (z0' : a0 < 256) (z1 : 0 ≤ a1) (z1' : a1 < 256) (z2 : 0 ≤ a2) (z2' : a2 < 256) :
    LawCalls Try.prog 11 #[.int .u8 a0, .int .u8 a1, .int .u8 a2] W := by
  have H0 := Sat.start W
  obtain ⟨pin, rfl⟩ := Int.eq_ofNat_of_zero_le z0
  obtain ⟨later, rfl⟩ := Int.eq_ofNat_of_zero_le z1
  obtain ⟨behind, rfl⟩ := Int.eq_ofNat_of_zero_le z2
  have y0 : pin < 256 := by omega
  have y1 : later < 256 := by omega
  have y2 : behind < 256 := by omega
  go_enter Try.func11, Try.ntmps11
  go_wp2_with fail
  refine (epoch_awake H0).mono ?_
  rintro e w1 ⟨rfl, h1, k1⟩
  go_wp2_with fail
  refine (limbo_new w1 _ h1).mono ?_
  rintro e w2 ⟨b, rfl, h2, k2⟩
  have k3 := k1.trans k2
  clear h1 k1 k2
  go_wp2_with fail
  go_loopw [9] (fun i wr => ∃ (k : Nat), k ≤ pin ∧ i = .int .i64 k ∧ Sat wr [limboP b k [], oldH W] ∧ Kp W wr) (fun i _ => pin - (intOf i).toNat)
  case atStart => exact ⟨0, by omega, rfl, h2, k3⟩
  case round =>
    clear h2 k3
    obtain ⟨k, hk, rfl, h2, k3⟩ := hrel
    by_cases hlt : k < pin
    · have i0 : (k : Int) < (pin : Int) := by omega
      go_wp2_with fail
      refine (limbo_advance h2 (by omega) (by omega)).mono ?_
      rintro e w4 ⟨rfl, h4, k4⟩
      go_wp2_with fail
      go_roundw
      case rel => exact ⟨k + 1, by omega, by go_num, h4, k3.trans k4⟩
      case measure => simp [intOf]; omega
    obtain rfl : pin = k := by omega
    clear hlt
    go_wp2_with fail
    refine (limbo_now h2).mono ?_
    rintro e w4 ⟨rfl, hw4⟩
    subst hw4
    go_wp2_with fail
    go_loopw [11] (fun i wx => ∃ (k : Nat), k ≤ later ∧ i = .int .i64 k ∧ Sat wx [limboP b ((pin : Int) + k) [], oldH W] ∧ Kp W wx) (fun i _ => later - (intOf i).toNat)
    case atStart => exact ⟨0, by omega, rfl, by simpa using h2, k3⟩
    case round =>
      clear h2 k3
      obtain ⟨k, hk, rfl, h2, k3⟩ := hrel
      by_cases hlt : k < later
      · have i0 : (k : Int) < (later : Int) := by omega
        go_wp2_with fail
        refine (limbo_advance h2 (by omega) (by omega)).mono ?_
        rintro e w4 ⟨rfl, h4, k4⟩
        go_wp2_with fail
        go_roundw
        case rel => exact ⟨k + 1, by omega, by go_num, by simpa [Int.add_assoc] using h4, k3.trans k4⟩
        case measure => simp [intOf]; omega
      obtain rfl : later = k := by omega
      clear hlt
      obtain ⟨N, hN⟩ : ∃ N : Int, N = (pin : Int) + later := ⟨_, rfl⟩
      rw [← hN] at h2
      have hN0 : (pin : Int) ≤ N := by omega
      have hN1 : N < 512 := by omega
      clear hN
      have h5 := ((h2.alloc (.cells #[.int .i64 1, .int .i64 1] 70)).litH).swap
      have k5 := k3.alloc (.cells #[.int .i64 1, .int .i64 1] 70)
      go_wp2_with fail
      generalize hW : World.alloc _ _ = w5 at h5 k5 ⊢
      clear hW
      generalize Array.size _ = B at h5 ⊢
      refine (limbo_retire h5 readIn_row (by omega) (by simp)).mono ?_
      rintro e w6 ⟨rfl, h6, k6⟩
      replace h6 : Sat w6 (limboP b N [⟨1, 1, N⟩] :: _) := h6
      have k7 := k5.trans k6
      clear h5 k5 k6 h2 k3
      go_wp2_with fail
      go_loopw [13] (fun i wx => ∃ (k : Nat), k ≤ behind ∧ i = .int .i64 k ∧ Sat wx [limboP b (N + k) [⟨1, 1, N⟩], rowT fH (.slice (some ⟨B, 0, none⟩) 1 1) 70 2 [⟨1, 1⟩], oldH W] ∧ Kp W wx) (fun i _ => behind - (intOf i).toNat)
      case atStart => exact ⟨0, by omega, rfl, by simpa using h6, k7⟩
      case round =>
        clear h6 k7
        obtain ⟨k, hk, rfl, h2, k3⟩ := hrel
        by_cases hlt : k < behind
        · have i0 : (k : Int) < (behind : Int) := by omega
          go_wp2_with fail
          refine (limbo_advance h2 (by omega) (by omega)).mono ?_
          rintro e w4 ⟨rfl, h4, k4⟩
          have h5 := h4.alloc (.cells #[.int .i64 0, .int .i64 ((pin : Int) + 1)] 3)
          have a5 := h5.litI2 0 ((pin : Int) + 1)
          have k5 := (k3.trans k4).alloc (.cells #[.int .i64 0, .int .i64 ((pin : Int) + 1)] 3)
          go_wp2_with fail
          refine (epoch_least h5 a5 (by simp; omega)).mono ?_
          rintro e w6 ⟨rfl, hw6⟩
          subst hw6
          have hl : leastOf [0, (pin : Int) + 1] = pin := by
            simp [leastOf, leastL, none10]; omega
          rw [hl]
          go_wp2_with fail
          refine (limbo_free (least := pin) h5.tail (by omega) (by omega) (by simp)).mono ?_
          rintro e w7 ⟨v7, rfl, h7, k7⟩
          obtain ⟨f1, f2⟩ := may_not (now := N + k + 1) (least := pin) (by_ := N) (.inl (by omega)) 1 1
          rw [f1, f2] at h7
          obtain ⟨a7, c7, rfl⟩ := h7.tLen
          clear f1 f2 h5 a5 hl h2 h4
          go_wp2_with fail
          go_roundw
          case rel => exact ⟨k + 1, by omega, by go_num, by simpa [Int.add_assoc] using h7.tail, k5.trans k7⟩
          case measure => simp [intOf]; omega
        obtain rfl : behind = k := by omega
        clear hlt
        go_wp2_with fail
        refine (limbo_waiting h2 (by simp)).mono ?_
        rintro e w4 ⟨v4, rfl, h4, k4⟩
        obtain ⟨a4, c4, e4, g4⟩ := h4.argRow
        subst e4
        obtain ⟨a8, c8, e8, g8⟩ := (h4.pull 2).argRow
        simp only [Value.slice.injEq, true_and] at e8
        obtain ⟨rfl, -, rfl⟩ := e8
        go_wp2_with fail
        refine (handles_same g4 g8 rfl).mono ?_
        rintro e w8 ⟨rfl, q8, rfl⟩
        have h9 := (h4.tail.drewN q8).alloc (.cells #[.int .i64 0, .int .i64 0] 3)
        have a9 := h9.litI2 0 0
        have k9 := ((k3.trans k4).drewN q8).alloc (.cells #[.int .i64 0, .int .i64 0] 3)
        clear g4 g8 h4 h2
        go_wp2_with fail
        refine (epoch_least h9 a9 (by simp)).mono ?_
        rintro e w10 ⟨rfl, hw10⟩
        subst hw10
        have hl : leastOf [0, 0] = 4611686018427387904 := by decide
        rw [hl]
        clear hl
        go_wp2_with fail
        refine (limbo_free (least := 4611686018427387904) h9.tail (by omega) (by omega) (by simp)).mono ?_
        rintro e w11 ⟨v11, rfl, h11, k11⟩
        by_cases htwo : 2 ≤ behind
        · obtain ⟨f1, f2⟩ := may_yes (now := N + behind) (least := 4611686018427387904) (by_ := N) (by omega) (by omega) 1 1
          rw [f1, f2] at h11
          obtain ⟨a7, c7, rfl⟩ := h11.tLen
          clear f1 f2
          have t2 : (2 : Int) ≤ (behind : Int) := by omega
          go_wp2_with fail
          go_ret
          exact ⟨rfl, (h11.pull 3).below (k9.trans k11)⟩
        · obtain ⟨f1, f2⟩ := may_not (now := N + behind) (least := 4611686018427387904) (by_ := N) (.inr (by omega)) 1 1
          rw [f1, f2] at h11
          obtain ⟨a7, c7, rfl⟩ := h11.tLen
          clear f1 f2
          have t2 : decide ((2 : Int) ≤ (behind : Int)) = false := by simp; omega
          go_wp2_with fail
          go_ret
          exact ⟨by simp [t2], (h11.pull 3).below (k9.trans k11)⟩

end Go.Proofs.Ytkcgbenhnhbhhaa

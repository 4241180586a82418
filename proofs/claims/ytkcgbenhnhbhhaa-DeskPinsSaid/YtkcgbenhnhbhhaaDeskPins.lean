import Derived.Test.YtkcgbenhnhbhhaaDesk8
import Derived.Test.YtkcgbenhnhbhhaaLaw
namespace Go.Proofs.Ytkcgbenhnhbhhaa
open Go Go.RowKit
set_option linter.unusedVariables false
set_option linter.unusedSimpArgs false

set_option maxRecDepth 100000 in
set_option maxHeartbeats 2000000 in
theorem deskPins_walk (a0 a1 a2 n m : Int) (W : World) (z0 : 0 ≤ a0) (z0' : a0 < 256) (z1 : 0 ≤ a1) (z1' : a1 < 256) (z2 : 0 ≤ a2) (z2' : a2 < 256) (w3 : (Lit.int .i64 n).wf = true) (w4 : (Lit.int .i64 m).wf = true) :
    LawCalls Try.prog 7 #[.int .u8 a0, .int .u8 a1, .int .u8 a2, .int .i64 n, .int .i64 m] W := by
  have H0 := Sat.start W
  go_enter Try.func7, Try.ntmps7
  go_wp2_with fail
  refine (desk_awake H0).mono ?_
  rintro e w1 ⟨rfl, h1, k1⟩
  go_wp2_with fail
  have hb : 1 ≤ 1 + a0 % 8 ∧ 1 + a0 % 8 ≤ 8 := by omega
  generalize 1 + a0 % 8 = c0 at hb ⊢
  obtain ⟨c, rfl⟩ := Int.eq_ofNat_of_zero_le (show 0 ≤ c0 by omega)
  obtain ⟨b1, b2⟩ := hb
  refine (desk_new c 1 w1 _ h1 (by omega) (by omega) (by omega)).mono ?_
  rintro e w2 ⟨d, rfl, h2, k2⟩
  have k12 := k1.trans k2
  clear k1 k2 h1
  go_wp2_with fail
  have ha1 : 0 ≤ a1 % (c : Int) ∧ a1 % (c : Int) < c := ⟨Int.emod_nonneg _ (by omega), Int.emod_lt_of_pos _ (by omega)⟩
  have ha2 : 0 ≤ a2 % (c : Int) ∧ a2 % (c : Int) < c := ⟨Int.emod_nonneg _ (by omega), Int.emod_lt_of_pos _ (by omega)⟩
  generalize a1 % (c : Int) = p0 at ha1 ⊢
  generalize a2 % (c : Int) = q0 at ha2 ⊢
  obtain ⟨p, rfl⟩ := Int.eq_ofNat_of_zero_le ha1.1
  obtain ⟨q, rfl⟩ := Int.eq_ofNat_of_zero_le ha2.1
  have hp : p < c := by omega
  have hq : q < c := by omega
  clear ha1 ha2
  refine (desk_setPin (i := p) h2 (by simp [newD]) (by simp [newD]) (by simpa [newD] using hp)).mono ?_
  rintro e w3 ⟨rfl, h3, k3⟩
  go_wp2_with fail
  refine (desk_setPin (i := q) h3 (by simp [newD, tick]) (by simp [newD, tick]) (by simpa [newD, tick] using hq)).mono ?_
  rintro e w4 ⟨rfl, h4, k4⟩
  go_wp2_with fail
  refine (desk_setReply (i := p) (a := ⟨0, 0, 1, none, 0, 0, none, 0, 0, false⟩) h4 (by simp [newD, tick]) (by simp [newD, tick]) (by simpa [newD, tick] using hp)).mono ?_
  rintro e w5 ⟨rfl, h5, k5⟩
  have k15 := k12.trans (k3.trans (k4.trans k5))
  clear k12 k3 k4 k5 h2 h3 h4
  obtain ⟨D, hD⟩ : ∃ D : DeskD, D = { tick { tick { tick (newD c 1) with pins := (newD c 1).pins.set p n } with pins := (tick { tick (newD c 1) with pins := (newD c 1).pins.set p n }).pins.set q m } with reps := (tick { tick { tick (newD c 1) with pins := (newD c 1).pins.set p n } with pins := (tick { tick (newD c 1) with pins := (newD c 1).pins.set p n }).pins.set q m }).reps.set p { e := 0, version := 0, node := 1, kao := none, kn := 0, kc := 0, dao := none, dn := 0, dc := 0, lies := true } } := ⟨_, rfl⟩
  have hP : Hid (D.pins = ((List.replicate c (0 : Int)).set p n).set q m) := by rw [hD]; rfl
  have hR : Hid (D.reps = (List.replicate c zeroR).set p ⟨0, 0, 1, none, 0, 0, none, 0, 0, true⟩) := by rw [hD]; rfl
  have hA : D.acc = 3 := by rw [hD]; simp [tick, newD]
  have h6 : Sat w5 (deskP d D :: [oldH W]) := by rw [hD]; exact h5
  have hA0 : 0 ≤ D.acc := by omega
  have hA1 : D.acc ≤ 3 := by omega
  clear hA h5 hD
  by_cases hpq : p = q
  · subst hpq
    have e0 : ((p : Int) == (p : Int)) = true := by simp
    go_wp2_with fail
    go_loopw [17] (fun i wr => ∃ (k : Nat) (D : DeskD), k ≤ c ∧ i = .int .i64 k ∧ Hid (D.pins = ((List.replicate c (0 : Int)).set p n).set p m) ∧ Hid (D.reps = (List.replicate c zeroR).set p ⟨0, 0, 1, none, 0, 0, none, 0, 0, true⟩) ∧ 0 ≤ D.acc ∧ D.acc ≤ 3 + k ∧ Sat wr (deskP d D :: [oldH W]) ∧ Kp W wr) (fun i _ => c - (intOf i).toNat)
    case atStart => exact ⟨0, D, by omega, rfl, hP, hR, hA0, by omega, h6, k15⟩
    case round =>
      clear hP hR hA0 hA1 h6 k15 D
      obtain ⟨k, D, hk, rfl, hP, hR, hA0, hA1, hs, hkp⟩ := hrel
      by_cases hlt : k < c
      case neg =>
        obtain rfl : k = c := by omega
        clear hlt
        go_wp2_with fail
        refine (desk_pin (i := p) (n := m) hs hA0 (by omega) (by rw [hP.out]; exact get_set_self (by simp; omega))).mono ?_
        rintro e w6 ⟨rfl, h6, k6⟩
        go_wp2_with fail
        refine (desk_pin (i := p) (n := m) h6 (by simp only [tick]; omega) (by simp only [tick]; omega) (by simp only [tick]; rw [hP.out]; exact get_set_self (by simp; omega))).mono ?_
        rintro e w7 ⟨rfl, h7, k7⟩
        go_wp2_with fail
        go_ret
        exact ⟨rfl, h7.tail.below (hkp.trans (k6.trans k7))⟩
      by_cases h1 : k = p
      · subst h1
        have e1 : ((k : Int) == (k : Int)) = true := by simp
        have e2 : ((k : Int) != (k : Int)) = false := by simp
        go_wp2_with fail
        refine (desk_has (i := k) (r := ⟨0, 0, 1, none, 0, 0, none, 0, 0, true⟩) hs (by rw [hR.out]; exact get_set_self (by simp; omega))).mono ?_
        rintro e w6 ⟨rfl, rfl⟩
        go_wp2_with fail
        go_roundw
        case rel => exact ⟨k + 1, D, by omega, by go_num, hP, hR, hA0, by push_cast; omega, hs, hkp⟩
        case measure => simp [intOf]; omega
      have e1 : ((k : Int) == (p : Int)) = false := by rw [beq_eq_false_iff_ne]; omega
      have e2 : ((k : Int) != (p : Int)) = true := by rw [bne_iff_ne]; omega
      have hr : D.reps[k]? = some zeroR := by rw [hR.out, get_set_ne (Ne.symm h1)]; exact get_repl hlt
      have hn : D.pins[k]? = some 0 := by rw [hP.out, get_set_ne (Ne.symm h1), get_set_ne (Ne.symm h1)]; exact get_repl hlt
      have Hr := Lib.hid hr
      have Hn := Lib.hid hn
      clear hr hn
      go_wp2_with fail
      refine (desk_has (i := k) (r := zeroR) hs Hr.out).mono ?_
      rintro e w6 ⟨rfl, rfl⟩
      unfold zeroR
      go_wp2_with fail
      refine (desk_pin (i := k) (n := 0) hs hA0 (by omega) Hn.out).mono ?_
      rintro e w7 ⟨rfl, h7, k7⟩
      go_wp2_with fail
      go_roundw
      case rel => exact ⟨k + 1, tick D, by omega, by go_num, hP, hR, by simp only [tick]; omega, by simp only [tick]; push_cast; omega, h7, hkp.trans k7⟩
      case measure => simp [intOf]; omega
  · have e0 : ((p : Int) == (q : Int)) = false := by rw [beq_eq_false_iff_ne]; omega
    go_wp2_with fail
    go_loopw [17] (fun i wr => ∃ (k : Nat) (D : DeskD), k ≤ c ∧ i = .int .i64 k ∧ Hid (D.pins = ((List.replicate c (0 : Int)).set p n).set q m) ∧ Hid (D.reps = (List.replicate c zeroR).set p ⟨0, 0, 1, none, 0, 0, none, 0, 0, true⟩) ∧ 0 ≤ D.acc ∧ D.acc ≤ 3 + k ∧ Sat wr (deskP d D :: [oldH W]) ∧ Kp W wr) (fun i _ => c - (intOf i).toNat)
    case atStart => exact ⟨0, D, by omega, rfl, hP, hR, hA0, by omega, h6, k15⟩
    case round =>
      clear hP hR hA0 hA1 h6 k15 D
      obtain ⟨k, D, hk, rfl, hP, hR, hA0, hA1, hs, hkp⟩ := hrel
      by_cases hlt : k < c
      case neg =>
        obtain rfl : k = c := by omega
        clear hlt
        go_wp2_with fail
        refine (desk_pin (i := p) (n := n) hs hA0 (by omega) (by rw [hP.out]; rw [get_set_ne (Ne.symm hpq)]; exact get_set_self (by simp; omega))).mono ?_
        rintro e w6 ⟨rfl, h6, k6⟩
        go_wp2_with fail
        refine (desk_pin (i := q) (n := m) h6 (by simp only [tick]; omega) (by simp only [tick]; omega) (by simp only [tick]; rw [hP.out]; exact get_set_self (by simp; omega))).mono ?_
        rintro e w7 ⟨rfl, h7, k7⟩
        go_wp2_with fail
        go_ret
        exact ⟨rfl, h7.tail.below (hkp.trans (k6.trans k7))⟩
      by_cases h1 : k = p
      · subst h1
        have e1 : ((k : Int) == (k : Int)) = true := by simp
        have e2 : ((k : Int) != (k : Int)) = false := by simp
        go_wp2_with fail
        refine (desk_has (i := k) (r := ⟨0, 0, 1, none, 0, 0, none, 0, 0, true⟩) hs (by rw [hR.out]; exact get_set_self (by simp; omega))).mono ?_
        rintro e w6 ⟨rfl, rfl⟩
        go_wp2_with fail
        go_roundw
        case rel => exact ⟨k + 1, D, by omega, by go_num, hP, hR, hA0, by push_cast; omega, hs, hkp⟩
        case measure => simp [intOf]; omega
      have e1 : ((k : Int) == (p : Int)) = false := by rw [beq_eq_false_iff_ne]; omega
      have e2 : ((k : Int) != (p : Int)) = true := by rw [bne_iff_ne]; omega
      have hr : D.reps[k]? = some zeroR := by rw [hR.out, get_set_ne (Ne.symm h1)]; exact get_repl hlt
      by_cases h2 : k = q
      · subst h2
        have e3 : ((k : Int) != (k : Int)) = false := by simp
        have Hr := Lib.hid hr
        clear hr h1
        go_wp2_with fail
        refine (desk_has (i := k) (r := zeroR) hs Hr.out).mono ?_
        rintro e w6 ⟨rfl, rfl⟩
        unfold zeroR
        go_wp2_with fail
        go_roundw
        case rel => exact ⟨k + 1, D, by omega, by go_num, hP, hR, hA0, by push_cast; omega, hs, hkp⟩
        case measure => simp [intOf]; omega
      have e3 : ((k : Int) != (q : Int)) = true := by rw [bne_iff_ne]; omega
      have hn : D.pins[k]? = some 0 := by rw [hP.out, get_set_ne (Ne.symm h2), get_set_ne (Ne.symm h1)]; exact get_repl hlt
      have Hr := Lib.hid hr
      have Hn := Lib.hid hn
      clear hr hn
      go_wp2_with fail
      refine (desk_has (i := k) (r := zeroR) hs Hr.out).mono ?_
      rintro e w6 ⟨rfl, rfl⟩
      unfold zeroR
      go_wp2_with fail
      refine (desk_pin (i := k) (n := 0) hs hA0 (by omega) Hn.out).mono ?_
      rintro e w7 ⟨rfl, h7, k7⟩
      go_wp2_with fail
      go_roundw
      case rel => exact ⟨k + 1, tick D, by omega, by go_num, hP, hR, by simp only [tick]; omega, by simp only [tick]; push_cast; omega, h7, hkp.trans k7⟩
      case measure => simp [intOf]; omega

end Go.Proofs.Ytkcgbenhnhbhhaa

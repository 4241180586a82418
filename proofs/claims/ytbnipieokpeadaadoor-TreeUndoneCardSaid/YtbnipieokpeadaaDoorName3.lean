import Derived.Test.YtbnipieokpeadaaDoorName2
namespace Go.Proofs.YtbnipieokpeadaaDoor
open Go Go.RowKit
set_option linter.unusedVariables false
set_option linter.unusedSimpArgs false

theorem byte_at (s : ByteArray) (k : Nat) (h : k < s.size) : s.data.toList[k]? = some (s.get! k) := by
  have h1 : k < s.data.toList.length := by rw [Array.length_toList]; exact h
  rw [List.getElem?_eq_getElem h1]
  congr 1
  rw [Array.getElem_toList]
  have := Go.get_at s k h
  rw [Nat.add_zero] at this
  rw [this]
  rfl
theorem good_high {b : UInt8} (h : 128 ≤ b.toNat) : goodB b = true := by
  unfold goodB
  simp
  omega
theorem good_low {b : UInt8} (c : Int) (hc : c = (b.toNat : Int)) : signOk c = goodB b := by
  subst hc
  unfold signOk goodB
  by_cases h1 : 32 ≤ b.toNat <;> by_cases h2 : b.toNat = 127 <;> by_cases h3 : b.toNat = 47 <;> simp [h1, h2, h3] <;> omega

/-- What one round of the range tells. -/
theorem rune_facts (s : ByteArray) (pos : Nat) (h : pos < s.size) (hb : ∀ k, k < pos → ∀ b, s.data.toList[k]? = some b → goodB b = true) :
    pos < pos + (Utf8.decode s pos).2 ∧ pos + (Utf8.decode s pos).2 ≤ s.size ∧ (signOk (Utf8.decode s pos).1 = false → s.data.toList.all goodB = false) ∧
    (signOk (Utf8.decode s pos).1 = true → ∀ k, k < pos + (Utf8.decode s pos).2 → ∀ b, s.data.toList[k]? = some b → goodB b = true) := by
  obtain ⟨h1, h2, h3⟩ := decode_width s pos h
  have hsame : signOk (Utf8.decode s pos).1 = goodB (s.get! pos) := by
    by_cases hlow : (s.get! pos).toNat < 128
    · have hd : Utf8.decode s pos = ((s.get! pos).toNat, 1) := by
        have ha := Go.get_at s pos h
        rw [Nat.add_zero] at ha
        rw [decode_ascii s pos h (by rw [← ha]; exact hlow), ← ha]
      rw [hd]
      exact good_low _ rfl
    · have ha := Go.get_at s pos h
      rw [Nat.add_zero] at ha
      have hd := decode_high s pos h (by rw [← ha]; omega)
      rw [good_high (by omega)]
      unfold signOk
      simp
      omega
  refine ⟨by omega, h2, fun hf => ?_, fun ht k hk b hkb => ?_⟩
  · rw [hsame] at hf
    cases hall : s.data.toList.all goodB with
    | false => rfl
    | true =>
      have := List.all_eq_true.1 hall _ (List.mem_of_getElem? (byte_at s pos h))
      rw [hf] at this
      cases this
  · rw [hsame] at ht
    by_cases h4 : k < pos
    · exact hb k h4 b hkb
    · have h5 : k < s.size := by omega
      rw [byte_at s k h5] at hkb
      cases hkb
      by_cases h6 : k = pos
      · rw [h6]; exact ht
      · have := h3 (k - pos) (by omega) (by omega)
        rw [show pos + (k - pos) = k by omega] at this
        exact good_high this

set_option maxRecDepth 100000 in
set_option maxHeartbeats 2000000 in
theorem name_right {W w : World} {l : List HProp} (hT : Lib.Utf8Tabs (validS_ren.g 3) (validS_ren.g 4) W) (hs : Sat w (oldH W :: l)) (s : ByteArray) (hz : s.size ≤ 1000) :
    Calls Tryd.prog 57 #[.string s] w fun e w' => e = .returned (.bool (nameOk s)) ∧ Sat w' (oldH W :: l) ∧ Kp w w' := by
  have HT := Lib.hid hT
  obtain ⟨ANS, hANS⟩ : ∃ ANS, nameOk s = ANS := ⟨_, rfl⟩
  rw [hANS]
  have HA := Lib.hid hANS
  clear hT hANS
  go_enter Tryd.func57, Tryd.ntmps57
  go_wp2_with fail
  go_loopw [4] (fun cv wr => ∃ pos, wr = w.iter s pos ∧ pos ≤ s.size ∧ Hid (∀ k, k < pos → ∀ b, s.data.toList[k]? = some b → goodB b = true)) (fun _ wr => s.size - wr.iterPos w.heap.size)
  case atStart => exact ⟨0, rfl, Nat.zero_le _, Lib.hid (fun k hk => absurd hk (Nat.not_lt_zero _))⟩
  case round =>
    obtain ⟨pos, rfl, hps, hI⟩ := hrel
    by_cases hlt : pos < s.size
    case neg =>
      have hall : s.data.toList.all goodB = true := by
        apply List.all_eq_true.2
        intro b hb
        obtain ⟨k, hk⟩ := List.getElem?_of_mem hb
        have h1 := (List.getElem?_eq_some_iff.1 hk).1
        rw [Array.length_toList] at h1
        exact hI.out k (by have : k < s.size := h1; omega) b hk
      have hne := fun ty => run_next_end (P := Tryd.prog) w s pos ty hlt
      have hv := valid_string HT.out (hs.alloc' (.stringIter s pos)) s hz
      have HV := Lib.hid hv
      have hok : nameOk s = (decide (1 ≤ s.size ∧ s.size ≤ 20) && Lib.validD s.data.toList) := by unfold nameOk; rw [hall]; rfl
      rw [HA.out] at hok
      have HOK := Lib.hid hok
      clear hv hok hall hI
      by_cases z1 : 1 ≤ s.size
      · have z1' : (1 : Int) ≤ (s.size : Int) := by omega
        by_cases z2 : s.size ≤ 20
        · have z2' : (s.size : Int) ≤ 20 := by omega
          have hd : decide (1 ≤ s.size ∧ s.size ≤ 20) = true := by simp [z1, z2]
          have HOK2 := Lib.hid (show ANS = Lib.validD s.data.toList by rw [HOK.out, hd]; rfl)
          clear hd
          go_wp2_with fail
          refine HV.out.mono ?_
          rintro e w1 ⟨rfl, h1, k1⟩
          go_wp2_with fail
          obtain rfl := HOK2.out
          go_ret
          exact ⟨rfl, h1, ((Kp.refl w).alloc _).trans k1⟩
        · have z2' : ¬ (s.size : Int) ≤ 20 := by omega
          have hd : decide (1 ≤ s.size ∧ s.size ≤ 20) = false := by simp [z2]
          have HOK2 := Lib.hid (show ANS = false by rw [HOK.out, hd]; rfl)
          clear hd
          go_wp2_with fail
          obtain rfl := HOK2.out
          go_ret
          exact ⟨rfl, hs.alloc' _, (Kp.refl w).alloc _⟩
      · have z1' : ¬ (1 : Int) ≤ (s.size : Int) := by omega
        have hd : decide (1 ≤ s.size ∧ s.size ≤ 20) = false := by simp [z1]
        have HOK2 := Lib.hid (show ANS = false by rw [HOK.out, hd]; rfl)
        clear hd
        go_wp2_with fail
        obtain rfl := HOK2.out
        go_ret
        exact ⟨rfl, hs.alloc' _, (Kp.refl w).alloc _⟩
    obtain ⟨f1, f2, f3, f4⟩ := rune_facts s pos hlt hI.out
    have hna := fun ty => run_next_any (P := Tryd.prog) w s pos ty hlt
    generalize (Utf8.decode s pos).2 = wd at f1 f2 f4 hna
    generalize (Utf8.decode s pos).1 = c at f3 f4 hna
    have hsg := fun W => name_sign (w := W) (c : Int)
    have F3 := Lib.hid f3
    have F4 := Lib.hid f4
    clear f3 f4 hI
    go_wp2_with fail
    refine (hsg _).mono ?_
    rintro e w1 ⟨rfl, rfl⟩
    cases hsc : signOk c with
    | true =>
      have HI2 := Lib.hid (F4.out hsc)
      clear hsc hna hsg
      go_wp2_with fail
      go_roundw
      case rel => exact ⟨pos + wd, rfl, f2, HI2⟩
      case measure =>
        rw [World.iterPos_iter, World.iterPos_iter]
        omega
    | false =>
      have hok : nameOk s = false := by unfold nameOk; rw [F3.out hsc]; rfl
      rw [HA.out] at hok
      have HOK := Lib.hid hok
      clear hsc hna hsg hok
      go_wp2_with fail
      obtain rfl := HOK.out
      go_ret
      exact ⟨rfl, hs.alloc' _, (Kp.refl w).alloc _⟩

end Go.Proofs.YtbnipieokpeadaaDoor

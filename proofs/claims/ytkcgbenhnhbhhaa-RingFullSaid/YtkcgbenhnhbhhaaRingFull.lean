import Derived.Test.YtkcgbenhnhbhhaaRing4
import Derived.Test.YtkcgbenhnhbhhaaLaw
namespace Go.Proofs.Ytkcgbenhnhbhhaa
open Go Go.RowKit
set_option linter.unusedVariables false

def upto (k : Nat) : List Int := (List.range k).map Int.ofNat
theorem upto_succ (k : Nat) : upto (k + 1) = upto k ++ [(k : Int)] := by simp [upto, List.range_succ]
theorem upto_len (k : Nat) : (upto k).length = k := by simp [upto]

theorem upto_cons (k : Nat) (h : 1 ≤ k) : ∃ ys, upto k = 0 :: ys ∧ ys.length + 1 = k := by
  obtain ⟨m, rfl⟩ : ∃ m, k = m + 1 := ⟨k - 1, by omega⟩
  refine ⟨(List.range' 1 m).map Int.ofNat, ?_, by simp⟩
  simp [upto, List.range_eq_range', List.range'_succ]

set_option maxHeartbeats 1000000 in
theorem ringFull_walk (size x : Int) (W : World) (hz : 0 ≤ size) (hz' : size < 256) (hx : (Lit.int .i64 x).wf = true) : LawCalls Try.prog 6 #[.int .u8 size, .int .i64 x] W := by
  have H0 := Sat.start W
  go_enter Try.func6, Try.ntmps6
  go_wp2_with fail
  refine (ring_awake H0).mono ?_
  rintro e w1 ⟨rfl, h1, k1⟩
  go_wp2_with fail
  have hb : 1 ≤ 1 + size % 60 ∧ 1 + size % 60 ≤ 60 := by omega
  generalize 1 + size % 60 = m at hb ⊢
  obtain ⟨n, rfl⟩ := Int.eq_ofNat_of_zero_le (show 0 ≤ m by omega)
  obtain ⟨b1, b2⟩ := hb
  refine (ringI_new n w1 _ h1 (by omega) (by omega)).mono ?_
  rintro e w2 ⟨r, rfl, h2, k2⟩
  have k12 := k1.trans k2
  go_wp2_with fail
  go_loopw [8] (fun i wr => ∃ k : Nat, k ≤ n ∧ i = .int .i64 k ∧ Sat wr (ringI r n (upto k) false :: [oldH W]) ∧ Kp W wr) (fun i _ => n - (intOf i).toNat)
  case atStart => exact ⟨0, by omega, rfl, h2, k12⟩
  case round =>
    obtain ⟨k, hk, rfl, hsr, hkr⟩ := hrel
    by_cases hlt : k < n
    · go_wp2_with fail
      refine (ringI_put hsr (by rw [upto_len]; omega) (by omega)).mono ?_
      rintro e w3 ⟨rfl, h3, k3⟩
      rw [← upto_succ] at h3
      have k03 := hkr.trans k3
      go_wp2_with fail
      go_roundw
      case rel => exact ⟨k + 1, by omega, by go_num, h3, k03⟩
      case measure => simp [intOf]; omega
    · obtain rfl : k = n := by omega
      clear hlt
      go_wp2_with fail
      refine (ringI_put_full hsr (by rw [upto_len]; omega)).mono ?_
      rintro e w3 ⟨rfl, h3, k3⟩
      go_wp2_with fail
      obtain ⟨ys, hys, hl⟩ := upto_cons k (by omega)
      rw [hys] at h3
      have hl1 : ys.length + 1 ≤ k := by omega
      have hl2 : k ≤ ys.length + 1 := by omega
      clear hl hys
      refine (ringI_take h3 (by omega)).mono ?_
      rintro e w4 ⟨rfl, h4, k4⟩
      go_wp2_with fail
      refine (ringI_put h4 (by omega) (by omega)).mono ?_
      rintro e w5 ⟨rfl, h5, k5⟩
      go_wp2_with fail
      refine (ringI_put_full h5 (by simp; omega)).mono ?_
      rintro e w6 ⟨rfl, h6, k6⟩
      go_wp2_with fail
      refine (ringI_len h6).mono ?_
      rintro e w7 ⟨rfl, rfl⟩
      have hq : ((ys.length : Int) + 1 == (k : Int)) = true := by rw [beq_iff_eq]; omega
      simp only [List.length_append, List.length_cons, List.length_nil]
      go_wp2_with fail
      go_ret
      exact ⟨rfl, h6.tail.below (hkr.trans (k3.trans (k4.trans (k5.trans k6))))⟩

end Go.Proofs.Ytkcgbenhnhbhhaa

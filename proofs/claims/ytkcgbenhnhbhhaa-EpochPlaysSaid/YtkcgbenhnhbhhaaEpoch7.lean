import Derived.Test.YtkcgbenhnhbhhaaEpoch5
import Derived.IntWalk
namespace Go.Proofs.Ytkcgbenhnhbhhaa
open Go Go.RowKit
set_option linter.unusedVariables false
set_option linter.unusedSimpArgs false

def none10 : Int := 4611686018427387904
def leastL (acc : Int) : List Int → Int
  | [] => acc
  | p :: ps => leastL (if 0 < p then min acc (p - 1) else acc) ps
def leastOf (ps : List Int) : Int := leastL none10 ps
theorem leastL_snoc : ∀ (ps : List Int) (acc p : Int), leastL acc (ps ++ [p]) = (if 0 < p then min (leastL acc ps) (p - 1) else leastL acc ps)
  | [], acc, p => rfl
  | q :: ps, acc, p => by rw [List.cons_append, leastL, leastL_snoc ps]; rfl

theorem epoch_least {w : World} {l : List HProp} {ao : Option Addr} {n cap : Nat} {ps : List Int} (hs : Sat w l) (ha : ArgRow w fI ao n cap ps) (hp : ∀ p ∈ ps, p < 9223372036854775808) :
    Calls Try.prog 46 #[.slice ao n cap] w fun e w' => e = .returned (.int .i64 (leastOf ps)) ∧ w' = w := by
  have hle := ha.le
  have hsm := ha.small
  unfold maxLen at hsm
  have hlen := ha.len
  have HL := Lib.hid hlen
  have HP := Lib.hid hp
  clear hlen hp
  go_enter Try.func46, Try.ntmps46
  go_wp2_with fail
  go_loopw [3, 8] (fun a i wr => ∃ (k : Nat) (m : Int), k ≤ n ∧ i = .int .i64 k ∧ a = .int .i64 m ∧ Hid (m = leastL none10 (ps.take k)) ∧ wr = w) (fun _ i _ => n - (intOf i).toNat)
  case atStart => exact ⟨0, none10, by omega, rfl, rfl, rfl, rfl⟩
  case round =>
    obtain ⟨k, m, hk, rfl, rfl, hm, rfl⟩ := hrel
    by_cases hlt : k < n
    · obtain ⟨b, off, rfl, hc⟩ := ha.cells (by omega)
      obtain ⟨x, hx⟩ : ∃ x, ps[k]? = some x := ⟨ps[k]'(by rw [HL.out]; exact hlt), by simp⟩
      have hx2 := HP.out x (List.mem_of_getElem? hx)
      have c1 := hc k (.int .i64 x) (by rw [get_fI, hx]; rfl)
      have i0 : (0 : Int) ≤ (k : Int) := by omega
      have i1 : (k : Int) < (n : Int) := by omega
      have hnx : Hid (ps.take (k + 1) = ps.take k ++ [x]) := take_snoc' hx
      clear hc hx
      by_cases hpos : 0 < x
      · have hw : IntKind.i64.wrap (x - 1) = x - 1 := IntWalk.i64_in _ (by omega)
        by_cases hmin : m ≤ x - 1
        · have hm2 : Hid (m = leastL none10 (ps.take (k + 1))) := by
            show _ = _
            rw [hnx.out, leastL_snoc, ← hm.out, if_pos hpos, Int.min_eq_left hmin]
          go_wp2_with fail
          go_roundw
          case rel => exact ⟨k + 1, m, by omega, by go_num, rfl, hm2, trivial⟩
          case measure => simp [intOf]; omega
        · have hm2 : Hid (x - 1 = leastL none10 (ps.take (k + 1))) := by
            show _ = _
            rw [hnx.out, leastL_snoc, ← hm.out, if_pos hpos, Int.min_eq_right (by omega)]
          have hmin' : x - 1 < m := by omega
          clear hmin
          go_wp2_with fail
          go_roundw
          case rel => exact ⟨k + 1, x - 1, by omega, by go_num, rfl, hm2, trivial⟩
          case measure => simp [intOf]; omega
      · have hm2 : Hid (m = leastL none10 (ps.take (k + 1))) := by
          show _ = _
          rw [hnx.out, leastL_snoc, ← hm.out, if_neg hpos]
        have hpos' : x ≤ 0 := by omega
        clear hpos
        go_wp2_with fail
        go_roundw
        case rel => exact ⟨k + 1, m, by omega, by go_num, rfl, hm2, trivial⟩
        case measure => simp [intOf]; omega
    · obtain rfl : k = n := by omega
      have hm2 := hm.out
      rw [List.take_of_length_le (by rw [HL.out]; omega)] at hm2
      have HM := Lib.hid hm2
      clear hm2
      go_wp2_with fail
      go_ret
      exact ⟨by rw [HM.out]; rfl, rfl⟩

/-- Two lists of handles that are one. -/
theorem handles_same {w : World} {ao bo : Option Addr} {n m cap cap' : Nat} {xs ys : List HanD} (ha : ArgRow w fH ao n cap xs) (hb : ArgRow w fH bo m cap' ys) (he : xs = ys) :
    Calls Try.prog 42 #[.slice ao n cap, .slice bo m cap'] w fun e w' => e = .returned (.bool true) ∧ ∃ k, w' = w.drewN k := by
  subst he
  obtain rfl : n = m := ha.len.symm.trans hb.len
  have hle := ha.le
  have hsm := ha.small
  unfold maxLen at hsm
  have HL := Lib.hid ha.len
  go_enter Try.func42, Try.ntmps42
  go_wp2_with fail
  go_loopw [5] (fun i wr => ∃ k q : Nat, k ≤ n ∧ i = .int .i64 k ∧ wr = w.drewN q) (fun i _ => n - (intOf i).toNat)
  case atStart => exact ⟨0, 0, by omega, rfl, rfl⟩
  case round =>
    obtain ⟨k, q, hk, rfl, rfl⟩ := hrel
    by_cases hlt : k < n
    · obtain ⟨b, off, rfl, hc⟩ := ha.cells (by omega)
      obtain ⟨b', off', rfl, hc'⟩ := hb.cells (by omega)
      obtain ⟨x, hx⟩ : ∃ x, xs[k]? = some x := ⟨xs[k]'(by rw [HL.out]; exact hlt), by simp⟩
      have c1 := hc (k * 2 + 0) (.int .i64 x.slot) (by rw [get_flat len_fH xs k 0 x hx (by omega)]; rfl)
      have c2 := hc (k * 2 + 1) (.int .i64 x.gen) (by rw [get_flat len_fH xs k 1 x hx (by omega)]; rfl)
      have c3 := hc' (k * 2 + 0) (.int .i64 x.slot) (by rw [get_flat len_fH xs k 0 x hx (by omega)]; rfl)
      have c4 := hc' (k * 2 + 1) (.int .i64 x.gen) (by rw [get_flat len_fH xs k 1 x hx (by omega)]; rfl)
      rw [Nat.add_zero] at c1 c3
      rw [← Nat.add_assoc] at c2 c4
      have i0 : (0 : Int) ≤ (k : Int) := by omega
      have i1 : (k : Int) < (n : Int) := by omega
      clear hc hc' hx
      go_wp2_with fail
      go_quiet (fail)
      go_wp2_with fail
      go_roundw
      case rel => exact ⟨k + 1, _, by omega, by go_num, rfl⟩
      case measure => simp [intOf]; omega
    · obtain rfl : k = n := by omega
      go_wp2_with fail
      go_ret
      exact ⟨rfl, q, rfl⟩

end Go.Proofs.Ytkcgbenhnhbhhaa

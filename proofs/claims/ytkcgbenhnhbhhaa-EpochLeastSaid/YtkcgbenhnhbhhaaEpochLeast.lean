import Derived.Test.YtkcgbenhnhbhhaaEpoch8
namespace Go.Proofs.Ytkcgbenhnhbhhaa
open Go Go.RowKit
set_option linter.unusedVariables false
set_option linter.unusedSimpArgs false

theorem leastL_le : ∀ (ps : List Int) (acc : Int), leastL acc ps ≤ acc
  | [], acc => Int.le_refl _
  | p :: ps, acc => by
    rw [leastL]; refine Int.le_trans (leastL_le ps _) ?_
    split
    · exact Int.min_le_left _ _
    · exact Int.le_refl _
theorem leastL_le_mem : ∀ (ps : List Int) (acc p : Int), p ∈ ps → 0 < p → leastL acc ps ≤ p - 1
  | q :: ps, acc, p, hm, hp => by
    rw [leastL]
    rcases List.mem_cons.1 hm with rfl | hm
    · rw [if_pos hp]; exact Int.le_trans (leastL_le ps _) (Int.min_le_right _ _)
    · exact leastL_le_mem ps _ p hm hp
theorem leastL_is : ∀ (ps : List Int) (acc : Int), leastL acc ps = acc ∨ ∃ p ∈ ps, 0 < p ∧ leastL acc ps = p - 1
  | [], acc => .inl rfl
  | q :: ps, acc => by
    rw [leastL]
    rcases leastL_is ps (if 0 < q then min acc (q - 1) else acc) with h | ⟨p, hm, hp, h⟩
    · rw [h]
      split
      · next hq =>
        rcases Int.le_total acc (q - 1) with hc | hc
        · exact .inl (Int.min_eq_left hc)
        · exact .inr ⟨q, List.mem_cons_self, hq, Int.min_eq_right hc⟩
      · exact .inl rfl
    · exact .inr ⟨p, List.mem_cons_of_mem _ hm, hp, h⟩

/-- What the second loop has: whether a pin lies in what was seen; whether one is it. -/
def someOf (ps : List Int) : Bool := ps.any fun p => decide (0 < p)
def isOf (n : Int) (ps : List Int) : Bool := ps.any fun p => decide (0 < p) && decide (p - 1 = n)

theorem wf_i64 {n : Int} (h : (Lit.int .i64 n).wf = true) : -9223372036854775808 ≤ n ∧ n < 9223372036854775808 := by
  have h0 : IntKind.i64.min = -9223372036854775808 := rfl
  have h1 : IntKind.i64.max = 9223372036854775807 := rfl
  simp only [Lit.wf, h0, h1, Bool.and_eq_true, decide_eq_true_eq] at h
  omega
theorem someOf_snoc (ps : List Int) (p : Int) : someOf (ps ++ [p]) = (someOf ps || decide (0 < p)) := by simp [someOf]
theorem isOf_snoc (n : Int) (ps : List Int) (p : Int) : isOf n (ps ++ [p]) = (isOf n ps || (decide (0 < p) && decide (p - 1 = n))) := by simp [isOf]

set_option maxRecDepth 100000 in
set_option maxHeartbeats 1000000 in
theorem epochLeast_walk (ao : Option Addr) (n cap : Nat) (xs : List Int) (W : World) (hr : ArgRow W fI ao n cap xs) (hw : ∀ x ∈ xs, (Lit.int .i64 x).wf = true) :
    LawCalls Try.prog 9 #[.slice ao n cap] W := by
  have H0 := Sat.start W
  have hle := hr.le
  have hsm := hr.small
  unfold maxLen at hsm
  have HL := Lib.hid hr.len
  have HW : Hid (∀ x ∈ xs, x < 9223372036854775808) := by
    intro x hx
    have := hw x hx
    exact (wf_i64 this).2
  clear hw
  go_enter Try.func9, Try.ntmps9
  go_wp2_with fail
  refine (epoch_awake H0).mono ?_
  rintro e w1 ⟨rfl, h1, k1⟩
  have hb : Below W.heap.size W w1 := h1.below k1
  have ha := hr.old h1
  clear hr H0 k1
  by_cases hmost : 40 < n
  · have hmost' : (40 : Int) < (n : Int) := by omega
    clear hmost
    go_wp2_with fail
    go_ret
    exact ⟨rfl, hb⟩
  have hmost' : (n : Int) ≤ 40 := by omega
  clear hmost
  go_wp2_with fail
  go_loopw [4] (fun i wr => ∃ (k : Nat), k ≤ n ∧ i = .int .i64 k ∧ w1 = wr) (fun i _ => n - (intOf i).toNat)
  case atStart => exact ⟨0, by omega, rfl, rfl⟩
  case round =>
    obtain ⟨k, hk, rfl, rfl⟩ := hrel
    by_cases hlt : k < n
    · obtain ⟨b, off, rfl, hc⟩ := ha.cells (by omega)
      obtain ⟨x, hx⟩ : ∃ x, xs[k]? = some x := ⟨xs[k]'(by rw [HL.out]; exact hlt), by simp⟩
      have c1 := hc k (.int .i64 x) (by rw [get_fI, hx]; rfl)
      have i0 : (0 : Int) ≤ (k : Int) := by omega
      have i1 : (k : Int) < (n : Int) := by omega
      clear hc hx
      by_cases hbig : (4611686018427387904 : Int) < x
      · go_wp2_with fail
        go_ret
        exact ⟨rfl, hb⟩
      · have hbig' : x ≤ 4611686018427387904 := by omega
        clear hbig
        go_wp2_with fail
        go_roundw
        case rel => exact ⟨k + 1, by omega, by go_num, trivial⟩
        case measure => simp [intOf]; omega
    obtain rfl : n = k := by omega
    go_wp2_with fail
    refine (epoch_least h1 ha HW.out).mono ?_
    rintro e w2 ⟨rfl, rfl⟩
    obtain ⟨m, hm⟩ : ∃ m, m = leastOf xs := ⟨_, rfl⟩
    rw [← hm]
    have hm1 : m ≤ 4611686018427387904 := by rw [hm]; exact leastL_le _ _
    have hm2 : Hid (∀ x ∈ xs, 0 < x → m ≤ x - 1) := by rw [hm]; exact fun x hx h => leastL_le_mem _ _ x hx h
    have hm3 : Hid (m = 4611686018427387904 ∨ isOf m xs = true) := by
      show _ ∨ _
      rcases leastL_is xs none10 with h | ⟨p, h, hp, he⟩
      · left; rw [hm]; exact h
      · right
        unfold isOf
        rw [List.any_eq_true]
        exact ⟨p, h, by rw [hm]; unfold leastOf; simp [hp, he]⟩
    have hm4 : Hid (isOf m xs = true → someOf xs = true) := by
      intro h
      unfold isOf at h
      unfold someOf
      rw [List.any_eq_true] at h ⊢
      obtain ⟨p, hp, h2⟩ := h
      refine ⟨p, hp, ?_⟩
      simp at h2
      simpa using h2.1
    clear hm hlt
    go_wp2_with fail
    go_loopw [6, 7, 8] (fun a c i wr => ∃ (k : Nat) (s t : Bool), k ≤ n ∧ i = .int .i64 k ∧ a = .bool s ∧ c = .bool t ∧ Hid (s = someOf (xs.take k)) ∧ Hid (t = isOf m (xs.take k)) ∧ w2 = wr) (fun _ _ i _ => n - (intOf i).toNat)
    case atStart => exact ⟨0, false, false, by omega, rfl, rfl, rfl, rfl, rfl, rfl⟩
    case round =>
      obtain ⟨k, s, t, hk, rfl, rfl, rfl, hs, ht, rfl⟩ := hrel
      by_cases hlt : k < n
      · obtain ⟨b, off, rfl, hc⟩ := ha.cells (by omega)
        obtain ⟨x, hx⟩ : ∃ x, xs[k]? = some x := ⟨xs[k]'(by rw [HL.out]; exact hlt), by simp⟩
        have c1 := hc k (.int .i64 x) (by rw [get_fI, hx]; rfl)
        have i0 : (0 : Int) ≤ (k : Int) := by omega
        have i1 : (k : Int) < (n : Int) := by omega
        have hx2 := HW.out x (List.mem_of_getElem? hx)
        have hxm := hm2.out x (List.mem_of_getElem? hx)
        have hnx : Hid (xs.take (k + 1) = xs.take k ++ [x]) := take_snoc' hx
        clear hc hx
        by_cases hpos : 0 < x
        · have hge := hxm hpos
          have hwr : IntKind.i64.wrap (x - 1) = x - 1 := IntWalk.i64_in _ (by omega)
          have hs2 : Hid (true = someOf (xs.take (k + 1))) := by
            show _ = _
            rw [hnx.out, someOf_snoc]; simp [hpos]
          clear hxm
          by_cases heq : x - 1 = m
          · have ht2 : Hid (true = isOf m (xs.take (k + 1))) := by
              show _ = _
              rw [hnx.out, isOf_snoc]; simp [hpos, heq]
            have hbe : (x - 1 == m) = true := by simpa using heq
            clear heq
            go_wp2_with fail
            go_roundw
            case rel => exact ⟨k + 1, true, true, by omega, by go_num, rfl, rfl, hs2, ht2, trivial⟩
            case measure => simp [intOf]; omega
          · have ht2 : Hid (t = isOf m (xs.take (k + 1))) := by
              show _ = _
              rw [hnx.out, isOf_snoc, ← ht.out]; simp [heq]
            have hbe : (x - 1 == m) = false := by simpa using heq
            clear heq
            go_wp2_with fail
            go_roundw
            case rel => exact ⟨k + 1, true, t, by omega, by go_num, rfl, rfl, hs2, ht2, trivial⟩
            case measure => simp [intOf]; omega
        · have hs2 : Hid (s = someOf (xs.take (k + 1))) := by
            show _ = _
            rw [hnx.out, someOf_snoc, ← hs.out]; simp [hpos]
          have ht2 : Hid (t = isOf m (xs.take (k + 1))) := by
            show _ = _
            rw [hnx.out, isOf_snoc, ← ht.out]; simp [hpos]
          have hpos' : x ≤ 0 := by omega
          clear hpos hxm
          go_wp2_with fail
          go_roundw
          case rel => exact ⟨k + 1, s, t, by omega, by go_num, rfl, rfl, hs2, ht2, trivial⟩
          case measure => simp [intOf]; omega
      obtain rfl : n = k := by omega
      have hs2 := hs.out
      have ht2 := ht.out
      rw [List.take_of_length_le (by rw [HL.out]; omega)] at hs2 ht2
      by_cases hme : m = 4611686018427387904
      · subst hme
        clear hs2 ht2
        cases s
        all_goals
          go_wp2_with fail
          go_ret
          exact ⟨rfl, hb⟩
      · have e1 : isOf m xs = true := hm3.out.resolve_left hme
        obtain rfl : t = true := ht2.trans e1
        obtain rfl : s = true := hs2.trans (hm4.out e1)
        have hmb : (m == 4611686018427387904) = false := by simpa using hme
        clear hs2 ht2 e1 hme
        go_wp2_with fail
        go_ret
        exact ⟨rfl, hb⟩

end Go.Proofs.Ytkcgbenhnhbhhaa

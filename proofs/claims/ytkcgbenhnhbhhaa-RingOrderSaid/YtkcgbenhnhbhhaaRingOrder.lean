import Derived.Test.YtkcgbenhnhbhhaaRing4
import Derived.Test.YtkcgbenhnhbhhaaInts
namespace Go.Proofs.Ytkcgbenhnhbhhaa
open Go Go.RowKit
set_option linter.unusedVariables false

theorem take_succ_eq {α : Type} {zs : List α} {k : Nat} {x : α} (hx : zs[k]? = some x) : zs.take (k + 1) = zs.take k ++ [x] := by
  rw [List.take_add_one, hx]; rfl

set_option maxRecDepth 100000 in
set_option maxHeartbeats 2000000 in
theorem ringOrder_walk (ao : Option Addr) (n cap : Nat) (zs : List Int) (at_ : Int) (W : World) (ha : ArgRow W fI ao n cap zs) (hwf : ∀ x ∈ zs, (Lit.int .i64 x).wf = true) (hz : 0 ≤ at_) (hz' : at_ < 256) :
    LawCalls Try.prog 5 #[.slice ao n cap, .int .u8 at_] W := by
  have H0 := Sat.start W
  have ha0 := ha
  have ha1 := ha
  obtain ⟨hlen, hle, hsm, hcells⟩ := ha
  unfold maxLen at hsm
  obtain ⟨i0, hi, hz0, hz1, hz2⟩ := info_parts Try.infoInt
  by_cases hbig : 60 < n
  · go_enter Try.func5, Try.ntmps5
    go_wp2_with fail
    refine (ring_awake H0).mono ?_
    rintro e w1 ⟨rfl, h1, k1⟩
    go_wp2_with fail
    go_ret
    exact ⟨rfl, h1.below k1⟩
  have hsmall : n ≤ 60 := by omega
  clear hbig
  go_enter Try.func5, Try.ntmps5
  go_wp2_with fail
  refine (ring_awake H0).mono ?_
  rintro e w1 ⟨rfl, h1, k1⟩
  go_wp2_with fail
  refine (ringI_new 60 w1 _ h1 (by omega) (by omega)).mono ?_
  rintro e w2 ⟨r, rfl, h2, k2⟩
  have k12 := k1.trans k2
  have h3 := (h2.tNil fI 3 1).swap
  go_wp2_with fail
  go_loopw [7, 8] (fun v i wr => ∃ (k : Nat) (out ys : List Int), k ≤ n ∧ i = .int .i64 k ∧ Hid (out ++ ys = zs.take k) ∧ out.length + ys.length ≤ k ∧ Sat wr (ringI r 60 ys false :: rowT fI v 3 1 out :: [oldH W]) ∧ Kp W wr) (fun _ i _ => n - (intOf i).toNat)
  case atStart => exact ⟨0, [], [], by omega, rfl, rfl, by simp, h3, k12⟩
  case round =>
    obtain ⟨k, out, ys, hk, rfl, hys, hl, hs, hkp⟩ := hrel
    obtain ⟨vo, vc, rfl⟩ := (hs.pull 1).tLen
    by_cases hlt : k < n
    case neg =>
      obtain rfl : k = n := by omega
      have hall := hys.out
      rw [List.take_of_length_le (by omega)] at hall
      replace hall := Lib.hid hall
      clear hys ha0 hcells
      go_wp2_with fail
      refine (ringI_close hs).mono ?_
      rintro e w3 ⟨rfl, h3, k3⟩
      have k03 := hkp.trans k3
      go_wp2_with fail
      go_loopw [7] (fun v wr => ∃ (out ys : List Int), Hid (out ++ ys = zs) ∧ out.length + ys.length ≤ k ∧ Sat wr (ringI r 60 ys true :: rowT fI v 3 1 out :: [oldH W]) ∧ Kp W wr) (fun v _ => 61 - lenV v)
      case atStart => exact ⟨out, ys, hall, hl, h3, k03⟩
      case round =>
        clear h3 k03 hs hkp hall
        obtain ⟨out, ys, hall, hl, hs, hkp⟩ := hrel
        obtain ⟨vo, vc, rfl⟩ := (hs.pull 1).tLen
        go_wp2_with fail
        refine (ringI_len hs).mono ?_
        rintro e w4 ⟨rfl, rfl⟩
        cases ys with
        | nil =>
          have hall2 := hall.out
          simp only [List.append_nil] at hall2
          replace hall2 := Lib.hid hall2
          simp only [List.length_nil]
          go_wp2_with fail
          refine (ringI_take_none hs).mono ?_
          rintro e w5 ⟨rfl, rfl⟩
          obtain ⟨vo', vc', hv, har⟩ := (hs.pull 1).argRow
          simp only [Value.slice.injEq, true_and] at hv
          obtain ⟨rfl, rfl⟩ := hv
          go_wp2_with fail
          refine (ints_same har (ha1.old (hs.pull 2)) hall2.out).mono ?_
          rintro e w6 ⟨rfl, q, rfl⟩
          go_wp2_with fail
          go_ret
          exact ⟨rfl, ((hs.drewN q).pull 2).below (hkp.drewN q)⟩
        | cons y ys =>
          simp only [List.length_cons] at hl ⊢
          have e0 : (0 : Int) < (ys.length : Int) + 1 := by omega
          have e1 : (out.length : Int) ≤ 60 := by omega
          push_cast
          go_wp2_with fail
          refine (ringI_take hs (by omega)).mono ?_
          rintro e w5 ⟨rfl, h5, k5⟩
          go_wp2_with (at_builtin; refine wpList_append_lit rfl (.tmp 76) (.tmp 78) 22 rfl 3 i0 (.int .i64 0) 1 8 Try.underlying22 hi hz0 hz1 hz2 rfl (by decide) _ _ _ w5.heap.size _ _ _ rfl (Sat.pull 2 (h5.alloc _)) 1 1 rfl rfl rfl ?c3 ?c4 ?c5)
          case c3 => unfold maxLen; omega
          case c4 => omega
          case c5 =>
            intro v' w6 hs1 hk6
            have h6 := ((Sat.tSnoc (f := fI) (x := y) hs1 rfl).pull 1).tail.swap
            have k6 := hkp.trans (k5.trans (((Kp.refl w5).alloc _).trans hk6))
            go_wp2_with fail
            go_roundw
            case rel => exact ⟨out ++ [y], ys, by rw [List.append_assoc]; exact hall.out, by simp; omega, h6, k6⟩
            case measure => rw [hs1.rowLen]; simp only [lenV]; omega
    obtain ⟨b, off, rfl, hcell⟩ := hcells (by omega)
    obtain ⟨x, hx⟩ : ∃ x, zs[k]? = some x := ⟨zs[k]'(by omega), by simp⟩
    have hcx := hcell k (.int .i64 x) (by rw [get_fI, hx]; rfl)
    have hcw := (hs.pull 2).oldCell hcx
    have j0 : (0 : Int) ≤ (k : Int) := by omega
    have j1 : (k : Int) < (n : Int) := by omega
    have hnext := take_succ_eq hx
    rw [← hys.out, List.append_assoc] at hnext
    have hys1 := Lib.hid hnext.symm
    clear hcells hcell hx hnext
    go_wp2_with fail
    refine (ringI_put hs (by omega) (by omega)).mono ?_
    rintro e w3 ⟨rfl, h3, k3⟩
    have k03 := hkp.trans k3
    go_wp2_with fail
    · obtain ⟨y, ys', hy⟩ : ∃ y ys', ys ++ [x] = y :: ys' := by cases ys <;> simp
      have hyl : ys.length ≤ ys'.length := by have := congrArg List.length hy; simp at this; omega
      have hyl2 : ys'.length ≤ ys.length := by have := congrArg List.length hy; simp at this; omega
      have hys2 := hys1.out
      rw [hy] at h3 hys2
      replace hys2 := Lib.hid hys2
      clear hy hys1
      refine (ringI_take h3 (by omega)).mono ?_
      rintro e w4 ⟨rfl, h4, k4⟩
      go_wp2_with (at_builtin; refine wpList_append_lit rfl (.tmp 55) (.tmp 57) 22 rfl 3 i0 (.int .i64 0) 1 8 Try.underlying22 hi hz0 hz1 hz2 rfl (by decide) _ _ _ w4.heap.size _ _ _ rfl (Sat.pull 2 (h4.alloc _)) 1 1 rfl rfl rfl ?c3 ?c4 ?c5)
      case c3 => unfold maxLen; omega
      case c4 => omega
      case c5 =>
        intro v' w5 hs1 hk5
        have h6 := ((Sat.tSnoc (f := fI) (x := y) hs1 rfl).pull 1).tail.swap
        have k6 := k03.trans (k4.trans (((Kp.refl w4).alloc _).trans hk5))
        go_wp2_with fail
        go_roundw
        case rel => exact ⟨k + 1, out ++ [y], ys', by omega, by go_num, by rw [List.append_assoc]; exact hys2.out, by simp; omega, h6, k6⟩
        case measure => simp [intOf]; omega
    all_goals
      go_roundw
      case rel => exact ⟨k + 1, out, ys ++ [x], by omega, by go_num, hys1, by simp; omega, h3, k03⟩
      case measure => simp [intOf]; omega

end Go.Proofs.Ytkcgbenhnhbhhaa

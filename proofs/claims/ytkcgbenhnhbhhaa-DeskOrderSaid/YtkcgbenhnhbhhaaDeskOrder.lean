import Derived.Test.YtkcgbenhnhbhhaaDesk8
import Derived.Test.YtkcgbenhnhbhhaaLaw
namespace Go.Proofs.Ytkcgbenhnhbhhaa
open Go Go.RowKit
set_option linter.unusedVariables false
set_option linter.unusedSimpArgs false

def mkM (z : Int) (i : Nat) : MsgD := ⟨z % 8, i, 0, 0, 0, ⟨#[]⟩, none, 0, 0⟩
def mks (zs : List Int) : List MsgD := zs.zipIdx.map fun p => mkM p.1 p.2
theorem mks_len (zs : List Int) : (mks zs).length = zs.length := by simp [mks]
theorem mks_get {zs : List Int} {k : Nat} {z : Int} (h : zs[k]? = some z) : (mks zs)[k]? = some (mkM z k) := by simp [mks, h]
theorem take_snoc' {α : Type} {l : List α} {k : Nat} {x : α} (h : l[k]? = some x) : l.take (k + 1) = l.take k ++ [x] := by rw [List.take_add_one, h]; rfl
theorem drop_cons' {α : Type} {l : List α} {k : Nat} {x : α} (h : l[k]? = some x) : l.drop k = x :: l.drop (k + 1) := by
  have hk := (List.getElem?_eq_some_iff.1 h).1
  rw [List.drop_eq_getElem_cons hk, (List.getElem?_eq_some_iff.1 h).2]

def repOf (x : Int) : RepD := if 0 < x then ⟨0, 0, x, none, 0, 0, none, 0, 0, true⟩ else zeroR

set_option maxRecDepth 100000 in
set_option maxHeartbeats 2000000 in
theorem deskOrder_walk (ao : Option Addr) (n cap : Nat) (zs : List Int) (W : World) (ha : ArgRow W fU ao n cap zs) (hwf : ∀ x ∈ zs, (Lit.int .u8 x).wf = true) :
    LawCalls Try.prog 13 #[.slice ao n cap] W := by
  have H0 := Sat.start W
  obtain ⟨hlen, hle, hsm, hcells⟩ := ha
  unfold maxLen at hsm
  obtain ⟨i0, hi, hz0, hz1, hz2⟩ := info_parts Try.infoInt2
  have hmk1 := fun W => run_make_rowN (P := Try.prog) 22 3 i0 (.int .i64 0) Try.underlying22 hi hz0 .i64 .i64 8 8 (Nat.le_refl _) (by rw [hz2]; omega) (by omega) W
  rw [hz1] at hmk1
  have hmk2 : ∀ W : World, (Instr.makeSlice 22 (.int .i64 8) (.int .i64 8)).run Try.prog W = .ok (.slice (some ⟨W.heap.size, 0, none⟩) 8 8) (W.alloc (.cells (madeCells #[.int .i64 0] 8) 3)) := fun W => hmk1 W
  clear hmk1
  by_cases hbig : 60 < n
  · clear hmk2
    go_enter Try.func13, Try.ntmps13
    go_wp2_with fail
    refine (desk_awake H0).mono ?_
    rintro e w1 ⟨rfl, h1, k1⟩
    go_wp2_with fail
    go_ret
    exact ⟨rfl, h1.below k1⟩
  have hsmall : n ≤ 60 := by omega
  clear hbig
  go_enter Try.func13, Try.ntmps13
  go_wp2_with fail
  refine (desk_awake H0).mono ?_
  rintro e w1 ⟨rfl, h1, k1⟩
  go_wp2_with fail
  refine (desk_new 8 60 w1 _ h1 (by omega) (by omega) (by omega)).mono ?_
  rintro e w2 ⟨d, rfl, h2, k2⟩
  have k12 := k1.trans k2
  clear k1 k2 h1
  go_wp2_with fail
  go_loopw [5] (fun i wr => ∃ (k : Nat) (D : DeskD), k ≤ n ∧ i = .int .i64 k ∧ Hid (D.msgs = (mks zs).take k) ∧ Hid (D.reps = List.replicate 8 zeroR) ∧ Hid (D.closed = false) ∧ Hid (D.most = 60) ∧ 0 ≤ D.acc ∧ D.acc ≤ k ∧ Sat wr (deskP d D :: [oldH W]) ∧ Kp W wr) (fun i _ => n - (intOf i).toNat)
  case atStart => exact ⟨0, newD 8 60, by omega, rfl, rfl, rfl, rfl, rfl, by simp [newD], by simp [newD], h2, k12⟩
  case round =>
    obtain ⟨k, D, hk, rfl, hM, hR, hC, hS, hA0, hA1, hs, hkp⟩ := hrel
    by_cases hlt : k < n
    case neg =>
      obtain rfl : k = n := by omega
      go_wp2_with fail
      have hall := hM.out
      rw [List.take_of_length_le (by rw [mks_len]; omega)] at hall
      replace hall := Lib.hid hall
      clear hM
      refine (desk_shut hs hA0 (by omega)).mono ?_
      rintro e w3 ⟨rfl, h3, k3⟩
      have k03 := hkp.trans k3
      have hl := (h3.alloc (.cells (madeCells #[.int .i64 0] (8 * 1)) 3)).tMade (f := fI) 0 rfl (by omega) rfl (by unfold maxLen; omega)
      have kl := k03.alloc (.cells (madeCells #[.int .i64 0] (8 * 1)) 3)
      simp only [Nat.mul_one] at hl kl
      obtain ⟨D1, hD1⟩ : ∃ D1 : DeskD, D1 = { tick D with closed := true } := ⟨_, rfl⟩
      rw [← hD1] at hl
      have hM1 : Hid (D1.msgs = mks zs) := by rw [hD1]; exact hall
      have hR1 : Hid (D1.reps = List.replicate 8 zeroR) := by rw [hD1]; exact hR
      have hC1 : Hid (D1.closed = true) := by rw [hD1]; rfl
      have hB0 : 0 ≤ D1.acc := by rw [hD1]; simp only [tick]; omega
      have hB1 : D1.acc ≤ 100 := by rw [hD1]; simp only [tick]; omega
      clear hD1 h3 k3 hs hkp hall hR hC hS hA0 hA1
      go_wp2_with fail
      generalize hW3 : w3.alloc _ = w4 at hl kl ⊢
      clear hW3
      generalize hG : w3.heap.size = gl at hl ⊢
      clear hG
      go_loopw [7] (fun i wr => ∃ (k1 : Nat) (D : DeskD) (ls : List Int), k1 ≤ k ∧ i = .int .i64 k1 ∧ Hid (D.msgs = (mks zs).drop k1) ∧ Hid (D.reps = ls.map repOf) ∧ Hid (D.closed = true) ∧ Hid (ls.length = 8) ∧ Hid (∀ x ∈ ls, 0 ≤ x) ∧ 0 ≤ D.acc ∧ D.acc ≤ 100 + 2 * (k1 : Int) ∧ Sat wr (rowT fI (.slice (some ⟨gl, 0, none⟩) 8 8) 3 1 ls :: deskP d D :: [oldH W]) ∧ Kp W wr) (fun i _ => k - (intOf i).toNat)
      case atStart => exact ⟨0, D1, List.replicate 8 0, by omega, rfl, hM1, hR1, hC1, rfl, fun x hx => by rw [List.mem_replicate] at hx; omega, hB0, by omega, hl, kl⟩
      case round =>
        clear hM1 hR1 hC1 hB0 hB1 hl kl D1 k03
        obtain ⟨k1, D, ls, hk1, rfl, hM, hR, hC, hL, hN, hA0, hA1, hs, hkp⟩ := hrel
        by_cases hlt : k1 < k
        case neg =>
          obtain rfl : k1 = k := by omega
          have hM2 := hM.out
          rw [List.drop_eq_nil_of_le (by rw [mks_len]; omega)] at hM2
          replace hM2 := Lib.hid hM2
          have hA2 : D.acc ≤ 300 := by omega
          clear hlt hM hA1
          go_wp2_with fail
          go_loopw [10] (fun i wr => ∃ (c : Nat) (D : DeskD), c ≤ 8 ∧ i = .int .i64 c ∧ Hid (D.msgs = []) ∧ Hid (D.reps.length = 8) ∧ Hid (∀ j, c ≤ j → D.reps[j]? = (ls.map repOf)[j]?) ∧ Hid (D.closed = true) ∧ 0 ≤ D.acc ∧ D.acc ≤ 300 + (c : Int) ∧ Sat wr (deskP d D :: rowT fI (.slice (some ⟨gl, 0, none⟩) 8 8) 3 1 ls :: [oldH W]) ∧ Kp W wr) (fun i _ => 8 - (intOf i).toNat)
          case atStart => exact ⟨0, D, by omega, rfl, hM2, by rw [hR.out]; simpa [Hid] using hL.out, fun j _ => by rw [hR.out], hC, hA0, by omega, hs.swap, hkp⟩
          case round =>
            clear hM2 hR hC hA0 hA2 hs hkp D
            obtain ⟨c, D, hc, rfl, hM, hRl, hR, hC, hA0, hA1, hs, hkp⟩ := hrel
            by_cases hlt : c < 8
            case neg =>
              obtain rfl : c = 8 := by omega
              clear hlt
              go_wp2_with fail
              refine (desk_receive_none hs hA0 (by omega) hM.out).mono ?_
              rintro e w5 ⟨rfl, h5, k5⟩
              simp only [aggM, zeroM]
              go_wp2_with fail
              refine (desk_send_closed (m := ⟨0, 0, 0, 0, 0, ⟨#[]⟩, none, 0, 0⟩) (h5.alloc' _) (by simp only [tick]; omega) (by simp only [tick]; omega) hC.out).mono ?_
              rintro e w6 ⟨rfl, h6, k6⟩
              go_wp2_with fail
              go_ret
              exact ⟨rfl, h6.tail.tail.below (hkp.trans (k5.trans (((Kp.refl _).alloc _).trans k6)))⟩
            have hlc : c < ls.length := by rw [hL.out]; exact hlt
            obtain ⟨x, hx⟩ : ∃ x, ls[c]? = some x := ⟨ls[c], by simp⟩
            have hrep : D.reps[c]? = some (repOf x) := by rw [hR.out c (Nat.le_refl _), List.getElem?_map, hx]; rfl
            have hrest : Hid (∀ j, c + 1 ≤ j → (D.reps.set c zeroR)[j]? = (ls.map repOf)[j]?) := fun j hj => by rw [get_set_ne (by omega)]; exact hR.out j (by omega)
            have HX := Lib.hid hx
            have HR := Lib.hid hrep
            clear hx hrep hlc
            have j0 : (0 : Int) ≤ (c : Int) := by omega
            have j1 : (c : Int) < 8 := by omega
            by_cases hpos : 0 < x
            · have hrx : repOf x = ⟨0, 0, x, none, 0, 0, none, 0, 0, true⟩ := by unfold repOf; rw [if_pos hpos]
              have HR2 := HR.out
              rw [hrx] at HR2
              replace HR2 := Lib.hid HR2
              clear hrx
              go_wp2_with fail
              refine (desk_reply hs hA0 (by omega) HR2.out rfl).mono ?_
              rintro e w5 ⟨rfl, h5, k5⟩
              simp only [aggA]
              have q0 := (h5.pull 1).tCellI c x HX.out
              have qb := (h5.pull 1).rowBlock
              rw [Nat.zero_add] at q0
              have hne : (x != x) = false := by simp
              go_wp2_with fail
              go_quiet (fail)
              go_wp2_with fail
              go_roundw
              case rel => exact ⟨c + 1, { tick D with reps := D.reps.set c zeroR }, by omega, by go_num, hM, by simpa [Hid] using hRl.out, hrest, hC, by simp only [tick]; omega, by simp only [tick]; push_cast; omega, (h5.alloc' _).drewN _, ((hkp.trans k5).alloc _).drewN _⟩
              case measure => simp [intOf]; omega
            · have hx0 : x = 0 := by have := hN.out x (List.mem_of_getElem? HX.out); omega
              subst hx0
              have hrx : repOf 0 = zeroR := rfl
              have HR2 := HR.out
              rw [hrx] at HR2
              replace HR2 := Lib.hid HR2
              clear hrx hpos
              go_wp2_with fail
              refine (desk_reply_none hs hA0 (by omega) HR2.out rfl).mono ?_
              rintro e w5 ⟨rfl, h5, k5⟩
              simp only [aggA, zeroR]
              have q0 := (h5.pull 1).tCellI c 0 HX.out
              have qb := (h5.pull 1).rowBlock
              rw [Nat.zero_add] at q0
              go_wp2_with fail
              go_quiet (fail)
              go_wp2_with fail
              go_roundw
              case rel => exact ⟨c + 1, tick D, by omega, by go_num, hM, hRl, fun j hj => hR.out j (by omega), hC, by simp only [tick]; omega, by simp only [tick]; push_cast; omega, (h5.alloc' _).drewN _, ((hkp.trans k5).alloc _).drewN _⟩
              case measure => simp [intOf]; omega
        obtain ⟨b, off, rfl, hcell⟩ := hcells (by omega)
        obtain ⟨z, hz⟩ : ∃ z, zs[k1]? = some z := ⟨zs[k1]'(by omega), by simp⟩
        have hcx := hcell k1 (.int .u8 z) (by rw [get_fU, hz]; rfl)
        obtain ⟨hzb0, hzb1⟩ := wf_u8 (hwf z (List.mem_of_getElem? hz))
        have j0 : (0 : Int) ≤ (k1 : Int) := by omega
        have j1 : (k1 : Int) < (k : Int) := by omega
        have hM2 := hM.out
        rw [drop_cons' (mks_get hz)] at hM2
        replace hM2 := Lib.hid hM2
        have hnl : Hid (((mks zs).drop (k1 + 1)).length < 65536) := by show _ < _; rw [List.length_drop, mks_len]; omega
        clear hcells hcell hz hM
        go_wp2_with fail
        refine (desk_receive hs.swap hA0 (by omega) hM2.out hnl.out).mono ?_
        rintro e w5 ⟨rfl, h5, k5⟩
        simp only [aggM, mkM]
        obtain ⟨c, hc⟩ := Int.eq_ofNat_of_zero_le (show 0 ≤ z % 8 by omega)
        have hc8 : c < 8 := by omega
        have hcw := (h5.pull 2).oldCell hcx
        have hbl : b < w5.heap.size := World.block_lt_of_cell? _ _ hcw
        have n1 : ((c : Int) != (c : Int)) = false := by simp
        have n2 : ((k1 : Int) != (k1 : Int)) = false := by simp
        rw [hc]
        go_wp2_with fail
        go_quiet (fail)
        go_wp2_with fail
        obtain ⟨x, hx⟩ : ∃ x, ls[c]? = some x := ⟨ls[c]'(by rw [hL.out]; exact hc8), by simp⟩
        have HX := Lib.hid hx
        have hml : Hid (c < D.reps.length) := by show _ < _; rw [hR.out, List.length_map, hL.out]; exact hc8
        clear hx
        refine (desk_setReply (i := c) (a := ⟨0, 0, (k1 : Int) + 1, none, 0, 0, none, 0, 0, false⟩) ((h5.alloc' _).drewN _) (by simp only [tick]; omega) (by simp only [tick]; omega) hml.out).mono ?_
        rintro e w6 ⟨rfl, h6, k6⟩
        have q0 := (h6.pull 1).tCellI c x HX.out
        have q1 := (h6.pull 1).rowFree c
        have hcw6 := (h6.pull 2).oldCell hcx
        rw [Nat.zero_add] at q0
        have c0 : (0 : Int) ≤ (c : Int) := by omega
        have c1 : (c : Int) < 8 := by omega
        have h7 := (h6.pull 1).tSetI' c ((k1 : Int) + 1)
        rw [Nat.zero_add] at h7
        have hreps : Hid ((tick D).reps.set c ⟨0, 0, (k1 : Int) + 1, none, 0, 0, none, 0, 0, true⟩ = (ls.set c ((k1 : Int) + 1)).map repOf) := by
          show _ = _
          rw [List.map_set, ← hR.out]
          unfold repOf
          rw [if_pos (by omega)]
          rfl
        have hnn : Hid (∀ x ∈ ls.set c ((k1 : Int) + 1), 0 ≤ x) := fun x hx => by
          rcases List.mem_or_eq_of_mem_set hx with h | h
          · exact hN.out x h
          · omega
        go_wp2_with fail
        go_roundw
        case rel => exact ⟨k1 + 1, { tick { tick D with msgs := (mks zs).drop (k1 + 1) } with reps := (tick D).reps.set c ⟨0, 0, (k1 : Int) + 1, none, 0, 0, none, 0, 0, true⟩ }, ls.set c ((k1 : Int) + 1), by omega, by go_num, rfl, hreps, hC, by simpa [Hid] using hL.out, hnn, by simp only [tick]; omega, by simp only [tick]; push_cast; omega, h7, (((hkp.trans k5).alloc _).drewN _ |>.trans k6).setCell _ _⟩
        case measure => simp [intOf]; omega
    obtain ⟨b, off, rfl, hcell⟩ := hcells (by omega)
    obtain ⟨z, hz⟩ : ∃ z, zs[k]? = some z := ⟨zs[k]'(by omega), by simp⟩
    have hcx := hcell k (.int .u8 z) (by rw [get_fU, hz]; rfl)
    have hcw := (hs.pull 1).oldCell hcx
    obtain ⟨hzb0, hzb1⟩ := wf_u8 (hwf z (List.mem_of_getElem? hz))
    have j0 : (0 : Int) ≤ (k : Int) := by omega
    have j1 : (k : Int) < (n : Int) := by omega
    have hnext := take_snoc' (mks_get hz)
    rw [← hM.out] at hnext
    have hM1 := Lib.hid hnext.symm
    have hml : D.msgs.length = k := by rw [hM.out, List.length_take, mks_len]; omega
    have HML := Lib.hid hml
    clear hcells hcell hz hnext hml
    go_wp2_with fail
    refine (desk_send (m := mkM z k) hs hA0 (by omega) hC.out (by rw [hS.out, HML.out]; omega) (by rw [hS.out]; omega)).mono ?_
    rintro e w3 ⟨rfl, h3, k3⟩
    go_wp2_with fail
    go_roundw
    case rel => exact ⟨k + 1, { tick D with msgs := D.msgs ++ [mkM z k] }, by omega, by go_num, hM1, hR, hC, hS, by simp only [tick]; omega, by simp only [tick]; push_cast; omega, h3, hkp.trans k3⟩
    case measure => simp [intOf]; omega

end Go.Proofs.Ytkcgbenhnhbhhaa

import Derived.Test.YtkcgbenhnhbhhaaLaw
import Derived.Deep.RegionWith
namespace Go.Proofs.Ytkcgbenhnhbhhaa
open Go Go.RowKit
set_option linter.unusedVariables false
set_option linter.unusedSimpArgs false

structure WaitD where
  slot : Int
  gen : Int
  by_ : Int
  deriving DecidableEq
structure HanD where
  slot : Int
  gen : Int
  deriving DecidableEq
def fW (x : WaitD) : List Value := [.int .i64 x.slot, .int .i64 x.gen, .int .i64 x.by_]
def fH (x : HanD) : List Value := [.int .i64 x.slot, .int .i64 x.gen]
theorem len_fW (x : WaitD) : (fW x).length = 3 := rfl
theorem len_fH (x : HanD) : (fH x).length = 2 := rfl
def WaitD.h (x : WaitD) : HanD := ⟨x.slot, x.gen⟩

theorem Try.infoWaits : (Try.prog.info? 110).map (fun i => (i.zero, i.size, i.bytes)) = some (some (.agg #[.int .i64 0, .int .i64 0, .int .i64 0]), 3, 24) := by kernel_rfl
theorem Try.infoHandle : (Try.prog.info? 70).map (fun i => (i.zero, i.size, i.bytes)) = some (some (.agg #[.int .i64 0, .int .i64 0]), 2, 16) := by kernel_rfl

/-- What waits, and the epoch, at block b. -/
def limboP (b : Nat) (now : Int) (ws : List WaitD) : HProp :=
  ex fun v => all [own b (.cells #[.int .i64 now, v] 108 (0, 0)), rowT fW v 110 3 ws]
theorem limboP_I {w : World} {l : List HProp} {b : Nat} {now : Int} {ws : List WaitD} {v : Value}
    (hs : Sat w (own b (.cells #[.int .i64 now, v] 108 (0, 0)) :: rowT fW v 110 3 ws :: l)) : Sat w (limboP b now ws :: l) :=
  Sat.exI v (Sat.allI hs)
theorem limboP_E {w : World} {l : List HProp} {b : Nat} {now : Int} {ws : List WaitD} (hs : Sat w (limboP b now ws :: l)) :
    ∃ v, Sat w (own b (.cells #[.int .i64 now, v] 108 (0, 0)) :: rowT fW v 110 3 ws :: l) := by
  obtain ⟨v, h⟩ := hs.exE
  exact ⟨v, h.allE⟩

theorem limbo_new (w : World) (l : List HProp) (hs : Sat w l) :
    Calls Try.prog 36 #[] w fun e w' => ∃ b, e = .returned (.pointer (some ⟨b, 0, none⟩)) ∧ Sat w' (limboP b 0 [] :: l) ∧ Kp w w' := by
  go_enter Try.func36, Try.ntmps36
  go_wp2
  go_ret
  exact ⟨w.heap.size, rfl, limboP_I ((hs.tNil _ _ _).alloc _), (Kp.refl w).alloc _⟩

theorem limbo_now {w : World} {l : List HProp} {b : Nat} {now : Int} {ws : List WaitD} (hs : Sat w (limboP b now ws :: l)) :
    Calls Try.prog 43 #[.pointer (some ⟨b, 0, none⟩)] w fun e w' => e = .returned (.int .i64 now) ∧ w = w' := by
  obtain ⟨v, hv⟩ := limboP_E hs
  have c0 := hv.cell 0
  simp at c0
  go_enter Try.func43, Try.ntmps43
  go_wp2
  go_ret
  exact ⟨rfl, rfl⟩

theorem limbo_advance {w : World} {l : List HProp} {b : Nat} {now : Int} {ws : List WaitD} (hs : Sat w (limboP b now ws :: l)) (h0 : 0 ≤ now) (h1 : now < 1000000000) :
    Calls Try.prog 37 #[.pointer (some ⟨b, 0, none⟩)] w fun e w' => e = .returned (.tuple #[]) ∧ Sat w' (limboP b (now + 1) ws :: l) ∧ Kp w w' := by
  obtain ⟨v, hv⟩ := limboP_E hs
  have c0 := hv.cell 0
  have f0 := hv.free 0
  simp at c0
  go_enter Try.func37, Try.ntmps37
  go_wp2
  go_end0
  exact ⟨rfl, limboP_I (hv.set 0 (.int .i64 (now + 1))), (Kp.refl w).setCell _ _⟩

/-- A slice that can be read wherever l holds. -/
def ReadIn {α : Type} (l : List HProp) (f : α → List Value) (ao : Option Addr) (n cap : Nat) (xs : List α) : Prop := ∀ w, Sat w l → ArgRow w f ao n cap xs

set_option maxRecDepth 100000 in
set_option maxHeartbeats 1000000 in
theorem limbo_retire {w : World} {l : List HProp} {b : Nat} {now : Int} {ws : List WaitD} {ao : Option Addr} {n cap : Nat} {hs : List HanD} (hw : Sat w (limboP b now ws :: l)) (hr : ReadIn l fH ao n cap hs) (hn : n ≤ 1000000) (hm : ws.length ≤ 1000000) :
    Calls Try.prog 38 #[.pointer (some ⟨b, 0, none⟩), .slice ao n cap] w fun e w' => e = .returned (.tuple #[]) ∧ Sat w' (limboP b now (ws ++ hs.map fun h => ⟨h.slot, h.gen, now⟩) :: l) ∧ Kp w w' := by
  obtain ⟨i0, hi, hz0, hz1, hz2⟩ := info_parts Try.infoWaits
  have R := Lib.hid hr
  have hlen := (hr w hw.tail).len
  have hle := (hr w hw.tail).le
  have hsm := (hr w hw.tail).small
  unfold maxLen at hsm
  have HLEN := Lib.hid hlen
  clear hr hlen
  go_enter Try.func38, Try.ntmps38
  go_wp2_with fail
  go_loopw [8] (fun i wr => ∃ (k : Nat) (us : List WaitD), k ≤ n ∧ i = .int .i64 k ∧ Hid (us = ws ++ (hs.take k).map fun h => ⟨h.slot, h.gen, now⟩) ∧ us.length ≤ ws.length + k ∧ Sat wr (limboP b now us :: l) ∧ Kp w wr) (fun i _ => n - (intOf i).toNat)
  case atStart => exact ⟨0, ws, by omega, rfl, by simp [Hid], by omega, hw, Kp.refl w⟩
  case round =>
    obtain ⟨k, us, hk, rfl, hus, hul, hs1, hkp⟩ := hrel
    by_cases hlt : k < n
    case neg =>
      obtain rfl : k = n := by omega
      have hus2 := hus.out
      rw [List.take_of_length_le (by rw [HLEN.out]; omega)] at hus2
      rw [hus2] at hs1
      clear hus2 hus
      go_wp2_with fail
      go_end0
      exact ⟨rfl, hs1, hkp⟩
    have ha := (R.out wr hs1.tail)
    obtain ⟨g, off, rfl, hcell⟩ := ha.cells (by omega)
    obtain ⟨x, hx⟩ : ∃ x, hs[k]? = some x := ⟨hs[k]'(by rw [HLEN.out]; exact hlt), by simp⟩
    have hc0 := hcell (k * 2 + 0) (.int .i64 x.slot) (by rw [get_flat len_fH hs k 0 x hx (by omega)]; rfl)
    have hc1 := hcell (k * 2 + 1) (.int .i64 x.gen) (by rw [get_flat len_fH hs k 1 x hx (by omega)]; rfl)
    rw [Nat.add_zero] at hc0
    rw [← Nat.add_assoc] at hc1
    have hgl : g < wr.heap.size := World.block_lt_of_cell? _ _ hc0
    obtain ⟨v, hv⟩ := limboP_E hs1
    have hb := hv.lt
    have hnext := take_snoc' hx
    have hus3 : Hid (us ++ [⟨x.slot, x.gen, now⟩] = ws ++ (hs.take (k + 1)).map fun h => (⟨h.slot, h.gen, now⟩ : WaitD)) := by
      show _ = _
      rw [hus.out, hnext, List.map_append, List.append_assoc]; rfl
    have j0 : (0 : Int) ≤ (k : Int) := by omega
    have j1 : (k : Int) < (n : Int) := by omega
    clear ha hcell hx hnext
    obtain ⟨vo, vc, rfl⟩ := (hv.pull 1).tLen
    have hvl := hv.alloc (.cells #[.int .i64 x.slot, .int .i64 x.gen] 70)
    go_upto_region 3 with (fail)
    have kB := hkp.alloc (.cells #[.int .i64 x.slot, .int .i64 x.gen] 70)
    generalize hW : wr.alloc _ = w1 at hvl kB ⊢
    clear hW hv hs1 hc0 hc1
    generalize wr.heap.size = B at hvl hb hgl ⊢
    have hB := hvl.push 2
    have d0 := hB.cell 0
    have d1 := hB.cell 1
    have g1 := hB.free 1
    have r0 := (hB.pull 2).cell 0
    have r1 := (hB.pull 2).cell 1
    have hbl := hB.lt
    have hBl := (hB.pull 2).lt
    simp at d0 d1 r0 r1
    have hsz : us.length ≤ 2000000 := by omega
    go_region_law ((refine step_append_lit (by rfl) (.tmp 16) (.tmp 23) 106 (by rfl) 110 i0 _ 3 24 Try.underlying106 hi hz0 hz1 hz2 (by rfl) (by omega) _ _ _ _ _ _ _ (by rfl) (Sat.pull 2 (hB.drew.alloc _)) 0 1 (by rfl) (by rfl) (by rfl) (by unfold maxLen; omega) (by omega) ?_; intro g' off' q cap' w2 h2 k2; have e1 := (h2.pull 2).cell 1; have e2 := (h2.pull 2).free 1; simp at e1))
    all_goals
      go_wp2_with fail
      have h3 := (((((h2.pull 2).set 1 (.slice (some ⟨g', off', none⟩) q cap')).pull 2).tail.pull 2).tail).pull 1
      have h4 := limboP_I ((Sat.tSnoc (f := fW) (x := (⟨x.slot, x.gen, now⟩ : WaitD)) h3 rfl).pull 1)
      go_roundw
      case rel => exact ⟨k + 1, us ++ [⟨x.slot, x.gen, now⟩], by omega, by go_num, hus3, by simp; omega, h4, ((kB.drew.alloc _).trans k2).setCell _ _⟩
      case measure => simp [intOf]; omega

end Go.Proofs.Ytkcgbenhnhbhhaa

import Derived.Test.YtbnipieokpeadaaDoorName3
import Derived.Test.YtbnipieokpeadaaDoorOp
namespace Go.Proofs.YtbnipieokpeadaaDoor
open Go Go.RowKit
set_option linter.unusedVariables false
set_option linter.unusedSimpArgs false

def nodeOk (n : Int) : Bool := decide (256 ≤ n ∧ n ≤ 4294967295)
def stampOk (n r : Int) : Bool := decide (1 ≤ n ∧ n ≤ 16777215 ∧ 0 ≤ r ∧ r < 256)
def upOk (n : Int) : Bool := decide (n = 0 ∨ n = 1) || nodeOk n
/-- Which operations are. -/
def rightO (o : OpD) : Bool := stampOk o.n o.r && (nodeOk o.node && (upOk o.up && nameOk o.name))

theorem op_node2 {w : World} (n : Int) : Calls Tryd.prog 55 #[.int .i64 n] w fun e w' => e = .returned (.bool (nodeOk n)) ∧ w = w' := by
  unfold nodeOk
  by_cases h1 : 256 ≤ n
  · by_cases h2 : n ≤ 4294967295
    · rw [show decide (256 ≤ n ∧ n ≤ 4294967295) = true by simp [h1, h2]]
      go_enter Tryd.func55, Tryd.ntmps55
      go_wp2_with fail
      go_ret
      exact ⟨rfl, rfl⟩
    · rw [show decide (256 ≤ n ∧ n ≤ 4294967295) = false by simp [h2]]
      go_enter Tryd.func55, Tryd.ntmps55
      go_wp2_with fail
      go_ret
      exact ⟨rfl, rfl⟩
  · rw [show decide (256 ≤ n ∧ n ≤ 4294967295) = false by simp [h1]]
    go_enter Tryd.func55, Tryd.ntmps55
    go_wp2_with fail
    go_ret
    exact ⟨rfl, rfl⟩

set_option maxRecDepth 100000 in
theorem stamp_right2 {w : World} {l : List HProp} (n r : Int) (hs : Sat w l) : Calls Tryd.prog 56 #[.agg #[.int .i64 n, .int .i64 r]] w fun e w' => e = .returned (.bool (stampOk n r)) ∧ Sat w' l ∧ Kp w w' := by
  unfold stampOk
  by_cases h1 : 1 ≤ n
  · by_cases h2 : n ≤ 16777215
    · by_cases h3 : 0 ≤ r
      · by_cases h4 : r < 256
        · rw [show decide (1 ≤ n ∧ n ≤ 16777215 ∧ 0 ≤ r ∧ r < 256) = true by simp [h1, h2, h3, h4]]
          go_enter Tryd.func56, Tryd.ntmps56
          go_wp2_with fail
          go_ret
          exact ⟨rfl, hs.alloc' _, (Kp.refl w).alloc _⟩
        · rw [show decide (1 ≤ n ∧ n ≤ 16777215 ∧ 0 ≤ r ∧ r < 256) = false by simp [h4]]
          go_enter Tryd.func56, Tryd.ntmps56
          go_wp2_with fail
          go_ret
          exact ⟨rfl, hs.alloc' _, (Kp.refl w).alloc _⟩
      · rw [show decide (1 ≤ n ∧ n ≤ 16777215 ∧ 0 ≤ r ∧ r < 256) = false by simp [h3]]
        go_enter Tryd.func56, Tryd.ntmps56
        go_wp2_with fail
        go_ret
        exact ⟨rfl, hs.alloc' _, (Kp.refl w).alloc _⟩
    · rw [show decide (1 ≤ n ∧ n ≤ 16777215 ∧ 0 ≤ r ∧ r < 256) = false by simp [h2]]
      go_enter Tryd.func56, Tryd.ntmps56
      go_wp2_with fail
      go_ret
      exact ⟨rfl, hs.alloc' _, (Kp.refl w).alloc _⟩
  · rw [show decide (1 ≤ n ∧ n ≤ 16777215 ∧ 0 ≤ r ∧ r < 256) = false by simp [h1]]
    go_enter Tryd.func56, Tryd.ntmps56
    go_wp2_with fail
    go_ret
    exact ⟨rfl, hs.alloc' _, (Kp.refl w).alloc _⟩

/-- op.Right tells b of an operation, in whatever world with the call's old memory. -/
def RightIn (W : World) (o : OpD) (b : Bool) : Prop := ∀ (w : World) (l : List HProp), Sat w (oldH W :: l) → Calls Tryd.prog 39 #[aggO o] w fun e w' => e = .returned (.bool b) ∧ Sat w' (oldH W :: l) ∧ Kp w w'

set_option maxRecDepth 100000 in
set_option maxHeartbeats 1000000 in
theorem op_right {W : World} (hT : Lib.Utf8Tabs (validS_ren.g 3) (validS_ren.g 4) W) (o : OpD) (hz : o.name.size ≤ 1000) : RightIn W o (rightO o) := by
  intro w l hs
  obtain ⟨ANS, hANS⟩ : ∃ ANS, rightO o = ANS := ⟨_, rfl⟩
  rw [hANS]
  have HA := Lib.hid hANS
  obtain ⟨n, r, node, up, name⟩ := o
  have HT := Lib.hid hT
  clear hT hANS
  dsimp only at hz
  have hB := hs.alloc (.cells #[.int .i64 n, .int .i64 r, .int .i64 node, .int .i64 up, .string name] 33)
  have kB := (Kp.refl w).alloc (.cells #[.int .i64 n, .int .i64 r, .int .i64 node, .int .i64 up, .string name] 33)
  simp only [aggO]
  go_enter Tryd.func39, Tryd.ntmps39
  go_upto_region 1 with (fail)
  generalize World.alloc _ _ = w1 at hB kB ⊢
  generalize w.heap.size = B at hB ⊢
  have b0 := hB.cell 0
  have b1 := hB.cell 1
  have b2 := hB.cell 2
  have b3 := hB.cell 3
  have b4 := hB.cell 4
  simp at b0 b1 b2 b3 b4
  go_cut [3] from 4 to 16 (fun v wx => v = .bool (upOk up) ∧ wx = w1)
  case first =>
    cases e0 : (up == 0) with
    | true =>
      obtain rfl : up = 0 := by simpa using e0
      go_wp2_with fail
      go_meet
      case rel => exact ⟨rfl, rfl⟩
    | false =>
      cases e1 : (up == 1) with
      | true =>
        obtain rfl : up = 1 := by simpa using e1
        go_wp2_with fail
        go_meet
        case rel => exact ⟨rfl, rfl⟩
      | false =>
        have hu : upOk up = nodeOk up := by
          have h0 : up ≠ 0 := by simpa using e0
          have h1 : up ≠ 1 := by simpa using e1
          unfold upOk
          simp [h0, h1]
        have HU := Lib.hid hu
        clear hu
        go_wp2_with fail
        refine (op_node2 up).mono ?_
        rintro e w2 ⟨rfl, rfl⟩
        go_wp2_with fail
        go_meet
        case rel => exact ⟨by rw [HU.out], rfl⟩
  case rest =>
    obtain ⟨rfl, hw⟩ := hcut
    subst hw
    go_wp2_with fail
    refine (stamp_right2 n r hB).mono ?_
    rintro e w2 ⟨rfl, h2, k2⟩
    have b2 := h2.cell 2
    have b4 := h2.cell 4
    simp at b2 b4
    cases es : stampOk n r with
    | false =>
      have HOK := Lib.hid (show ANS = false by rw [← HA.out]; unfold rightO; rw [es]; rfl)
      clear es
      go_wp2_with fail
      obtain rfl := HOK.out
      go_ret
      exact ⟨rfl, h2.tail, kB.trans k2⟩
    | true =>
      go_wp2_with fail
      refine (op_node2 node).mono ?_
      rintro e w3 ⟨rfl, rfl⟩
      cases en : nodeOk node with
      | false =>
        have HOK := Lib.hid (show ANS = false by rw [← HA.out]; unfold rightO; rw [es, en]; rfl)
        clear es en
        go_wp2_with fail
        obtain rfl := HOK.out
        go_ret
        exact ⟨rfl, h2.tail, kB.trans k2⟩
      | true =>
        cases eu : upOk up with
        | false =>
          have HOK := Lib.hid (show ANS = false by rw [← HA.out]; unfold rightO; rw [es, en, eu]; rfl)
          clear es en eu
          go_wp2_with fail
          obtain rfl := HOK.out
          go_ret
          exact ⟨rfl, h2.tail, kB.trans k2⟩
        | true =>
          have HOK := Lib.hid (show ANS = nameOk name by rw [← HA.out]; unfold rightO; rw [es, en, eu]; rfl)
          clear es en eu
          go_wp2_with fail
          refine (name_right HT.out h2.tail name hz).mono ?_
          rintro e w3 ⟨rfl, h3, k3⟩
          go_wp2_with fail
          obtain rfl := HOK.out
          go_ret
          exact ⟨rfl, h3, (kB.trans k2).trans k3⟩

end Go.Proofs.YtbnipieokpeadaaDoor

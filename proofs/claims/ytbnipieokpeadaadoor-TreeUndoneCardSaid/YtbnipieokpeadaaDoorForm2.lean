import Derived.Test.YtbnipieokpeadaaDoorForm
import Derived.Test.YtbnipieokpeadaaDoorOp2
namespace Go.Proofs.YtbnipieokpeadaaDoor
open Go Go.RowKit
set_option linter.unusedVariables false
set_option linter.unusedSimpArgs false

theorem byte_get (s : ByteArray) (k : Nat) (h : k < s.size) : s.data.toList[k]? = some s[k] := by
  rw [List.getElem?_eq_getElem (by rw [size_list]; exact h)]
  rfl

set_option maxRecDepth 100000 in
set_option maxHeartbeats 2000000 in
theorem ref_name {w : World} (s : ByteArray) (hz : s.size ≤ 1000) : Calls Tryd.prog 50 #[.string s] w fun e w' => e = .returned (.bool (nameOk s)) ∧ w = w' := by
  obtain ⟨ANS, hANS⟩ : ∃ ANS, nameOk s = ANS := ⟨_, rfl⟩
  rw [hANS]
  have HA := Lib.hid hANS
  clear hANS
  have hfo := fun W => formed_is (w := W) s hz
  by_cases z1 : s.size < 1
  · have HOK := Lib.hid (show ANS = false by rw [← HA.out]; unfold nameOk; simp; omega)
    have z1' : (s.size : Int) < 1 := by omega
    go_enter Tryd.func50, Tryd.ntmps50
    go_wp2_with fail
    obtain rfl := HOK.out
    go_ret
    exact ⟨rfl, rfl⟩
  have z1' : ¬ (s.size : Int) < 1 := by omega
  by_cases z2 : 20 < s.size
  · have HOK := Lib.hid (show ANS = false by rw [← HA.out]; unfold nameOk; simp; omega)
    have z2' : (20 : Int) < (s.size : Int) := by omega
    go_enter Tryd.func50, Tryd.ntmps50
    go_wp2_with fail
    obtain rfl := HOK.out
    go_ret
    exact ⟨rfl, rfl⟩
  have z2' : ¬ (20 : Int) < (s.size : Int) := by omega
  go_enter Tryd.func50, Tryd.ntmps50
  go_wp2_with fail
  go_loop [3] (fun iv => ∃ i : Nat, i ≤ s.size ∧ iv = .int .i64 i ∧ Hid (∀ k, k < i → ∀ b, s.data.toList[k]? = some b → goodB b = true)) (fun iv => s.size - (intOf iv).toNat)
  case atStart => exact ⟨0, Nat.zero_le _, rfl, Lib.hid (fun k hk => absurd hk (Nat.not_lt_zero _))⟩
  case round =>
    obtain ⟨i, his, rfl, hI⟩ := hrel
    by_cases hlt : i < s.size
    case neg =>
      have hall : s.data.toList.all goodB = true := by
        apply List.all_eq_true.2
        intro b hb
        obtain ⟨k, hk⟩ := List.getElem?_of_mem hb
        have h1 := (List.getElem?_eq_some_iff.1 hk).1
        rw [size_list] at h1
        exact hI.out k (by omega) b hk
      have HOK := Lib.hid (show ANS = Lib.validD s.data.toList by rw [← HA.out]; unfold nameOk; rw [hall, show decide (1 ≤ s.size ∧ s.size ≤ 20) = true by simp; omega]; rfl)
      clear hI hall
      go_wp2_with fail
      refine (hfo _).mono ?_
      rintro e w1 ⟨rfl, rfl⟩
      go_wp2_with fail
      obtain rfl := HOK.out
      go_ret
      exact ⟨rfl, rfl⟩
    have hb := byte_get s i hlt
    have hbad : goodB s[i] = false → ANS = false := fun hg => by
      rw [← HA.out]
      unfold nameOk
      cases hall : s.data.toList.all goodB with
      | false => rfl
      | true =>
        have := List.all_eq_true.1 hall _ (List.mem_of_getElem? hb)
        rw [hg] at this
        cases this
    by_cases b1 : (s[i]).toNat < 32
    · have HOK := Lib.hid (hbad (by unfold goodB; simp; omega))
      have b1' : ((s[i]).toNat : Int) < 32 := by omega
      clear hb hbad hI
      go_wp2_with fail
      obtain rfl := HOK.out
      go_ret
      exact ⟨rfl, rfl⟩
    have b1' : ¬ ((s[i]).toNat : Int) < 32 := by omega
    cases b2 : (((s[i]).toNat : Int) == 47) with
    | true =>
      have HOK := Lib.hid (hbad (by unfold goodB; simp at b2; simp; omega))
      clear hb hbad hI
      go_wp2_with fail
      obtain rfl := HOK.out
      go_ret
      exact ⟨rfl, rfl⟩
    | false =>
      cases b3 : (((s[i]).toNat : Int) == 127) with
      | true =>
        have HOK := Lib.hid (hbad (by unfold goodB; simp at b3; simp; omega))
        clear hb hbad hI
        go_wp2_with fail
        obtain rfl := HOK.out
        go_ret
        exact ⟨rfl, rfl⟩
      | false =>
        have hg : goodB s[i] = true := by unfold goodB; simp at b2 b3; simp; omega
        have HI2 := Lib.hid (show ∀ k, k < i + 1 → ∀ b, s.data.toList[k]? = some b → goodB b = true from fun k hk b hkb => by
          by_cases e : k = i
          · subst e; rw [hb] at hkb; cases hkb; exact hg
          · exact hI.out k (by omega) b hkb)
        clear hb hbad hI hg
        go_wp2_with fail
        go_round
        case rel => exact ⟨i + 1, by omega, by go_num, HI2⟩
        case measure => simp [intOf]; omega

theorem ref_node {w : World} (n : Int) : Calls Tryd.prog 51 #[.int .i64 n] w fun e w' => e = .returned (.bool (nodeOk n)) ∧ w = w' := by
  unfold nodeOk
  by_cases h1 : 256 ≤ n
  · by_cases h2 : n ≤ 4294967295
    · rw [show decide (256 ≤ n ∧ n ≤ 4294967295) = true by simp [h1, h2]]
      go_enter Tryd.func51, Tryd.ntmps51
      go_wp2_with fail
      go_ret
      exact ⟨rfl, rfl⟩
    · rw [show decide (256 ≤ n ∧ n ≤ 4294967295) = false by simp [h2]]
      go_enter Tryd.func51, Tryd.ntmps51
      go_wp2_with fail
      go_ret
      exact ⟨rfl, rfl⟩
  · rw [show decide (256 ≤ n ∧ n ≤ 4294967295) = false by simp [h1]]
    go_enter Tryd.func51, Tryd.ntmps51
    go_wp2_with fail
    go_ret
    exact ⟨rfl, rfl⟩

set_option maxRecDepth 100000 in
theorem ref_stamp {w : World} {l : List HProp} (n r : Int) (hs : Sat w l) : Calls Tryd.prog 49 #[.agg #[.int .i64 n, .int .i64 r]] w fun e w' => e = .returned (.bool (stampOk n r)) ∧ Sat w' l ∧ Kp w w' := by
  unfold stampOk
  by_cases h1 : 0 < n
  · by_cases h2 : n < 16777216
    · by_cases h3 : 0 ≤ r
      · by_cases h4 : r ≤ 255
        · rw [show decide (1 ≤ n ∧ n ≤ 16777215 ∧ 0 ≤ r ∧ r < 256) = true by simp; omega]
          go_enter Tryd.func49, Tryd.ntmps49
          go_wp2_with fail
          go_ret
          exact ⟨rfl, hs.alloc' _, (Kp.refl w).alloc _⟩
        · rw [show decide (1 ≤ n ∧ n ≤ 16777215 ∧ 0 ≤ r ∧ r < 256) = false by simp; omega]
          go_enter Tryd.func49, Tryd.ntmps49
          go_wp2_with fail
          go_ret
          exact ⟨rfl, hs.alloc' _, (Kp.refl w).alloc _⟩
      · rw [show decide (1 ≤ n ∧ n ≤ 16777215 ∧ 0 ≤ r ∧ r < 256) = false by simp; omega]
        go_enter Tryd.func49, Tryd.ntmps49
        go_wp2_with fail
        go_ret
        exact ⟨rfl, hs.alloc' _, (Kp.refl w).alloc _⟩
    · rw [show decide (1 ≤ n ∧ n ≤ 16777215 ∧ 0 ≤ r ∧ r < 256) = false by simp; omega]
      go_enter Tryd.func49, Tryd.ntmps49
      go_wp2_with fail
      go_ret
      exact ⟨rfl, hs.alloc' _, (Kp.refl w).alloc _⟩
  · rw [show decide (1 ≤ n ∧ n ≤ 16777215 ∧ 0 ≤ r ∧ r < 256) = false by simp; omega]
    go_enter Tryd.func49, Tryd.ntmps49
    go_wp2_with fail
    go_ret
    exact ⟨rfl, hs.alloc' _, (Kp.refl w).alloc _⟩

set_option maxRecDepth 100000 in
set_option maxHeartbeats 1000000 in
theorem ref_right {w : World} {l : List HProp} (o : OpD) (hs : Sat w l) (hz : o.name.size ≤ 1000) : Calls Tryd.prog 29 #[aggO o] w fun e w' => e = .returned (.bool (rightO o)) ∧ Sat w' l ∧ Kp w w' := by
  obtain ⟨ANS, hANS⟩ : ∃ ANS, rightO o = ANS := ⟨_, rfl⟩
  rw [hANS]
  have HA := Lib.hid hANS
  obtain ⟨n, r, node, up, name⟩ := o
  dsimp only at hz
  clear hANS
  have hB := hs.alloc (.cells #[.int .i64 n, .int .i64 r, .int .i64 node, .int .i64 up, .string name] 33)
  have kB := (Kp.refl w).alloc (.cells #[.int .i64 n, .int .i64 r, .int .i64 node, .int .i64 up, .string name] 33)
  simp only [aggO]
  go_enter Tryd.func29, Tryd.ntmps29
  go_upto_region 1 with (fail)
  generalize World.alloc _ _ = w1 at hB kB ⊢
  generalize w.heap.size = B at hB ⊢
  have b0 := hB.cell 0
  have b1 := hB.cell 1
  simp at b0 b1
  go_wp2_with fail
  refine (ref_stamp n r hB).mono ?_
  rintro e w2 ⟨rfl, h2, k2⟩
  have k2 := kB.trans k2
  clear b0 b1 hB kB
  have b2 := h2.cell 2
  have b3 := h2.cell 3
  have b4 := h2.cell 4
  simp at b2 b3 b4
  go_wp2_with fail
  refine (ref_name name hz).mono ?_
  rintro e w3 ⟨rfl, rfl⟩
  go_wp2_with fail
  refine (ref_node node).mono ?_
  rintro e w3 ⟨rfl, rfl⟩
  go_wp2_with fail
  refine (ref_node up).mono ?_
  rintro e w3 ⟨rfl, rfl⟩
  have hr : rightO ⟨n, r, node, up, name⟩ = (stampOk n r && (nameOk name && (nodeOk node && (nodeOk up || (up == 0 || up == 1))))) := by
    unfold rightO upOk
    cases stampOk n r <;> cases nameOk name <;> cases nodeOk node <;> cases nodeOk up <;> by_cases e0 : up = 0 <;> by_cases e1 : up = 1 <;> simp_all
  rw [HA.out] at hr
  generalize stampOk n r = q1 at hr
  generalize nameOk name = q2 at hr
  generalize nodeOk node = q3 at hr
  generalize nodeOk up = q4 at hr
  cases e0 : (up == 0) with
  | true =>
    rw [e0] at hr
    have HR := Lib.hid hr
    clear hr
    cases q1 <;> cases q2 <;> cases q3 <;> cases q4
    all_goals
      go_wp2_with fail
      have hr := HR.out
      simp at hr
      subst hr
      go_ret
      exact ⟨rfl, h2.tail, k2⟩
  | false =>
    cases e1 : (up == 1) with
    | true =>
      rw [e0, e1] at hr
      have HR := Lib.hid hr
      clear hr
      cases q1 <;> cases q2 <;> cases q3 <;> cases q4
      all_goals
        go_wp2_with fail
        have hr := HR.out
        simp at hr
        subst hr
        go_ret
        exact ⟨rfl, h2.tail, k2⟩
    | false =>
      rw [e0, e1] at hr
      have HR := Lib.hid hr
      clear hr
      cases q1 <;> cases q2 <;> cases q3 <;> cases q4
      all_goals
        go_wp2_with fail
        have hr := HR.out
        simp at hr
        subst hr
        go_ret
        exact ⟨rfl, h2.tail, k2⟩

end Go.Proofs.YtbnipieokpeadaaDoor

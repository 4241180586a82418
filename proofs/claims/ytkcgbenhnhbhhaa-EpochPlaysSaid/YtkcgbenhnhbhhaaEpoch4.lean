import Derived.Test.YtkcgbenhnhbhhaaEpoch3
import Derived.WalkSpells
namespace Go.Proofs.Ytkcgbenhnhbhhaa
open Go Go.RowKit
set_option linter.unusedVariables false
set_option linter.unusedSimpArgs false

theorem one_fW (xs : List WaitD) : ∀ u ∈ xs.flatMap fW, u.oneCell' = true := by
  intro u hu
  rw [List.mem_flatMap] at hu
  obtain ⟨x, _, hx⟩ := hu
  simp [fW] at hx
  rcases hx with rfl | rfl | rfl <;> rfl

theorem flat_take {α : Type} {f : α → List Value} {size : Nat} (hf : ∀ x, (f x).length = size) : ∀ (xs : List α) (a : Nat), (xs.flatMap f).take (a * size) = (xs.take a).flatMap f
  | [], a => by simp
  | x :: xs, 0 => by simp
  | x :: xs, a + 1 => by
    rw [List.flatMap_cons, List.take_succ_cons, List.flatMap_cons, ← flat_take hf xs a, show (a + 1) * size = (f x).length + a * size by rw [hf, Nat.add_mul]; omega, List.take_length_add_append]

theorem len_flat {α : Type} {f : α → List Value} {size : Nat} (hf : ∀ x, (f x).length = size) : ∀ xs : List α, (xs.flatMap f).length = xs.length * size
  | [] => by simp
  | x :: xs => by rw [List.flatMap_cons, List.length_append, len_flat hf xs, hf, List.length_cons, Nat.add_mul]; omega

/-- Where the first is that may go. -/
def Found (p : WaitD → Bool) (ws : List WaitD) (j : Int) : Prop :=
  (j = -1 ∧ ws.filter p = []) ∨ ∃ k : Nat, j = k ∧ k < ws.length ∧ (ws.take k).filter p = [] ∧ ∃ x, ws[k]? = some x ∧ p x = true

set_option maxRecDepth 100000 in
theorem index_free {w : World} {l : List HProp} {b bl bq : Nat} {now least : Int} {v0 : Value} {ws : List WaitD} {v : Value}
    (hs : Sat w (mayNeeds b bl bq now least v0 (rowT fW v 110 3 ws :: l))) (h0 : 0 ≤ now) (h1 : now < 9000000000000000000) (hm : ws.length ≤ 1000000) :
    Calls Try.prog 67 #[v, .func (.func 58) #[] #[.pointer (some ⟨bq, 0, none⟩), .pointer (some ⟨bl, 0, none⟩)]] w fun e w' => ∃ j : Int, e = .returned (.int .i64 j) ∧ Found (may now least) ws j ∧ Sat w' (mayNeeds b bl bq now least v0 (rowT fW v 110 3 ws :: l)) ∧ Kp w w' := by
  obtain ⟨vao, vcap, rfl⟩ := (hs.pull 3).tLen
  go_enter Try.func67, Try.ntmps67
  go_wp2_with fail
  go_loopw [8] (fun i wr => ∃ (k : Nat), k ≤ ws.length ∧ i = .int .i64 k ∧ Hid ((ws.take k).filter (may now least) = []) ∧ Sat wr (mayNeeds b bl bq now least v0 (rowT fW (.slice vao ws.length vcap) 110 3 ws :: l)) ∧ Kp w wr) (fun i _ => ws.length - (intOf i).toNat)
  case atStart => exact ⟨0, by omega, rfl, rfl, hs, Kp.refl w⟩
  case round =>
    obtain ⟨k, hk, rfl, hout, hs1, hkp⟩ := hrel
    by_cases hlt : k < ws.length
    case neg =>
      have hke : k = ws.length := by omega
      have hout2 := hout.out
      rw [hke, List.take_length] at hout2
      replace hout2 := Lib.hid hout2
      clear hke
      go_wp2_with fail
      go_ret
      exact ⟨_, rfl, .inl ⟨rfl, hout2.out⟩, hs1, hkp⟩
    obtain ⟨x, hx⟩ : ∃ x, ws[k]? = some x := ⟨ws[k], by simp⟩
    rcases (hs1.pull 3).tForm with ⟨he, hw0⟩ | ⟨g, off, cap, he⟩
    · rw [hw0] at hlt; simp at hlt
    simp only [Value.slice.injEq, true_and] at he
    obtain ⟨rfl, rfl⟩ := he
    have q0 := (hs1.pull 3).tCell len_fW k 0 hx rfl
    have q1 := (hs1.pull 3).tCell len_fW k 1 hx rfl
    have q2 := (hs1.pull 3).tCell len_fW k 2 hx rfl
    rw [Nat.add_zero] at q0
    have hnext := take_snoc' hx
    have HX := Lib.hid hx
    have j0 : (0 : Int) ≤ (k : Int) := by omega
    have j1 : (k : Int) < (ws.length : Int) := by omega
    clear hx
    go_wp2_with fail
    refine (free_may' (A := []) x (l := _) hs1 h0 h1).mono ?_
    rintro e w2 ⟨rfl, h2, k2⟩
    have k3 := hkp.trans k2
    by_cases hp : may now least x = true
    · clear hnext q0 q1 q2
      go_wp2_with fail
      go_ret
      exact ⟨_, rfl, .inr ⟨k, rfl, hlt, hout.out, x, HX.out, hp⟩, h2, k3⟩
    · have hp' : may now least x = false := by simpa using hp
      clear hp
      have hout3 : Hid ((ws.take (k + 1)).filter (may now least) = []) := by
        show _ = _
        rw [hnext, List.filter_append, hout.out]
        simp [hp']
      clear hnext q0 q1 q2
      go_wp2_with fail
      go_roundw
      case rel => exact ⟨k + 1, by omega, by go_num, hout3, h2, k3⟩
      case measure => simp [intOf]; omega

end Go.Proofs.Ytkcgbenhnhbhhaa

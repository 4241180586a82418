import Derived.Test.YtbnipieokpeadaaDoorU8
import Derived.Test.YtbnipieokpeadaaDoorName
import Derived.Deep.CutRange
import Derived.IntWalk
namespace Go.Proofs.YtbnipieokpeadaaDoor
open Go Go.RowKit
set_option linter.unusedVariables false
set_option linter.unusedSimpArgs false

/-- A byte that may be in a name. -/
def goodB (b : UInt8) : Bool := decide (32 ≤ b.toNat) && decide (b.toNat ≠ 127) && decide (b.toNat ≠ 47)
def nameOk (s : ByteArray) : Bool := s.data.toList.all goodB && (decide (1 ≤ s.size ∧ s.size ≤ 20) && Lib.validD s.data.toList)
def signOk (c : Int) : Bool := decide (32 ≤ c ∧ c ≠ 127 ∧ c ≠ 47)

theorem name_sign {w : World} (c : Int) : Calls Tryd.prog 65 #[.int .i32 c] w fun e w' => e = .returned (.bool (signOk c)) ∧ w = w' := by
  unfold signOk
  by_cases h1 : 32 ≤ c
  · cases h2 : (c != 127) with
    | false =>
      have e : c = 127 := by simpa using h2
      have e2 : decide (32 ≤ c ∧ c ≠ 127 ∧ c ≠ 47) = false := by simp [e]
      rw [e2]
      go_enter Tryd.func65, Tryd.ntmps65
      go_wp2_with fail
      go_ret
      exact ⟨rfl, rfl⟩
    | true =>
      have e : c ≠ 127 := by simpa using h2
      cases h3 : (c != 47) with
      | false =>
        have e3 : c = 47 := by simpa using h3
        have e2 : decide (32 ≤ c ∧ c ≠ 127 ∧ c ≠ 47) = false := by simp [e3]
        rw [e2]
        go_enter Tryd.func65, Tryd.ntmps65
        go_wp2_with fail
        go_ret
        exact ⟨rfl, rfl⟩
      | true =>
        have e3 : c ≠ 47 := by simpa using h3
        have e2 : decide (32 ≤ c ∧ c ≠ 127 ∧ c ≠ 47) = true := by simp [h1, e, e3]
        rw [e2]
        go_enter Tryd.func65, Tryd.ntmps65
        go_wp2_with fail
        go_ret
        exact ⟨rfl, rfl⟩
  · have e2 : decide (32 ≤ c ∧ c ≠ 127 ∧ c ≠ 47) = false := by simp [h1]
    rw [e2]
    go_enter Tryd.func65, Tryd.ntmps65
    go_wp2_with fail
    go_ret
    exact ⟨rfl, rfl⟩

theorem decode_width (s : ByteArray) (pos : Nat) (h : pos < s.size) : 1 ≤ (Utf8.decode s pos).2 ∧ pos + (Utf8.decode s pos).2 ≤ s.size ∧ ∀ j, 1 ≤ j → j < (Utf8.decode s pos).2 → 128 ≤ (s.get! (pos + j)).toNat := by
  have key : ∀ k, (decide (pos + k < s.size) && (s.get! (pos + k)).toNat / 64 == 2) = true → pos + k < s.size ∧ 128 ≤ (s.get! (pos + k)).toNat := fun k hk => by
    simp at hk
    omega
  simp only [Utf8.decode]
  split
  · exact ⟨Nat.le_refl _, h, fun j h1 h2 => by omega⟩
  split
  · rename_i h2
    simp only [Bool.and_eq_true] at h2
    have k1 := key 1 (by simpa using h2.2)
    split
    · refine ⟨by omega, by show pos + 2 ≤ _; omega, fun j a b => ?_⟩
      have b : j < 2 := b
      obtain rfl : j = 1 := by omega
      exact k1.2
    · exact ⟨Nat.le_refl _, h, fun j h1 h2 => by have h2 : j < 1 := h2; omega⟩
  split
  · rename_i h2
    simp only [Bool.and_eq_true] at h2
    have k1 := key 1 (by simpa using h2.1.2)
    have k2 := key 2 (by simpa using h2.2)
    split
    · refine ⟨by omega, by show pos + 3 ≤ _; omega, fun j a b => ?_⟩
      have b : j < 3 := b
      have : j = 1 ∨ j = 2 := by omega
      rcases this with rfl | rfl
      · exact k1.2
      · exact k2.2
    · exact ⟨Nat.le_refl _, h, fun j h1 h2 => by have h2 : j < 1 := h2; omega⟩
  split
  · rename_i h2
    simp only [Bool.and_eq_true] at h2
    have k1 := key 1 (by simpa using h2.1.1.2)
    have k2 := key 2 (by simpa using h2.1.2)
    have k3 := key 3 (by simpa using h2.2)
    split
    · refine ⟨by omega, by show pos + 4 ≤ _; omega, fun j a b => ?_⟩
      have b : j < 4 := b
      have : j = 1 ∨ j = 2 ∨ j = 3 := by omega
      rcases this with rfl | rfl | rfl
      · exact k1.2
      · exact k2.2
      · exact k3.2
    · exact ⟨Nat.le_refl _, h, fun j h1 h2 => by have h2 : j < 1 := h2; omega⟩
  · exact ⟨Nat.le_refl _, h, fun j h1 h2 => by have h2 : j < 1 := h2; omega⟩

end Go.Proofs.YtbnipieokpeadaaDoor

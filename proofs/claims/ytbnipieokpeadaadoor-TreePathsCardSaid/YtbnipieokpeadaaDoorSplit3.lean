import Derived.Test.YtbnipieokpeadaaDoorSplit2
namespace Go.Proofs.YtbnipieokpeadaaDoor
open Go Go.RowKit
set_option linter.unusedVariables false
set_option linter.unusedSimpArgs false

set_option maxHeartbeats 1000000 in
set_option maxRecDepth 100000 in
theorem prefix_yes {w : World} (s : ByteArray) {r : List UInt8} (h : s.data.toList = 47 :: r) : Calls Tryd.prog 60 #[.string s, .string ⟨#[47]⟩] w fun e w' => e = .returned (.bool true) ∧ w = w' := by
  have hsz : s.size = r.length + 1 := by
    have : s.data.toList.length = s.size := Array.length_toList
    rw [← this, h]; rfl
  have hx : ((s.extract 0 1).toList == [47]) = true := by
    rw [ext_upto, h, ByteArray.toList_eq, list_mkB]
    rfl
  have b1 : (1 : Int) ≤ (s.size : Int) := by omega
  clear h hsz
  go_enter Tryd.func60, Tryd.ntmps60
  go_wp2
  go_ret
  exact ⟨rfl, rfl⟩

theorem split_str {w : World} {l : List HProp} (s : ByteArray) (hsz : s.size ≤ 1000) (hs : Sat w l) : Calls Tryd.prog 61 #[.string s, .string ⟨#[47]⟩] w fun e w' => ∃ v, e = .returned v ∧ Sat w' (rowT fSt v 9 1 ((splitS s.data.toList).map mkB) :: l) ∧ Kp w w' := by
  go_enter Tryd.func61, Tryd.ntmps61
  go_wp2_with fail
  refine (split_gen2 s hsz hs).mono ?_
  rintro e w1 ⟨v, rfl, h1, k1⟩
  go_wp2_with fail
  go_ret
  exact ⟨v, rfl, h1, k1⟩

/-- name.Right tells that it is a name. -/
def NameRight (nm : ByteArray) : Prop := ∀ (w : World) (l : List HProp), Sat w l → Calls Tryd.prog 57 #[.string nm] w fun e w' => e = .returned (.bool true) ∧ Sat w' l ∧ Kp w w'

set_option maxHeartbeats 2000000 in
set_option maxRecDepth 100000 in
theorem name_split2 {w : World} {l : List HProp} (s : ByteArray) {r : List UInt8} (h : s.data.toList = 47 :: r) (hr : r ≠ []) (hsz : s.size ≤ 400) (hR : ∀ x ∈ splitS r, NameRight (mkB x)) (hs : Sat w l) : Calls Tryd.prog 43 #[.string s] w fun e w' => ∃ v, e = .returned (.tuple #[v, .int .i64 0]) ∧ Sat w' (rowT fSt v 9 1 ((splitS r).map mkB) :: l) ∧ Kp w w' := by
  have hrs : s.size = r.length + 1 := by
    have : s.data.toList.length = s.size := Array.length_toList
    rw [← this, h]; rfl
  have hne : (s.toList == [47]) = false := by
    rw [ByteArray.toList_eq, h]
    cases r with
    | nil => exact absurd rfl hr
    | cons a t => rfl
  have hx : s.extract 1 s.size = mkB r := by rw [ext_from, h]; rfl
  have b0 : (s.size : Int) ≤ 400 := by omega
  have b1 : (1 : Int) ≤ (s.size : Int) := by omega
  have HRS := Lib.hid hrs
  have HR := Lib.hid hR
  have hpre := prefix_yes (w := w) s h
  clear hrs hr hsz hR h
  go_enter Tryd.func43, Tryd.ntmps43
  go_wp2_with fail
  refine hpre.mono ?_
  rintro e w1 ⟨rfl, rfl⟩
  clear hpre
  go_wp2_with fail
  refine (split_str (mkB r) (by rw [mkB_size]; have := HRS.out; omega) hs).mono ?_
  rintro e w1 ⟨v, rfl, h1, k1⟩
  rw [list_mkB] at h1
  obtain ⟨ao, cap, rfl⟩ := h1.tLen
  have hl := splitS_len r
  obtain ⟨n, hn⟩ : ∃ n, n = ((splitS r).map mkB).length := ⟨_, rfl⟩
  rw [← hn] at h1 ⊢
  have hnb : n ≤ 1000 := by
    rw [hn, List.length_map, hl]
    have := count_le_size (mkB r)
    rw [list_mkB, mkB_size] at this
    have := HRS.out
    omega
  have HN := Lib.hid hn
  have HNB := Lib.hid hnb
  clear hl hn hx hnb
  go_wp2_with fail
  go_loopw [6, 22] (fun sv iv wr => ∃ i : Nat, i ≤ n ∧ iv = .int .i64 i ∧ Sat wr (rowT fSt (.slice ao n cap) 9 1 ((splitS r).map mkB) :: l) ∧ Kp w wr) (fun _ iv _ => n - (intOf iv).toNat)
  case atStart => exact ⟨0, by omega, rfl, h1, k1⟩
  case round =>
    clear h1 k1
    obtain ⟨i, hin, rfl, h2, k2⟩ := hrel
    by_cases hlt : i < n
    case neg =>
      obtain rfl : n = i := by omega
      go_wp2_with fail
      go_ret2
      exact ⟨_, rfl, h2, k2⟩
    obtain ⟨x, hx⟩ : ∃ x, ((splitS r).map mkB)[i]? = some x := ⟨_, List.getElem?_eq_getElem (by rw [← HN.out]; exact hlt)⟩
    obtain ⟨y, hy, rfl⟩ := List.mem_map.1 (List.mem_of_getElem? hx)
    rcases h2.tForm with ⟨hv, hp⟩ | ⟨g, off, cap', hv⟩
    · rw [hp] at hx; simp at hx
    simp only [Value.slice.injEq] at hv
    obtain ⟨rfl, -, rfl⟩ := hv
    have x0 := h2.tCell len_fSt2 i 0 hx rfl
    simp at x0
    have i0' : (0 : Int) ≤ (i : Int) := by omega
    have i1' : (i : Int) < (n : Int) := by omega
    have iw : IntKind.i64.wrap ((i : Int) + 1) = (i : Int) + 1 := by have := HNB.out; rw [IntWalk.i64_in _ (by omega)]
    have hcall := HR.out y hy _ _ h2
    clear hx hy
    go_wp2_with fail
    refine hcall.mono ?_
    rintro e w2 ⟨rfl, h3, k3⟩
    have k3 := k2.trans k3
    clear hcall h2 k2 x0
    go_wp2_with fail
    go_roundw
    case rel => exact ⟨i + 1, by omega, by go_num, h3, k3⟩
    case measure => simp [intOf]; omega

end Go.Proofs.YtbnipieokpeadaaDoor

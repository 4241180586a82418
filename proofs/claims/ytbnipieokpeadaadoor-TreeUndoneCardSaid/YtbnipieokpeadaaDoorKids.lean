import Derived.Test.YtbnipieokpeadaaDoorPick
namespace Go.Proofs.YtbnipieokpeadaaDoor
open Go Go.RowKit
set_option linter.unusedVariables false
set_option linter.unusedSimpArgs false

theorem tree_kids {w : World} {l : List HProp} {t : Nat} {f : Int → Option Loc} {ds : List ChD} {n : Int} (hs : Sat w (treeP t f ds :: l)) (hF : Few f) :
    Calls Tryd.prog 16 #[.pointer (some ⟨t, 0, none⟩), .int .i64 n] w fun e w' => ∃ S v, Enum f S ∧ e = .returned v ∧ Sat w' (rowT fK v 39 3 (isort klt (kidsOf (fun p => p.2.up == n) S)) :: treeP t f ds :: l) ∧ Kp w w' := by
  have hmf : ∀ (fn : Fn) (first cap : Array Value) (w : World), (Instr.makeFunc fn first cap).run Tryd.prog w = .ok (.func fn first cap) w := fun _ _ _ _ => rfl
  have hB := (hs.alloc (.cells #[.int .i64 n] 3)).swap
  have kB := (Kp.refl w).alloc (.cells #[.int .i64 n] 3)
  go_enter Tryd.func16, Tryd.ntmps16
  go_wp2_with fail
  refine (picked_kids hB hF).mono ?_
  rintro e w1 ⟨S, v, hS, rfl, h1, k1⟩
  go_wp2_with fail
  go_ret
  exact ⟨S, v, hS, rfl, (h1.pull 2).tail, kB.trans k1⟩
theorem tree_all {w : World} {l : List HProp} {t : Nat} {f : Int → Option Loc} {ds : List ChD} (hs : Sat w (treeP t f ds :: l)) (hF : Few f) :
    Calls Tryd.prog 27 #[.pointer (some ⟨t, 0, none⟩)] w fun e w' => ∃ S v, Enum f S ∧ e = .returned v ∧ Sat w' (rowT fK v 39 3 (isort klt (kidsOf (fun _ => true) S)) :: treeP t f ds :: l) ∧ Kp w w' := by
  go_enter Tryd.func27, Tryd.ntmps27
  go_wp2_with fail
  refine (picked_all hs hF).mono ?_
  rintro e w1 ⟨S, v, hS, rfl, h1, k1⟩
  go_wp2_with fail
  go_ret
  exact ⟨S, v, hS, rfl, h1, k1⟩

theorem named_is {w : World} {l : List HProp} {C : Nat} {nm : ByteArray} (hs : Sat w (own C (.cells #[.string nm] 9 (0, 0)) :: l)) (k : KidD) :
    Calls Tryd.prog 45 #[.agg #[.int .i64 k.up, .string k.name, .int .i64 k.node], .pointer (some ⟨C, 0, none⟩)] w fun e w' => e = .returned (.bool (sEq k.name nm)) ∧ Sat w' (own C (.cells #[.string nm] 9 (0, 0)) :: l) ∧ Kp w w' := by
  have b0 := hs.cell 0
  have hB := hs.lt
  simp at b0
  go_enter Tryd.func45, Tryd.ntmps45
  go_wp2_with fail
  go_ret
  exact ⟨rfl, hs.alloc' _, (Kp.refl w).alloc _⟩

set_option maxRecDepth 100000 in
set_option maxHeartbeats 2000000 in
theorem kid_index {w : World} {l : List HProp} {C : Nat} {nm : ByteArray} {v : Value} {ks : List KidD} (hs : Sat w (rowT fK v 39 3 ks :: own C (.cells #[.string nm] 9 (0, 0)) :: l)) (h8 : ks.length ≤ 1000) :
    Calls Tryd.prog 44 #[v, .func (.func 45) #[] #[.pointer (some ⟨C, 0, none⟩)]] w fun e w' => ∃ r : Int, e = .returned (.int .i64 r) ∧ ((r = -1 ∧ ∀ k ∈ ks, sEq k.name nm = false) ∨ ∃ (j : Nat) (k : KidD), r = j ∧ ks[j]? = some k ∧ sEq k.name nm = true ∧ ∀ i, i < j → ∀ k', ks[i]? = some k' → sEq k'.name nm = false) ∧ Sat w' (rowT fK v 39 3 ks :: own C (.cells #[.string nm] 9 (0, 0)) :: l) ∧ Kp w w' := by
  obtain ⟨ao, cap, rfl⟩ := hs.tLen
  obtain ⟨n, hn⟩ : ∃ n, n = ks.length := ⟨_, rfl⟩
  rw [← hn] at hs ⊢
  have HN := Lib.hid hn
  have h12 : (n : Int) ≤ 1000 := by omega
  clear hn h8
  go_enter Tryd.func44, Tryd.ntmps44
  go_wp2_with fail
  go_loopw [8] (fun iv wr => ∃ i : Nat, i ≤ n ∧ iv = .int .i64 i ∧ Hid (∀ j, j < i → ∀ k', ks[j]? = some k' → sEq k'.name nm = false) ∧ Sat wr (rowT fK (.slice ao n cap) 39 3 ks :: own C (.cells #[.string nm] 9 (0, 0)) :: l) ∧ Kp w wr) (fun iv _ => n - (intOf iv).toNat)
  case atStart => exact ⟨0, by omega, rfl, Lib.hid (fun j hj => absurd hj (Nat.not_lt_zero _)), hs, Kp.refl w⟩
  case round =>
    obtain ⟨i, hin, rfl, hno, h2, k2⟩ := hrel
    by_cases hlt : i < n
    case neg =>
      obtain rfl : i = n := by omega
      go_wp2_with fail
      go_ret
      refine ⟨-1, rfl, .inl ⟨rfl, fun k hk => ?_⟩, h2, k2⟩
      obtain ⟨j, hj⟩ := List.getElem?_of_mem hk
      exact hno.out j (by rw [HN.out]; exact (List.getElem?_eq_some_iff.1 hj).1) k hj
    obtain ⟨x, hx⟩ : ∃ x, ks[i]? = some x := ⟨ks[i]'(by rw [← HN.out]; exact hlt), by simp⟩
    rcases h2.tForm with ⟨hv, hp⟩ | ⟨g, off, cap', hv⟩
    · rw [hp] at hx; simp at hx
    simp only [Value.slice.injEq] at hv
    obtain ⟨rfl, -, rfl⟩ := hv
    have x0 := h2.tCell len_fK i 0 hx rfl
    have x1 := h2.tCell len_fK i 1 hx rfl
    have x2 := h2.tCell len_fK i 2 hx rfl
    rw [Nat.add_zero] at x0
    have i0 : (0 : Int) ≤ (i : Int) := by omega
    have i1 : (i : Int) < (n : Int) := by omega
    have HX := Lib.hid hx
    clear hx
    go_wp2_with fail
    refine (named_is (h2.pull 1) x).mono ?_
    rintro e w3 ⟨rfl, h3, k3⟩
    cases hb : sEq x.name nm with
    | true =>
      go_wp2_with fail
      go_ret
      exact ⟨i, rfl, .inr ⟨i, x, rfl, HX.out, hb, hno.out⟩, h3.swap, k2.trans k3⟩
    | false =>
      go_wp2_with fail
      go_roundw
      case rel =>
        refine ⟨i + 1, by omega, by go_num, Lib.hid ?_, h3.swap, k2.trans k3⟩
        intro j hj k' hk'
        by_cases hji : j = i
        · subst hji
          rw [HX.out] at hk'
          cases hk'
          exact hb
        · exact hno.out j (by omega) k' hk'
      case measure => simp [intOf]; omega

end Go.Proofs.YtbnipieokpeadaaDoor

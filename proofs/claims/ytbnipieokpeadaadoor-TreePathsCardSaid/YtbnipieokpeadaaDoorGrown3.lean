import Derived.Test.YtbnipieokpeadaaDoorGrown
namespace Go.Proofs.YtbnipieokpeadaaDoor
open Go Go.RowKit
set_option linter.unusedVariables false
set_option linter.unusedSimpArgs false

/-- Each name is a small letter; what is, is below what is. -/
def Lettered (f : Int → Option Loc) : Prop := ∀ k l, f k = some l → (∃ j, j < 8 ∧ l.name = letter j) ∧ known f l.up = true
theorem known_upd {f : Int → Option Loc} {n k : Int} {s : Loc} (h : known f k = true) : known (upd f n (some s)) k = true := by
  unfold known at h ⊢
  by_cases e : k = n
  · subst e; rw [upd_same]; simp
  · rw [upd_other e]; exact h

set_option maxRecDepth 100000 in
set_option maxHeartbeats 2000000 in
theorem tree_grown3 {w : World} {l : List HProp} {v : Value} {os : List OpD} (hs : Sat w (rowT fO v 33 5 os :: l)) (hsm : ∀ o ∈ os, Small o) (hn : os.length ≤ 30) :
    Calls Tryd.prog 12 #[v] w fun e w' => ∃ t f ds, Acyc f ∧ Few f ∧ ds.length = os.length ∧ Lettered f ∧ e = .returned (.pointer (some ⟨t, 0, none⟩)) ∧ Sat w' (treeP t f ds :: rowT fO v 33 5 os :: l) ∧ Kp w w' := by
  obtain ⟨ao, cap, rfl⟩ := hs.tLen
  obtain ⟨n, hn0⟩ : ∃ n, n = os.length := ⟨_, rfl⟩
  rw [← hn0] at hs hn ⊢
  have HN := Lib.hid hn0
  have HS := Lib.hid hsm
  have hn' : (n : Int) ≤ 30 := by omega
  clear hn0 hsm
  go_enter Tryd.func12, Tryd.ntmps12
  go_wp2_with fail
  refine (tree_new hs).mono ?_
  rintro e w1 ⟨t, rfl, h1, k1⟩
  go_wp2_with fail
  go_loopw [4] (fun iv wr => ∃ (i : Nat) (f : Int → Option Loc) (ds : List ChD), i ≤ n ∧ iv = .int .i64 i ∧ Hid (Acyc f ∧ Few f ∧ ds.length = i ∧ Lettered f) ∧ Sat wr (treeP t f ds :: rowT fO (.slice ao n cap) 33 5 os :: l) ∧ Kp w wr) (fun iv _ => n - (intOf iv).toNat)
  case atStart => exact ⟨0, _, _, by omega, rfl, Lib.hid ⟨acyc_empty, few_empty, rfl, fun k l hk => by cases hk⟩, h1, k1⟩
  case round =>
    clear h1 k1
    obtain ⟨i, f, ds, hin, rfl, hI, h2, k2⟩ := hrel
    by_cases hlt : i < n
    case neg =>
      obtain rfl : n = i := by omega
      go_wp2_with fail
      go_ret
      exact ⟨t, f, ds, hI.out.1, hI.out.2.1, hI.out.2.2.1, hI.out.2.2.2, rfl, h2, k2⟩
    obtain ⟨o, ho⟩ : ∃ o, os[i]? = some o := ⟨os[i]'(by rw [← HN.out]; exact hlt), by simp⟩
    rcases (h2.pull 1).tForm with ⟨hv, hp⟩ | ⟨g, off, cap', hv⟩
    · rw [hp] at ho; simp at ho
    simp only [Value.slice.injEq] at hv
    obtain ⟨rfl, -, rfl⟩ := hv
    have x0 := (h2.pull 1).tCell len_fO i 0 ho rfl
    have x1 := (h2.pull 1).tCell len_fO i 1 ho rfl
    have x2 := (h2.pull 1).tCell len_fO i 2 ho rfl
    have x3 := (h2.pull 1).tCell len_fO i 3 ho rfl
    have x4 := (h2.pull 1).tCell len_fO i 4 ho rfl
    rw [Nat.add_zero] at x0
    have i0' : (0 : Int) ≤ (i : Int) := by omega
    have i1' : (i : Int) < (n : Int) := by omega
    have hso := HS.out o (List.mem_of_getElem? ho)
    obtain ⟨r, hr⟩ : ∃ r : Bool, r = true ↔ known f o.up = true ∧ ¬ Anc f o.node o.up := by
      by_cases h : known f o.up = true ∧ ¬ Anc f o.node o.up
      · exact ⟨true, fun _ => h, fun _ => rfl⟩
      · exact ⟨false, fun e => (by cases e), fun e => absurd e h⟩
    have hcall := tree_apply (o := o) h2 hI.out.1 (isRight_small hso) hr (by rw [hI.out.2.2.1]; omega)
    have hA' : Hid (Acyc (applied f o r) ∧ Few (applied f o r)) := by
      refine Lib.hid ?_
      cases r with
      | false => exact ⟨hI.out.1, hI.out.2.1⟩
      | true => exact ⟨hI.out.1.put (hr.1 rfl).2, hI.out.2.1.put hso.node0 hso.node1⟩
    have hD' : Hid (Lettered (applied f o r)) := by
      refine Lib.hid ?_
      cases r with
      | false => exact hI.out.2.2.2
      | true =>
        intro k l hk
        by_cases e : k = o.node
        · subst e
          rw [show applied f o true = upd f o.node (some ⟨o.up, o.name⟩) from rfl, upd_same] at hk
          cases hk
          exact ⟨hso.nm, known_upd (hr.1 rfl).1⟩
        · rw [show applied f o true = upd f o.node (some ⟨o.up, o.name⟩) from rfl, upd_other e] at hk
          exact ⟨(hI.out.2.2.2 k l hk).1, known_upd (hI.out.2.2.2 k l hk).2⟩
    clear hso hr ho
    go_wp2_with fail
    refine hcall.mono ?_
    rintro e w3 ⟨rfl, h3, k3⟩
    go_wp2_with fail
    go_roundw
    case rel => exact ⟨i + 1, _, _, by omega, by go_num, Lib.hid ⟨hA'.out.1, hA'.out.2, by rw [List.length_append, hI.out.2.2.1]; rfl, hD'.out⟩, h3, k2.trans k3⟩
    case measure => simp [intOf]; omega

end Go.Proofs.YtbnipieokpeadaaDoor

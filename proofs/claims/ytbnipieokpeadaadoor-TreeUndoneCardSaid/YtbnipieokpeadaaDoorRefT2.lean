import Derived.Test.YtbnipieokpeadaaDoorRefT
namespace Go.Proofs.YtbnipieokpeadaaDoor
open Go Go.RowKit
set_option linter.unusedVariables false
set_option linter.unusedSimpArgs false

set_option maxRecDepth 100000 in
set_option maxHeartbeats 1000000 in
theorem ref_above {w : World} {l : List HProp} {t : Nat} {L : List KidD} {Ws : List (List KidD)} {f : Int → Option Loc} {a b : Int} {k : Nat} {r : Bool} (hs : Sat w (refP t L Ws :: l)) (hE : EnumK f L) (hL : L.length ≤ 1000) (hk : Reach f b k) (hkl : k ≤ L.length) (hr : r = true ↔ known f b = true ∧ Anc f a b) :
    Calls Tryd.prog 21 #[.pointer (some ⟨t, 0, none⟩), .int .i64 a, .int .i64 b] w fun e w' => e = .returned (.bool r) ∧ w = w' := by
  have hkc := ref_known (n := b) hs hE hL
  obtain ⟨ao, cap, c0, ha, ht⟩ := refP_L hs
  have hL' : (L.length : Int) ≤ 1000 := by omega
  cases hkn : known f b with
  | false =>
    have hr' : r = false := by
      cases r with
      | false => rfl
      | true => have := (hr.1 rfl).1; rw [hkn] at this; cases this
    subst hr'
    rw [hkn] at hkc
    clear hr
    go_enter Tryd.func21, Tryd.ntmps21
    go_wp2_with fail
    refine hkc.mono ?_
    rintro e w1 ⟨rfl, rfl⟩
    go_wp2_with fail
    go_ret
    exact ⟨rfl, rfl⟩
  | true =>
    have hr2 : r = true ↔ Anc f a b := by rw [hr, hkn]; simp
    have HR := Lib.hid hr2
    rw [hkn] at hkc
    clear hr hr2 hkn
    have HE := Lib.hid hE
    have HL := Lib.hid hL
    have HK := Lib.hid hk
    generalize hn : L.length = m at ha c0 hkl hL'
    have HN := Lib.hid hn
    clear hn hE hk
    go_enter Tryd.func21, Tryd.ntmps21
    go_wp2_with fail
    refine hkc.mono ?_
    rintro e w1 ⟨rfl, rfl⟩
    clear hkc
    go_wp2_with fail
    go_loop [2, 8, 9] (fun bv iv kv => ∃ (b' : Int) (k' i : Nat), bv = .int .i64 b' ∧ iv = .int .i64 i ∧ i + k' ≤ m ∧ Hid (Reach f b' k') ∧ Hid (r = true ↔ Anc f a b')) (fun _ iv _ => m + 1 - (intOf iv).toNat)
    case atStart => exact ⟨b, k, 0, rfl, rfl, by omega, HK, HR⟩
    case round =>
      clear HK HR hkl
      obtain ⟨b', k', i, rfl, rfl, hik, HK, HR⟩ := hrel
      have j0 : (i : Int) ≤ (m : Int) := by omega
      have iw : IntKind.i64.wrap ((i : Int) + 1) = (i : Int) + 1 := by rw [IntWalk.i64_in _ (by omega)]
      cases hab : (a == b') with
      | true =>
        obtain rfl : a = b' := by simpa using hab
        have hr' : r = true := HR.out.2 .here
        subst hr'
        go_wp2_with fail
        go_ret
        exact ⟨rfl, rfl⟩
      | false =>
        have hne : a ≠ b' := by simpa using hab
        cases hf : f b' with
        | none =>
          have hr' : r = false := by
            cases r with
            | false => rfl
            | true => exact absurd ((HR.out.1 rfl).stop hf) hne
          subst hr'
          have hat := ref_at_none (x := b') ha HE.out hf (by rw [← HN.out]; exact HL.out)
          clear hf hne
          go_wp2_with fail
          refine hat.mono ?_
          rintro e w2 ⟨rfl, rfl⟩
          go_wp2_with fail
          go_ret
          exact ⟨rfl, rfl⟩
        | some s =>
          obtain ⟨k2, hk2, hk3⟩ : ∃ k2, Reach f s.up k2 ∧ k' = k2 + 1 := by
            cases HK.out with
            | zero e => rw [hf] at e; cases e
            | succ e h => rw [hf] at e; cases e; exact ⟨_, h, rfl⟩
          have HR2 := Lib.hid (HR.out.trans (Anc.step hf hne))
          have HK2 := Lib.hid hk2
          have hat := ref_at_some (x := b') ha HE.out hf (by rw [← HN.out]; exact HL.out)
          clear hf hne hk2 HR HK
          go_wp2_with fail
          refine hat.mono ?_
          rintro e w2 ⟨q, rfl, hq, rfl⟩
          clear hat
          have hilt := (List.getElem?_eq_some_iff.1 hq).1
          rw [HN.out] at hilt
          obtain ⟨bb, off, rfl⟩ := ha.some hilt
          have y0 := ha.cell len_fK 0 rfl hq rfl
          rw [Nat.add_zero] at y0
          have i0' : (0 : Int) ≤ (q : Int) := by omega
          have i1' : (q : Int) < (m : Int) := by omega
          clear hq
          go_wp2_with fail
          go_round
          case rel => exact ⟨s.up, k2, i + 1, rfl, by go_num, by omega, HK2, HR2⟩
          case measure => simp [intOf]; omega

end Go.Proofs.YtbnipieokpeadaaDoor

import Derived.Test.YtbnipieokpeadaaDoorSpot
import Derived.Test.YtbnipieokpeadaaDoorPaths
namespace Go.Proofs.YtbnipieokpeadaaDoor
open Go Go.RowKit
set_option linter.unusedVariables false
set_option linter.unusedSimpArgs false

theorem all_mem {f : Int → Option Loc} {S : List (Int × Loc)} {k : KidD} (hS : Enum f S) (hk : k ∈ isort klt (kidsOf (fun _ => true) S)) : f k.node ≠ none := by
  have h1 := (isort_perm klt _).mem_iff.1 hk
  unfold kidsOf at h1
  obtain ⟨p, hp, rfl⟩ := List.mem_map.1 h1
  have := hS.mem p (List.mem_filter.1 hp).1
  intro e
  rw [show (kidOf p).node = p.1 from rfl, this] at e
  cases e

set_option maxRecDepth 100000 in
set_option maxHeartbeats 4000000 in
theorem treePaths_walk (ao : Option Addr) (n cap : Nat) (ts : List TinyD) (W : World) (hr : ArgRow W fT ao n cap ts) (hq : ∀ t ∈ ts, TinyOk t) :
    LawCalls Tryd.prog 7 #[.slice ao n cap] W := by
  have H0 := Sat.start W
  have hle := hr.le
  have hsm := hr.small
  unfold maxLen at hsm
  have HL := Lib.hid hr.len
  have HQ := Lib.hid hq
  clear hq
  go_enter Tryd.func7, Tryd.ntmps7
  go_wp2_with fail
  refine (tree_awake H0).mono ?_
  rintro e w1 ⟨rfl, h1, k1⟩
  clear H0
  by_cases hmost : 30 < n
  · have hmost' : (30 : Int) < (n : Int) := by omega
    clear hmost
    go_wp2_with fail
    go_ret
    exact ⟨rfl, h1.below k1⟩
  have hmost' : (n : Int) ≤ 30 := by omega
  go_wp2_with fail
  refine (tiny_all h1 hr HQ.out (by omega)).mono ?_
  rintro e w2 ⟨v, rfl, h2, k2⟩
  go_wp2_with fail
  refine (tree_grown3 h2 ?_ (by rw [List.length_map, HL.out]; omega)).mono ?_
  · intro o ho
    obtain ⟨t, ht, rfl⟩ := List.mem_map.1 ho
    exact small_ofT (HQ.out t ht)
  rintro e w3 ⟨t, f, ds, hA, hF, hd, hlt, rfl, h3, k3⟩
  have k3 := (k1.trans k2).trans k3
  have HF := Lib.hid hF
  have HLT := Lib.hid hlt
  clear hA hF hd hlt h1 k1 h2 k2
  go_wp2_with fail
  refine (tree_all h3 HF.out).mono ?_
  rintro e w4 ⟨S, kv, hS, rfl, h4, k4⟩
  have k4 := k3.trans k4
  clear h3 k3
  have hkl : (isort klt (kidsOf (fun _ => true) S)).length ≤ 8 := by
    rw [(isort_perm klt _).length_eq]
    exact Nat.le_trans (kidsOf_len _ _) (HF.out.length hS.mem hS.nodup)
  have HKM := Lib.hid (show ∀ k ∈ isort klt (kidsOf (fun _ => true) S), f k.node ≠ none from fun k hk => all_mem hS hk)
  generalize isort klt (kidsOf (fun _ => true) S) = ks at h4 hkl HKM
  clear hS
  obtain ⟨kao, kcap, rfl⟩ := h4.tLen
  obtain ⟨q, hq⟩ : ∃ q, q = ks.length := ⟨_, rfl⟩
  rw [← hq] at h4 hkl ⊢
  have HQK := Lib.hid hq
  have hkl' : (q : Int) ≤ 8 := by omega
  clear hq
  go_wp2_with fail
  go_loopw [6, 7, 8, 9, 10, 11, 12, 13, 14, 15] (fun iv pv fv nv kv' sv cv mv av ev wr => ∃ i : Nat, i ≤ q ∧ iv = .int .i64 i ∧ Sat wr [rowT fK (.slice kao q kcap) 39 3 ks, treeP t f ds, rowT fO v 33 5 (ts.map ofT), oldH W] ∧ Kp W wr) (fun iv _ _ _ _ _ _ _ _ _ _ => q - (intOf iv).toNat)
  case atStart => exact ⟨0, by omega, rfl, h4, k4⟩
  case round =>
    clear h4 k4
    obtain ⟨i, hiq, rfl, h2, k2⟩ := hrel
    by_cases hlt : i < q
    case neg =>
      obtain rfl : q = i := by omega
      go_wp2_with fail
      go_ret
      exact ⟨rfl, (h2.pull 3).below k2⟩
    obtain ⟨x, hx⟩ : ∃ x, ks[i]? = some x := ⟨_, List.getElem?_eq_getElem (by rw [← HQK.out]; exact hlt)⟩
    rcases h2.tForm with ⟨hv, hp⟩ | ⟨g, off, cap', hv⟩
    · rw [hp] at hx; simp at hx
    simp only [Value.slice.injEq] at hv
    obtain ⟨rfl, -, rfl⟩ := hv
    have x2 := h2.tCell len_fK i 2 hx rfl
    have hfx := HKM.out x (List.mem_of_getElem? hx)
    have i0' : (0 : Int) ≤ (i : Int) := by omega
    have i1' : (i : Int) < (q : Int) := by omega
    have HX := Lib.hid hx
    have HFX := Lib.hid hfx
    clear hx hfx
    go_wp2_with fail
    clear x2
    go_loopw [7, 8, 9, 10, 11, 12, 13] (fun pv fv nv kv' sv cv mv wr => ∃ (js : List Nat) (fst : Bool) (nn : Int) (k : Nat), k ≤ q + 1 ∧ pv = .string (mkB (pathB js)) ∧ fv = .bool fst ∧ nv = .int .i64 nn ∧ kv' = .int .i64 k ∧ Hid (js.length = k ∧ (∀ j ∈ js, j < 8) ∧ Chain f nn (js.map letter) x.node ∧ (fst = true → FChain f nn (js.map letter) x.node) ∧ known f nn = true ∧ (k = 0 → nn = x.node)) ∧ Sat wr [rowT fK (.slice (some ⟨g, off, none⟩) q kcap) 39 3 ks, treeP t f ds, rowT fO v 33 5 (ts.map ofT), oldH W] ∧ Kp W wr) (fun _ _ _ kv' _ _ _ _ => q + 1 - (intOf kv').toNat)
    case atStart =>
      refine ⟨[], true, x.node, 0, by omega, rfl, rfl, rfl, rfl, Lib.hid ⟨rfl, by simp, rfl, fun _ => rfl, ?_, fun _ => rfl⟩, h2, k2⟩
      have := HFX.out
      unfold known
      cases h : f x.node with
      | none => exact absurd h this
      | some l => rfl
    case round =>
      clear h2 k2
      obtain ⟨js, fst, nn, k, hkq, rfl, rfl, rfl, rfl, hI, h2, k2⟩ := hrel
      have hnx : k = 0 → nn ≠ 0 ∧ nn ≠ 1 := fun h => by
        have h1 := hI.out.2.2.2.2.2 h
        have h2 := HFX.out
        rw [← h1] at h2
        cases hf : f nn with
        | none => exact absurd hf h2
        | some l => have := HF.out nn l hf; omega
      have hex : nn = 0 ∨ nn = 1 ∨ k = q + 1 → ∃ j js2, js = j :: js2 ∧ js2.length ≤ 100 := fun h => by
        have hk : k ≠ 0 := fun e => by have := hnx e; omega
        have h1 := hI.out.1
        cases js with
        | nil => exact absurd h1.symm hk
        | cons j js2 => exact ⟨j, js2, rfl, by simp at h1; omega⟩
      by_cases hstop : nn = 0 ∨ nn = 1 ∨ k = q + 1
      case pos =>
        obtain ⟨j, js2, rfl, hl2⟩ := hex hstop
        have hfind := tree_find_path (h2.pull 1) HF.out hI.out.2.1 hl2
        have hchain := hI.out.2.2.1
        have hfch := hI.out.2.2.2.1
        have HCH := Lib.hid hchain
        have HFC := Lib.hid hfch
        clear hI hnx hex hchain hfch hl2
        by_cases hn0 : nn = 0
        · subst hn0
          clear hstop
          go_wp2_with fail
          refine hfind.mono ?_
          rintro e w5 ⟨a, er, rfl, hR, h3, k3⟩
          have k3 := k2.trans k3
          have h3 := h3.swap
          clear hfind h2 k2
          have x2 := h3.tCell len_fK i 2 HX.out rfl
          cases fst with
          | false =>
            go_wp2_with fail
            go_roundw
            case rel => exact ⟨i + 1, by omega, by go_num, h3, k3⟩
            case measure => simp [intOf]; omega
          | true =>
            obtain ⟨ha, he⟩ := (HFC.out rfl).find hR
            subst ha
            subst he
            clear hR
            go_wp2_with fail
            go_roundw
            case rel => exact ⟨i + 1, by omega, by go_num, h3, k3⟩
            case measure => simp [intOf]; omega
        · by_cases hn1 : nn = 1
          · subst hn1
            clear hstop hn0
            go_wp2_with fail
            refine hfind.mono ?_
            rintro e w5 ⟨a, er, rfl, hR, h3, k3⟩
            have k3 := k2.trans k3
            have h3 := h3.swap
            clear hfind h2 k2
            have x2 := h3.tCell len_fK i 2 HX.out rfl
            cases he : (er == 0) with
            | false =>
              clear hR
              go_wp2_with fail
              go_roundw
              case rel => exact ⟨i + 1, by omega, by go_num, h3, k3⟩
              case measure => simp [intOf]; omega
            | true =>
              have he' : er = 0 := by simpa using he
              subst he'
              have hax : (a == x.node) = false := by
                rw [beq_eq_false_iff_ne]
                rintro rfl
                have := Chain.uniq hR.chain HCH.out
                cases this
              clear hR he
              go_wp2_with fail
              go_roundw
              case rel => exact ⟨i + 1, by omega, by go_num, h3, k3⟩
              case measure => simp [intOf]; omega
          · have e1 : (nn == 1) = false := by simpa using hn1
            have e0 : (nn == 0) = false := by simpa using hn0
            have e3 : (nn != 1) = true := by simpa using hn1
            have e2 : (nn != 0) = true := by simpa using hn0
            have hkq' : k = q + 1 := by omega
            have e4 : ¬ (k : Int) ≤ (q : Int) := by omega
            clear hstop hn0 hn1 hkq'
            go_wp2_with fail
            refine hfind.mono ?_
            rintro e w5 ⟨a, er, rfl, hR, h3, k3⟩
            have k3 := k2.trans k3
            have h3 := h3.swap
            clear hfind h2 k2 hR
            have x2 := h3.tCell len_fK i 2 HX.out rfl
            go_wp2_with fail
            go_roundw
            case rel => exact ⟨i + 1, by omega, by go_num, h3, k3⟩
            case measure => simp [intOf]; omega
      have hn0 : nn ≠ 0 := fun h => hstop (.inl h)
      have hn1 : nn ≠ 1 := fun h => hstop (.inr (.inl h))
      have hk2 : k ≤ q := by
        rcases Nat.lt_or_ge q k with h | h
        · exact absurd (.inr (.inr (by omega))) hstop
        · exact h
      have e3 : (nn != 1) = true := by simpa using hn1
      have e2 : (nn != 0) = true := by simpa using hn0
      have e4 : (k : Int) ≤ (q : Int) := by omega
      obtain ⟨loc, hloc⟩ : ∃ loc, f nn = some loc := by
        have h := hI.out.2.2.2.2.1
        unfold known at h
        cases hf : f nn with
        | some l => exact ⟨l, rfl⟩
        | none => rw [hf] at h; simp [hn0, hn1] at h
      obtain ⟨⟨jj, hjj, hnm⟩, hup⟩ := HLT.out nn loc hloc
      have hloc2 : f nn = some ⟨loc.up, letter jj⟩ := by rw [hloc, ← hnm]
      have HI2 := Lib.hid (show (jj :: js).length = k + 1 ∧ (∀ j ∈ jj :: js, j < 8) ∧ Chain f loc.up ((jj :: js).map letter) x.node ∧ (fst = true → (∀ k', f k' = some ⟨loc.up, letter jj⟩ → nn ≤ k') → FChain f loc.up ((jj :: js).map letter) x.node) ∧ known f loc.up = true from
        ⟨by rw [List.length_cons, hI.out.1], fun j hj => (List.mem_cons.1 hj).elim (fun e => by rw [e]; exact hjj) (hI.out.2.1 j), ⟨nn, hloc2, hI.out.2.2.1⟩, fun h1 h2 => ⟨nn, hloc2, h2, hI.out.2.2.2.1 h1⟩, hup⟩)
      have hcat : ((⟨#[47]⟩ : ByteArray) ++ loc.name) ++ mkB (pathB js) = mkB (pathB (jj :: js)) := by rw [hnm]; exact cat_path jj js
      have HNM := Lib.hid hnm
      have HLOC := Lib.hid hloc
      clear hI hnx hex hstop hn0 hn1 hloc2 hnm hup hloc
      have hsp := tree_spot (n := nn) (h2.pull 1)
      rw [HLOC.out] at hsp
      simp only [vL] at hsp
      go_wp2_with fail
      refine hsp.mono ?_
      rintro e w5 ⟨rfl, h3, k3⟩
      have k3 := k2.trans k3
      clear hsp h2 k2
      have hP := h3.alloc (.cells #[.bool true, .int .i64 loc.up, .string loc.name] 49)
      have kP := k3.alloc (.cells #[.bool true, .int .i64 loc.up, .string loc.name] 49)
      go_upto_region 18 with (fail)
      generalize World.alloc _ _ = w6 at hP kP ⊢
      generalize w5.heap.size = P at hP ⊢
      clear h3 k3
      have p1 := hP.cell 1
      simp at p1
      have hkc := tree_kids (n := loc.up) (hP.pull 1) HF.out
      go_wp2_with fail
      refine hkc.mono ?_
      rintro e w7 ⟨S, kv2, hS, rfl, h4, k4⟩
      have k4 := kP.trans k4
      clear hkc hP kP p1
      have hkids := Lib.hid (show ∀ k', f k' = some ⟨loc.up, loc.name⟩ → (⟨loc.up, loc.name, k'⟩ : KidD) ∈ isort klt (kidsOf (fun p => p.2.up == loc.up) S) from fun k' hk' => mem_kids hS hk')
      have hpl : (isort klt (kidsOf (fun p => p.2.up == loc.up) S)).length ≤ 8 := by
        rw [(isort_perm klt _).length_eq]
        exact Nat.le_trans (kidsOf_len _ _) (HF.out.length hS.mem hS.nodup)
      generalize isort klt (kidsOf (fun p => p.2.up == loc.up) S) = kids at h4 hkids hpl
      clear hS
      obtain ⟨lao, lcap, rfl⟩ := h4.tLen
      obtain ⟨p, hp⟩ : ∃ p, p = kids.length := ⟨_, rfl⟩
      rw [← hp] at h4 hpl ⊢
      have HPK := Lib.hid hp
      clear hp
      go_wp2_with fail
      go_loopw [8, 13] (fun fv mv wr => ∃ (fst2 : Bool) (m : Nat), m ≤ p ∧ fv = .bool fst2 ∧ mv = .int .i64 m ∧ Hid (fst2 = true → fst = true ∧ ∀ j, j < m → ∀ kk, kids[j]? = some kk → kk.name = loc.name → ¬ kk.node < nn) ∧ Sat wr [rowT fK (.slice lao p lcap) 39 3 kids, treeP t f ds, own P (.cells #[.bool true, .int .i64 loc.up, .string loc.name] 49 (0, 0)), rowT fK (.slice (some ⟨g, off, none⟩) q kcap) 39 3 ks, rowT fO v 33 5 (ts.map ofT), oldH W] ∧ Kp W wr) (fun _ mv _ => p - (intOf mv).toNat)
      case atStart => exact ⟨fst, 0, by omega, rfl, rfl, Lib.hid (fun h => ⟨h, fun j hj => absurd hj (Nat.not_lt_zero _)⟩), h4, k4⟩
      case round =>
        clear h4 k4
        obtain ⟨fst2, m, hmp, rfl, rfl, hJ, h2, k2⟩ := hrel
        by_cases hlt2 : m < p
        case neg =>
          obtain rfl : p = m := by omega
          have d1 := (h2.pull 2).cell 1
          have d2 := (h2.pull 2).cell 2
          simp at d1 d2
          have hn1 : loc.name.size = 1 := by rw [HNM.out]; rfl
          have hps : (mkB (pathB js)).size ≤ 1000 := by rw [mkB_size, pathB_len]; have := HI2.out.1; simp at this; omega
          have hz1 : ¬ 9223372036854775807 < 1 + loc.name.size := by omega
          have hz2 : ¬ 9223372036854775807 < 1 + loc.name.size + (mkB (pathB js)).size := by omega
          clear hn1 hps
          have HI3 := Lib.hid (show fst2 = true → FChain f loc.up ((jj :: js).map letter) x.node from fun h => HI2.out.2.2.2.1 (hJ.out h).1 (fun k' hk' => by
            rw [← HNM.out] at hk'
            obtain ⟨j, hj⟩ := List.getElem?_of_mem (hkids.out k' hk')
            have h3 := (List.getElem?_eq_some_iff.1 hj).1
            have := (hJ.out h).2 j (by rw [HPK.out]; exact h3) _ hj rfl
            exact Int.not_lt.1 this))
          clear hJ
          go_wp2_with fail
          go_roundw
          case rel => exact ⟨jj :: js, fst2, loc.up, k + 1, by omega, rfl, rfl, rfl, by go_num, Lib.hid ⟨HI2.out.1, HI2.out.2.1, HI2.out.2.2.1, HI3.out, HI2.out.2.2.2.2, fun h => absurd h (Nat.succ_ne_zero k)⟩, ((((h2.pull 3).pull 1).tail).pull 2).tail, k2⟩
          case measure => simp [intOf]; omega
        obtain ⟨kk, hkk⟩ : ∃ kk, kids[m]? = some kk := ⟨_, List.getElem?_eq_getElem (by rw [← HPK.out]; exact hlt2)⟩
        rcases h2.tForm with ⟨hv, hp⟩ | ⟨lg, loff, lcap', hv⟩
        · rw [hp] at hkk; simp at hkk
        simp only [Value.slice.injEq] at hv
        obtain ⟨rfl, -, rfl⟩ := hv
        have y1 := h2.tCell len_fK m 1 hkk rfl
        have y2 := h2.tCell len_fK m 2 hkk rfl
        have d2 := (h2.pull 2).cell 2
        simp at d2
        have m0' : (0 : Int) ≤ (m : Int) := by omega
        have m1' : (m : Int) < (p : Int) := by omega
        have m2' : IntKind.i64.wrap ((m : Int) + 1) = (m : Int) + 1 := by rw [IntWalk.i64_in _ (by omega)]
        have HKK := Lib.hid hkk
        clear hkk
        go_upto_region 22 with (fail)
        cases c1 : (kk.name.toList == loc.name.toList) with
        | false =>
          have HJ2 := Lib.hid (show fst2 = true → fst = true ∧ ∀ j, j < m + 1 → ∀ kk, kids[j]? = some kk → kk.name = loc.name → ¬ kk.node < nn from fun h => ⟨(hJ.out h).1, fun j hj k' hk' hn => by
            by_cases e : j = m
            · subst e
              rw [HKK.out] at hk'
              cases hk'
              rw [hn] at c1
              simp at c1
            · exact (hJ.out h).2 j (by omega) k' hk' hn⟩)
          clear hJ
          go_quiet (fail)
          go_wp2_with fail
          go_roundw
          case rel => exact ⟨fst2, m + 1, by omega, rfl, by go_num, HJ2, h2.drewN _, k2.drewN _⟩
          case measure => simp [intOf]; omega
        | true =>
          cases c2 : decide (kk.node < nn) with
          | true =>
            go_quiet (fail)
            go_wp2_with fail
            go_roundw
            case rel => exact ⟨false, m + 1, by omega, rfl, by go_num, Lib.hid (fun h => by cases h), h2.drewN _, k2.drewN _⟩
            case measure => simp [intOf]; omega
          | false =>
            have HJ2 := Lib.hid (show fst2 = true → fst = true ∧ ∀ j, j < m + 1 → ∀ kk, kids[j]? = some kk → kk.name = loc.name → ¬ kk.node < nn from fun h => ⟨(hJ.out h).1, fun j hj k' hk' hn => by
              by_cases e : j = m
              · subst e
                rw [HKK.out] at hk'
                cases hk'
                simpa using c2
              · exact (hJ.out h).2 j (by omega) k' hk' hn⟩)
            clear hJ
            go_quiet (fail)
            go_wp2_with fail
            go_roundw
            case rel => exact ⟨fst2, m + 1, by omega, rfl, by go_num, HJ2, h2.drewN _, k2.drewN _⟩
            case measure => simp [intOf]; omega

end Go.Proofs.YtbnipieokpeadaaDoor

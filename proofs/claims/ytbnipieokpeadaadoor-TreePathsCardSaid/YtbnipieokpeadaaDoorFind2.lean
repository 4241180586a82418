import Derived.Test.YtbnipieokpeadaaDoorSplit3
import Derived.Test.YtbnipieokpeadaaDoorFind
import Derived.Test.YtbnipieokpeadaaDoorOrd
namespace Go.Proofs.YtbnipieokpeadaaDoor
open Go Go.RowKit
set_option linter.unusedVariables false
set_option linter.unusedSimpArgs false

/-- Where a path leads. -/
def FindR (f : Int → Option Loc) : Int → List ByteArray → Int → Int → Prop
  | n, [], a, e => a = n ∧ e = 0
  | n, s :: l, a, e => (a = 0 ∧ e = 9 ∧ ∀ k, f k ≠ some ⟨n, s⟩) ∨ ∃ k, f k = some ⟨n, s⟩ ∧ (∀ k', f k' = some ⟨n, s⟩ → k ≤ k') ∧ FindR f k l a e

theorem sEq_iff {x y : ByteArray} : sEq x y = true ↔ x = y := by
  unfold sEq
  constructor
  · intro h
    have := eq_of_beq h
    rw [ByteArray.toList_eq, ByteArray.toList_eq] at this
    exact ba_ext this
  · rintro rfl
    exact beq_self_eq_true _
theorem isort_pair {l : List KidD} {i j : Nat} {x y : KidD} (hij : i < j) (hx : (isort klt l)[i]? = some x) (hy : (isort klt l)[j]? = some y) : klt y x = false := by
  have h := isortR_sorted strict_klt l
  have h2 : (isort klt l).Pairwise fun a b => klt b a = false := by
    unfold isort
    exact List.pairwise_reverse.2 h
  obtain ⟨hi1, hi2⟩ := List.getElem?_eq_some_iff.1 hx
  obtain ⟨hj1, hj2⟩ := List.getElem?_eq_some_iff.1 hy
  have := List.pairwise_iff_getElem.1 h2 i j hi1 hj1 hij
  rw [hi2, hj2] at this
  exact this
theorem klt_node {u : Int} {s : ByteArray} {a b : Int} (h : klt ⟨u, s, a⟩ ⟨u, s, b⟩ = false) : b ≤ a := by
  unfold klt kord or3 at h
  have h1 : cmpI u u = 0 := by simp [cmpI]
  have h2 : cmpS s s = 0 := by
    unfold cmpS
    have h3 : sEq s s = true := sEq_iff.2 rfl
    have h4 : slt s s = false := by
      have := strict_klt.irr ⟨0, s, 0⟩
      unfold klt kord or3 at this
      simp only [cmpI, Int.lt_irrefl, if_false, if_true] at this
      unfold cmpS at this
      cases h : slt s s with
      | false => rfl
      | true => rw [h] at this; simp at this
    rw [h4, h3]; simp
  simp only [h1, h2, if_true] at h
  unfold cmpI at h
  by_cases hab : a < b
  · rw [if_pos hab] at h; simp at h
  · omega
theorem mem_kids {f : Int → Option Loc} {S : List (Int × Loc)} {n k : Int} {s : ByteArray} (hS : Enum f S) (hf : f k = some ⟨n, s⟩) : (⟨n, s, k⟩ : KidD) ∈ isort klt (kidsOf (fun p => p.2.up == n) S) := by
  apply (isort_perm klt _).mem_iff.2
  unfold kidsOf
  exact List.mem_map.2 ⟨(k, ⟨n, s⟩), List.mem_filter.2 ⟨hS.all k _ hf, by simp⟩, rfl⟩
theorem kids_mem2 {f : Int → Option Loc} {S : List (Int × Loc)} {n : Int} {k : KidD} (hS : Enum f S) (hk : k ∈ isort klt (kidsOf (fun p => p.2.up == n) S)) : f k.node = some ⟨n, k.name⟩ := by
  have h1 := (isort_perm klt _).mem_iff.1 hk
  unfold kidsOf at h1
  obtain ⟨p, hp, rfl⟩ := List.mem_map.1 h1
  obtain ⟨h2, h3⟩ := List.mem_filter.1 hp
  have h4 := hS.mem p h2
  have h5 : p.2.up = n := by simpa using h3
  show f p.1 = some ⟨n, p.2.name⟩
  rw [h4, ← h5]
theorem kids_none {f : Int → Option Loc} {S : List (Int × Loc)} {n : Int} {s : ByteArray} (hS : Enum f S) (h : ∀ k ∈ isort klt (kidsOf (fun p => p.2.up == n) S), sEq k.name s = false) : ∀ k, f k ≠ some ⟨n, s⟩ := by
  intro k hk
  have := h _ (mem_kids hS hk)
  rw [show sEq s s = true from sEq_iff.2 rfl] at this
  cases this
theorem kids_first {f : Int → Option Loc} {S : List (Int × Loc)} {n : Int} {s : ByteArray} {j : Nat} {k : KidD} (hS : Enum f S) (hj : (isort klt (kidsOf (fun p => p.2.up == n) S))[j]? = some k) (he : sEq k.name s = true)
    (hb : ∀ i, i < j → ∀ k', (isort klt (kidsOf (fun p => p.2.up == n) S))[i]? = some k' → sEq k'.name s = false) : f k.node = some ⟨n, s⟩ ∧ ∀ k', f k' = some ⟨n, s⟩ → k.node ≤ k' := by
  have hs := sEq_iff.1 he
  have h1 := kids_mem2 hS (List.mem_of_getElem? hj)
  rw [hs] at h1
  refine ⟨h1, fun k' hk' => ?_⟩
  obtain ⟨i, hi⟩ := List.getElem?_of_mem (mem_kids hS hk')
  rcases Nat.lt_trichotomy i j with hlt | heq | hgt
  · have := hb i hlt _ hi
    rw [show sEq s s = true from sEq_iff.2 rfl] at this
    cases this
  · subst heq
    rw [hj] at hi
    cases hi
    exact Int.le_refl _
  · have h2 := isort_pair hgt hj hi
    have h3 : k = ⟨n, s, k.node⟩ := by
      have h4 := (isort_perm klt _).mem_iff.1 (List.mem_of_getElem? hj)
      unfold kidsOf at h4
      obtain ⟨p, hp, hpk⟩ := List.mem_map.1 h4
      obtain ⟨_, h5⟩ := List.mem_filter.1 hp
      have h6 : p.2.up = n := by simpa using h5
      rw [← hpk] at hs ⊢
      show (⟨p.2.up, p.2.name, p.1⟩ : KidD) = ⟨n, s, p.1⟩
      rw [h6, show p.2.name = s from hs]
    rw [h3] at h2
    exact klt_node h2

set_option maxHeartbeats 4000000 in
set_option maxRecDepth 100000 in
theorem tree_find {w : World} {l : List HProp} {t : Nat} {f : Int → Option Loc} {ds : List ChD} (s : ByteArray) {r : List UInt8} (hs : Sat w (treeP t f ds :: l)) (hF : Few f) (h : s.data.toList = 47 :: r) (hr : r ≠ []) (hsz : s.size ≤ 400) (hR : ∀ x ∈ splitS r, NameRight (mkB x)) :
    Calls Tryd.prog 19 #[.pointer (some ⟨t, 0, none⟩), .string s] w fun e w' => ∃ a er, e = .returned (.tuple #[.int .i64 a, .int .i64 er]) ∧ FindR f 0 ((splitS r).map mkB) a er ∧ Sat w' (treeP t f ds :: l) ∧ Kp w w' := by
  have hmf : ∀ (fn : Fn) (first cap : Array Value) (w : World), (Instr.makeFunc fn first cap).run Tryd.prog w = .ok (.func fn first cap) w := fun _ _ _ _ => rfl
  have HF := Lib.hid hF
  have hcall := name_split2 s h hr hsz hR hs
  have hnb : (splitS r).length ≤ 1000 := by
    have h1 := count_le_size (mkB r)
    have h2 : s.size = r.length + 1 := by
      have : s.data.toList.length = s.size := Array.length_toList
      rw [← this, h]; rfl
    rw [list_mkB, mkB_size] at h1
    rw [splitS_len]
    omega
  generalize hnm : (splitS r).map mkB = nms at hcall ⊢
  have hnb2 : nms.length ≤ 1000 := by rw [← hnm, List.length_map]; exact hnb
  clear hF h hr hsz hR hnb hnm
  go_enter Tryd.func19, Tryd.ntmps19
  go_wp2_with fail
  refine hcall.mono ?_
  rintro e w1 ⟨v, rfl, h0, k0⟩
  clear hcall
  obtain ⟨ao, cap, rfl⟩ := h0.tLen
  obtain ⟨n, hn⟩ : ∃ n, n = nms.length := ⟨_, rfl⟩
  rw [← hn] at h0 hnb2 ⊢
  have HN := Lib.hid hn
  have HNB := Lib.hid hnb2
  clear hn hnb2
  go_wp2_with fail
  go_loopw [8, 10, 11, 12, 23] (fun av cv kv iv xv wr => ∃ (i : Nat) (at' : Int), i ≤ n ∧ xv = .int .i64 i ∧ av = .int .i64 at' ∧ Hid (∀ a er, FindR f at' (nms.drop i) a er → FindR f 0 nms a er) ∧ Sat wr (rowT fSt (.slice ao n cap) 9 1 nms :: treeP t f ds :: l) ∧ Kp w wr) (fun _ _ _ _ xv _ => n - (intOf xv).toNat)
  case atStart => exact ⟨0, 0, by omega, rfl, rfl, Lib.hid (fun a er h => by simpa using h), h0, k0⟩
  case round =>
    clear h0 k0
    obtain ⟨i, at', hin, rfl, rfl, hI, h2, k2⟩ := hrel
    by_cases hlt : i < n
    case neg =>
      obtain rfl : n = i := by omega
      have hfin := hI.out at' 0 (by rw [List.drop_of_length_le (by rw [← HN.out]; exact Nat.le_refl _)]; exact ⟨rfl, rfl⟩)
      have HFIN := Lib.hid hfin
      clear hfin
      go_wp2_with fail
      go_ret2
      exact ⟨_, _, rfl, HFIN.out, h2.tail, k2⟩
    have hil : i < nms.length := by rw [← HN.out]; exact hlt
    obtain ⟨nm, hx⟩ : ∃ nm, nms[i]? = some nm := ⟨_, List.getElem?_eq_getElem hil⟩
    have hdrop : nms.drop i = nm :: nms.drop (i + 1) := by
      rw [List.drop_eq_getElem_cons hil]
      congr 1
      exact Option.some.inj ((List.getElem?_eq_getElem hil).symm.trans hx)
    rw [hdrop] at hI
    rcases h2.tForm with ⟨hv, hp⟩ | ⟨g, off, cap', hv⟩
    · rw [hp] at hx; simp at hx
    simp only [Value.slice.injEq] at hv
    obtain ⟨rfl, -, rfl⟩ := hv
    have x0 := h2.tCell len_fSt2 i 0 hx rfl
    simp at x0
    have i0' : (0 : Int) ≤ (i : Int) := by omega
    have i1' : (i : Int) < (n : Int) := by omega
    have iw : IntKind.i64.wrap ((i : Int) + 1) = (i : Int) + 1 := by have := HNB.out; rw [IntWalk.i64_in _ (by omega)]
    have hC := h2.alloc (.cells #[.string nm] 9)
    have kC := k2.alloc (.cells #[.string nm] 9)
    clear hx hdrop hil
    go_upto_region 8 with (fail)
    generalize World.alloc _ _ = w2 at hC kC ⊢
    generalize wr.heap.size = C at hC ⊢
    clear h2 k2 x0
    have hkc := tree_kids (n := at') (hC.pull 2) HF.out
    go_wp2_with fail
    refine hkc.mono ?_
    rintro e w3 ⟨S, kv, hS, rfl, h3, k3⟩
    have k3 := kC.trans k3
    clear hkc hC kC
    have hl8 : (isort klt (kidsOf (fun p => p.2.up == at') S)).length ≤ 1000 := by
      rw [(isort_perm klt _).length_eq]
      exact Nat.le_trans (Nat.le_trans (kidsOf_len _ _) (HF.out.length hS.mem hS.nodup)) (by omega)
    have hfi : ∀ (r : Int), ((r = -1 ∧ ∀ k ∈ isort klt (kidsOf (fun p => p.2.up == at') S), sEq k.name nm = false) ∨ ∃ (j : Nat) (k : KidD), r = j ∧ (isort klt (kidsOf (fun p => p.2.up == at') S))[j]? = some k ∧ sEq k.name nm = true ∧ ∀ i, i < j → ∀ k', (isort klt (kidsOf (fun p => p.2.up == at') S))[i]? = some k' → sEq k'.name nm = false) →
        (r = -1 ∧ ∀ k, f k ≠ some ⟨at', nm⟩) ∨ ∃ (j : Nat) (k : KidD), r = j ∧ (isort klt (kidsOf (fun p => p.2.up == at') S))[j]? = some k ∧ f k.node = some ⟨at', nm⟩ ∧ ∀ k', f k' = some ⟨at', nm⟩ → k.node ≤ k' := by
      intro r h
      rcases h with ⟨h1, h2⟩ | ⟨j, k, h1, h2, h3, h4⟩
      · exact .inl ⟨h1, kids_none hS h2⟩
      · exact .inr ⟨j, k, h1, h2, (kids_first hS h2 h3 h4).1, (kids_first hS h2 h3 h4).2⟩
    have HFI := Lib.hid hfi
    clear hfi
    have hki := kid_index (C := C) (nm := nm) ((h3.pull 2).pull 1) hl8
    generalize isort klt (kidsOf (fun p => p.2.up == at') S) = ks at h3 hki hl8 HFI
    clear hS
    go_wp2_with fail
    refine hki.mono ?_
    rintro e w4 ⟨r, rfl, hr, h4, k4⟩
    have hr2 := HFI.out r hr
    have k4 := k3.trans k4
    clear hki h3 k3 hr HFI
    rcases hr2 with ⟨rfl, hno⟩ | ⟨j, k, rfl, hj, hfk, hmin⟩
    · have hfin := hI.out 0 9 (.inl ⟨rfl, rfl, hno⟩)
      have HFIN := Lib.hid hfin
      clear hfin hno
      go_wp2_with fail
      go_ret2
      exact ⟨_, _, rfl, HFIN.out, (h4.tail.tail.pull 1).tail, k4⟩
    · rcases h4.tForm with ⟨_, hp⟩ | ⟨kg, koff, kcap, rfl⟩
      · rw [hp] at hj; simp at hj
      have z2 := h4.tCell len_fK j 2 hj rfl
      have hjl := (List.getElem?_eq_some_iff.1 hj).1
      obtain ⟨q, hq⟩ : ∃ q, q = ks.length := ⟨_, rfl⟩
      rw [← hq] at h4 hl8 hjl ⊢
      have j0' : (0 : Int) ≤ (j : Int) := by omega
      have j1' : (j : Int) < (q : Int) := by omega
      have j2' : ¬ (j : Int) < 0 := by omega
      have HI2 := Lib.hid (show ∀ a er, FindR f k.node (nms.drop (i + 1)) a er → FindR f 0 nms a er from fun a er h => hI.out a er (.inr ⟨k.node, hfk, hmin, h⟩))
      clear hq hj hfk hmin hjl
      go_wp2_with fail
      go_roundw
      case rel => exact ⟨i + 1, k.node, by omega, by go_num, rfl, HI2, h4.tail.tail.swap, k4⟩
      case measure => simp [intOf]; omega

end Go.Proofs.YtbnipieokpeadaaDoor

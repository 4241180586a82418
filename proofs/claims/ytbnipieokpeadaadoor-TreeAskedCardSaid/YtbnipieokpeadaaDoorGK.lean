import Derived.Test.YtbnipieokpeadaaDoorGJ
import Derived.Test.YtbnipieokpeadaaDoorGE
import Derived.Test.YtbnipieokpeadaaDoorGI
namespace Go.Proofs.YtbnipieokpeadaaDoor
open Go Go.RowKit
set_option linter.unusedVariables false
set_option linter.unusedSimpArgs false

theorem len_fSt (s : ByteArray) : (fSt s).length = 1 := rfl

theorem split_ab {w : World} {l : List HProp} (hs : Sat w l) : Calls Tryd.prog 61 #[.string ⟨#[97, 47, 98]⟩, .string ⟨#[47]⟩] w fun e w' => ∃ v, e = .returned v ∧ Sat w' (rowT fSt v 9 1 [letter 0, letter 1] :: l) ∧ Kp w w' := by
  go_enter Tryd.func61, Tryd.ntmps61
  go_wp2_with fail
  refine (split_gen hs).mono ?_
  rintro e w1 ⟨v, rfl, h1, k1⟩
  go_wp2_with fail
  go_ret
  exact ⟨v, rfl, h1, k1⟩

set_option maxHeartbeats 2000000 in
set_option maxRecDepth 100000 in
theorem name_split_ab {w : World} {l : List HProp} (hs : Sat w l) : Calls Tryd.prog 43 #[.string ⟨#[47, 97, 47, 98]⟩] w fun e w' => ∃ v, e = .returned (.tuple #[v, .int .i64 0]) ∧ Sat w' (rowT fSt v 9 1 [letter 0, letter 1] :: l) ∧ Kp w w' := by
  have hne : ((⟨#[47, 97, 47, 98]⟩ : ByteArray).toList == [47]) = false := by decide +kernel
  have hx : (⟨#[47, 97, 47, 98]⟩ : ByteArray).extract 1 4 = ⟨#[97, 47, 98]⟩ := by decide +kernel
  go_enter Tryd.func43, Tryd.ntmps43
  go_wp2_with fail
  refine prefix_slash.mono ?_
  rintro e w1 ⟨rfl, rfl⟩
  go_wp2_with fail
  refine (split_ab hs).mono ?_
  rintro e w1 ⟨v, rfl, h1, k1⟩
  obtain ⟨g, off, cap, rfl⟩ := h1.tSome
  have x0 := h1.tCell len_fSt 0 0 rfl rfl
  have x1 := h1.tCell len_fSt 1 0 rfl rfl
  simp at x0 x1
  simp only [List.length_cons, List.length_nil, Nat.zero_add, Nat.reduceAdd]
  go_wp2_with fail
  refine wp_loop_rounds 3 ?_
  rw [rounds_succ]
  go_wp2_with fail
  refine (right_letter (k := 0) (by omega) h1).mono ?_
  rintro e w2 ⟨rfl, h2, k2⟩
  have x1 := h2.tCell len_fSt 1 0 rfl rfl
  simp at x1
  go_wp2_with fail
  rw [rounds_succ]
  go_wp2_with fail
  refine (right_letter (k := 1) (by omega) h2).mono ?_
  rintro e w3 ⟨rfl, h3, k3⟩
  go_wp2_with fail
  rw [rounds_succ]
  go_wp2_with fail
  go_ret2
  exact ⟨_, rfl, h3, (k1.trans k2).trans k3⟩

theorem single {α : Type} {p : α} : ∀ {l : List α}, l.Nodup → (∀ x ∈ l, x = p) → p ∈ l → l = [p]
  | [], _, _, h => by cases h
  | [x], _, h, _ => by rw [h x (List.mem_cons_self ..)]
  | x :: y :: l, hn, h, _ => by
    have h1 := h x (List.mem_cons_self ..)
    have h2 := h y (List.mem_cons_of_mem _ (List.mem_cons_self ..))
    have := (List.nodup_cons.1 hn).1
    rw [h1, h2] at this
    exact absurd (List.mem_cons_self ..) this
theorem nodup_of_map {α β : Type} (g : α → β) : ∀ {l : List α}, (l.map g).Nodup → l.Nodup
  | [], _ => List.nodup_nil
  | x :: l, h => by
    have h1 := List.nodup_cons.1 h
    exact List.nodup_cons.2 ⟨fun hx => h1.1 (List.mem_map.2 ⟨x, hx, rfl⟩), nodup_of_map g h1.2⟩
/-- Where just one thing fits, that is the list. -/
theorem kids_one {f : Int → Option Loc} {S : List (Int × Loc)} {test : Int × Loc → Bool} {p : Int × Loc} (hS : Enum f S) (hp : f p.1 = some p.2) (ht : test p = true) (ho : ∀ k s, f k = some s → test (k, s) = true → (k, s) = p) : isort klt (kidsOf test S) = [kidOf p] := by
  have h : S.filter test = [p] := by
    refine single ((nodup_of_map Prod.fst hS.nodup).filter _) (fun x hx => ?_) ?_
    · obtain ⟨h1, h2⟩ := List.mem_filter.1 hx
      exact ho x.1 x.2 (hS.mem x h1) h2
    · exact List.mem_filter.2 ⟨hS.all p.1 p.2 hp, ht⟩
  unfold kidsOf
  rw [h]
  rfl

set_option maxHeartbeats 4000000 in
set_option maxRecDepth 100000 in
/-- One step of Find down a path: the names of the node 'at'. -/
theorem find_ab {w : World} {l : List HProp} {t : Nat} {f : Int → Option Loc} {ds : List ChD} (hs : Sat w (treeP t f ds :: l)) (hF : Few f) (ha : f 256 = some ⟨0, letter 0⟩) (hb : f 257 = some ⟨256, letter 1⟩) (ho : ∀ k s, f k = some s → k = 256 ∨ k = 257) :
    Calls Tryd.prog 19 #[.pointer (some ⟨t, 0, none⟩), .string ⟨#[47, 97, 47, 98]⟩] w fun e w' => e = .returned (.tuple #[.int .i64 257, .int .i64 0]) ∧ Sat w' (treeP t f ds :: l) ∧ Kp w w' := by
  have hmf : ∀ (fn : Fn) (first cap : Array Value) (w : World), (Instr.makeFunc fn first cap).run Tryd.prog w = .ok (.func fn first cap) w := fun _ _ _ _ => rfl
  have K0 : ∀ S, Enum f S → isort klt (kidsOf (fun p => p.2.up == 0) S) = [⟨0, letter 0, 256⟩] := fun S hS => by
    refine kids_one (p := (256, ⟨0, letter 0⟩)) hS ha rfl (fun k s hk ht => ?_)
    rcases ho k s hk with rfl | rfl
    · rw [ha] at hk; cases hk; rfl
    · rw [hb] at hk; cases hk; exact absurd ht (by decide)
  have K1 : ∀ S, Enum f S → isort klt (kidsOf (fun p => p.2.up == 256) S) = [⟨256, letter 1, 257⟩] := fun S hS => by
    refine kids_one (p := (257, ⟨256, letter 1⟩)) hS hb rfl (fun k s hk ht => ?_)
    rcases ho k s hk with rfl | rfl
    · rw [ha] at hk; cases hk; exact absurd ht (by decide)
    · rw [hb] at hk; cases hk; rfl
  have eq0 : sEq (letter 0) (letter 0) = true := by decide +kernel
  have eq1 : sEq (letter 1) (letter 1) = true := by decide +kernel
  have HK0 := Lib.hid K0
  have HK1 := Lib.hid K1
  have HF := Lib.hid hF
  have E0 := Lib.hid eq0
  have E1 := Lib.hid eq1
  clear K0 K1 hF ha hb ho eq0 eq1
  go_enter Tryd.func19, Tryd.ntmps19
  go_wp2_with fail
  refine (name_split_ab hs).mono ?_
  rintro e w1 ⟨v, rfl, h0, k0⟩
  obtain ⟨g, off, cap, rfl⟩ := h0.tSome
  simp only [List.length_cons, List.length_nil, Nat.zero_add, Nat.reduceAdd] at h0 ⊢
  go_wp2_with fail
  refine wp_loop_rounds 3 ?_
  -- the first name
  rw [rounds_succ]
  have y0 := h0.tCell len_fSt 0 0 rfl rfl
  simp at y0
  have hC := h0.alloc (.cells #[.string (letter 0)] 9)
  have kC := k0.alloc (.cells #[.string (letter 0)] 9)
  go_wp2_with fail
  generalize World.alloc _ _ = w2 at hC kC ⊢
  generalize w1.heap.size = C at hC ⊢
  refine (tree_kids (hC.pull 2) HF.out).mono ?_
  rintro e w3 ⟨S, kv, hS, rfl, h3, k3⟩
  rw [HK0.out S hS] at h3
  clear hS
  go_wp2_with fail
  refine (kid_index (C := C) (nm := letter 0) (h3.pull 2 |>.pull 1) (by simp)).mono ?_
  rintro e w4 ⟨r, rfl, hr, h4, k4⟩
  have hr0 : r = 0 := by
    rcases hr with ⟨_, hno⟩ | ⟨j, k, rfl, hj, _⟩
    · have := hno _ (List.mem_cons_self ..)
      rw [E0.out] at this
      cases this
    · have := (List.getElem?_eq_some_iff.1 hj).1
      simp at this
      omega
  subst hr0
  clear hr
  obtain ⟨kg, koff, kcap, rfl⟩ := h4.tSome
  simp only [List.length_cons, List.length_nil, Nat.zero_add, Nat.reduceAdd] at h4 ⊢
  have z2 := h4.tCell len_fK 0 2 rfl rfl
  simp at z2
  go_wp2_with fail
  have h5 := h4.tail.tail
  have k5 := ((kC.trans k3).trans k4)
  clear h4 k4 h3 k3 hC kC h0 k0 y0 z2
  -- the second
  rw [rounds_succ]
  have y1 := (h5.pull 1).tCell len_fSt 1 0 rfl rfl
  simp at y1
  have hC := h5.alloc (.cells #[.string (letter 1)] 9)
  have kC := k5.alloc (.cells #[.string (letter 1)] 9)
  go_wp2_with fail
  generalize World.alloc _ _ = w5 at hC kC ⊢
  generalize w4.heap.size = C' at hC ⊢
  refine (tree_kids (hC.pull 1) HF.out).mono ?_
  rintro e w6 ⟨S', kv, hS, rfl, h3, k3⟩
  rw [HK1.out S' hS] at h3
  clear hS
  go_wp2_with fail
  refine (kid_index (C := C') (nm := letter 1) (h3.pull 2 |>.pull 1) (by simp)).mono ?_
  rintro e w7 ⟨r, rfl, hr, h4, k4⟩
  have hr0 : r = 0 := by
    rcases hr with ⟨_, hno⟩ | ⟨j, k, rfl, hj, _⟩
    · have := hno _ (List.mem_cons_self ..)
      rw [E1.out] at this
      cases this
    · have := (List.getElem?_eq_some_iff.1 hj).1
      simp at this
      omega
  subst hr0
  clear hr
  obtain ⟨kg, koff, kcap, rfl⟩ := h4.tSome
  simp only [List.length_cons, List.length_nil, Nat.zero_add, Nat.reduceAdd] at h4 ⊢
  have z2 := h4.tCell len_fK 0 2 rfl rfl
  simp at z2
  go_wp2_with fail
  rw [rounds_succ]
  go_wp2_with fail
  go_ret2
  exact ⟨rfl, (h4.tail.tail.pull 1).tail, (kC.trans k3).trans k4⟩

end Go.Proofs.YtbnipieokpeadaaDoor

namespace Go.Proofs.YtbnipieokpeadaaDoor
open Go Go.RowKit
set_option linter.unusedVariables false
set_option linter.unusedSimpArgs false

/-- Where a path leads. -/
def FindR (f : Int → Option Loc) : Int → List ByteArray → Int → Int → Prop
  | n, [], a, e => a = n ∧ e = 0
  | n, s :: l, a, e => (a = 0 ∧ e = 9 ∧ ∀ k, f k ≠ some ⟨n, s⟩) ∨ ∃ k, f k = some ⟨n, s⟩ ∧ (∀ k', f k' = some ⟨n, s⟩ → k ≤ k') ∧ FindR f k l a e

theorem sEq_iff {x y : ByteArray} : sEq x y = true ↔ x = y := by
  unfold sEq
  constructor
  · intro h
    have := eq_of_beq h
    rw [ByteArray.toList_eq, ByteArray.toList_eq] at this
    exact ba_ext this
  · rintro rfl
    exact beq_self_eq_true _
theorem isort_pair {l : List KidD} {i j : Nat} {x y : KidD} (hij : i < j) (hx : (isort klt l)[i]? = some x) (hy : (isort klt l)[j]? = some y) : klt y x = false := by
  have h := isortR_sorted strict_klt l
  have h2 : (isort klt l).Pairwise fun a b => klt b a = false := by
    unfold isort
    exact List.pairwise_reverse.2 h
  obtain ⟨hi1, hi2⟩ := List.getElem?_eq_some_iff.1 hx
  obtain ⟨hj1, hj2⟩ := List.getElem?_eq_some_iff.1 hy
  have := List.pairwise_iff_getElem.1 h2 i j hi1 hj1 hij
  rw [hi2, hj2] at this
  exact this
theorem klt_node {u : Int} {s : ByteArray} {a b : Int} (h : klt ⟨u, s, a⟩ ⟨u, s, b⟩ = false) : b ≤ a := by
  unfold klt kord or3 at h
  have h1 : cmpI u u = 0 := by simp [cmpI]
  have h2 : cmpS s s = 0 := by
    unfold cmpS
    have h3 : sEq s s = true := sEq_iff.2 rfl
    have h4 : slt s s = false := by
      have := strict_klt.irr ⟨0, s, 0⟩
      unfold klt kord or3 at this
      simp only [cmpI, Int.lt_irrefl, if_false, if_true] at this
      unfold cmpS at this
      cases h : slt s s with
      | false => rfl
      | true => rw [h] at this; simp at this
    rw [h4, h3]; simp
  simp only [h1, h2, if_true] at h
  unfold cmpI at h
  by_cases hab : a < b
  · rw [if_pos hab] at h; simp at h
  · omega
theorem mem_kids {f : Int → Option Loc} {S : List (Int × Loc)} {n k : Int} {s : ByteArray} (hS : Enum f S) (hf : f k = some ⟨n, s⟩) : (⟨n, s, k⟩ : KidD) ∈ isort klt (kidsOf (fun p => p.2.up == n) S) := by
  apply (isort_perm klt _).mem_iff.2
  unfold kidsOf
  exact List.mem_map.2 ⟨(k, ⟨n, s⟩), List.mem_filter.2 ⟨hS.all k _ hf, by simp⟩, rfl⟩
theorem kids_mem2 {f : Int → Option Loc} {S : List (Int × Loc)} {n : Int} {k : KidD} (hS : Enum f S) (hk : k ∈ isort klt (kidsOf (fun p => p.2.up == n) S)) : f k.node = some ⟨n, k.name⟩ := by
  have h1 := (isort_perm klt _).mem_iff.1 hk
  unfold kidsOf at h1
  obtain ⟨p, hp, rfl⟩ := List.mem_map.1 h1
  obtain ⟨h2, h3⟩ := List.mem_filter.1 hp
  have h4 := hS.mem p h2
  have h5 : p.2.up = n := by simpa using h3
  show f p.1 = some ⟨n, p.2.name⟩
  rw [h4, ← h5]
theorem kids_none {f : Int → Option Loc} {S : List (Int × Loc)} {n : Int} {s : ByteArray} (hS : Enum f S) (h : ∀ k ∈ isort klt (kidsOf (fun p => p.2.up == n) S), sEq k.name s = false) : ∀ k, f k ≠ some ⟨n, s⟩ := by
  intro k hk
  have := h _ (mem_kids hS hk)
  rw [show sEq s s = true from sEq_iff.2 rfl] at this
  cases this
theorem kids_first {f : Int → Option Loc} {S : List (Int × Loc)} {n : Int} {s : ByteArray} {j : Nat} {k : KidD} (hS : Enum f S) (hj : (isort klt (kidsOf (fun p => p.2.up == n) S))[j]? = some k) (he : sEq k.name s = true)
    (hb : ∀ i, i < j → ∀ k', (isort klt (kidsOf (fun p => p.2.up == n) S))[i]? = some k' → sEq k'.name s = false) : f k.node = some ⟨n, s⟩ ∧ ∀ k', f k' = some ⟨n, s⟩ → k.node ≤ k' := by
  have hs := sEq_iff.1 he
  have h1 := kids_mem2 hS (List.mem_of_getElem? hj)
  rw [hs] at h1
  refine ⟨h1, fun k' hk' => ?_⟩
  obtain ⟨i, hi⟩ := List.getElem?_of_mem (mem_kids hS hk')
  rcases Nat.lt_trichotomy i j with hlt | heq | hgt
  · have := hb i hlt _ hi
    rw [show sEq s s = true from sEq_iff.2 rfl] at this
    cases this
  · subst heq
    rw [hj] at hi
    cases hi
    exact Int.le_refl _
  · have h2 := isort_pair hgt hj hi
    have h3 : k = ⟨n, s, k.node⟩ := by
      have h4 := (isort_perm klt _).mem_iff.1 (List.mem_of_getElem? hj)
      unfold kidsOf at h4
      obtain ⟨p, hp, hpk⟩ := List.mem_map.1 h4
      obtain ⟨_, h5⟩ := List.mem_filter.1 hp
      have h6 : p.2.up = n := by simpa using h5
      rw [← hpk] at hs ⊢
      show (⟨p.2.up, p.2.name, p.1⟩ : KidD) = ⟨n, s, p.1⟩
      rw [h6, show p.2.name = s from hs]
    rw [h3] at h2
    exact klt_node h2

set_option maxHeartbeats 4000000 in
set_option maxRecDepth 100000 in
theorem tree_find {w : World} {l : List HProp} {t : Nat} {f : Int → Option Loc} {ds : List ChD} (s : ByteArray) {r : List UInt8} (hs : Sat w (treeP t f ds :: l)) (hF : Few f) (h : s.data.toList = 47 :: r) (hr : r ≠ []) (hsz : s.size ≤ 400) (hR : ∀ x ∈ splitS r, NameRight (mkB x)) :
    Calls Tryd.prog 19 #[.pointer (some ⟨t, 0, none⟩), .string s] w fun e w' => ∃ a er, e = .returned (.tuple #[.int .i64 a, .int .i64 er]) ∧ FindR f 0 ((splitS r).map mkB) a er ∧ Sat w' (treeP t f ds :: l) ∧ Kp w w' := by
  have hmf : ∀ (fn : Fn) (first cap : Array Value) (w : World), (Instr.makeFunc fn first cap).run Tryd.prog w = .ok (.func fn first cap) w := fun _ _ _ _ => rfl
  have HF := Lib.hid hF
  have hcall := name_split2 s h hr hsz hR hs
  have hnb : (splitS r).length ≤ 1000 := by
    have h1 := count_le_size (mkB r)
    have h2 : s.size = r.length + 1 := by
      have : s.data.toList.length = s.size := Array.length_toList
      rw [← this, h]; rfl
    rw [list_mkB, mkB_size] at h1
    rw [splitS_len]
    omega
  generalize hnm : (splitS r).map mkB = nms at hcall ⊢
  have hnb2 : nms.length ≤ 1000 := by rw [← hnm, List.length_map]; exact hnb
  clear hF h hr hsz hR hnb hnm
  go_enter Tryd.func19, Tryd.ntmps19
  go_wp2_with fail
  refine hcall.mono ?_
  rintro e w1 ⟨v, rfl, h0, k0⟩
  clear hcall
  obtain ⟨ao, cap, rfl⟩ := h0.tLen
  obtain ⟨n, hn⟩ : ∃ n, n = nms.length := ⟨_, rfl⟩
  rw [← hn] at h0 hnb2 ⊢
  have HN := Lib.hid hn
  have HNB := Lib.hid hnb2
  clear hn hnb2
  go_wp2_with fail
  go_loopw [8, 10, 11, 12, 23] (fun av cv kv iv xv wr => ∃ (i : Nat) (at' : Int), i ≤ n ∧ xv = .int .i64 i ∧ av = .int .i64 at' ∧ Hid (∀ a er, FindR f at' (nms.drop i) a er → FindR f 0 nms a er) ∧ Sat wr (rowT fSt (.slice ao n cap) 9 1 nms :: treeP t f ds :: l) ∧ Kp w wr) (fun _ _ _ _ xv _ => n - (intOf xv).toNat)
  case atStart => exact ⟨0, 0, by omega, rfl, rfl, Lib.hid (fun a er h => by simpa using h), h0, k0⟩
  case round =>
    clear h0 k0
    obtain ⟨i, at', hin, rfl, rfl, hI, h2, k2⟩ := hrel
    by_cases hlt : i < n
    case neg =>
      obtain rfl : n = i := by omega
      have hfin := hI.out at' 0 (by rw [List.drop_of_length_le (by rw [← HN.out]; exact Nat.le_refl _)]; exact ⟨rfl, rfl⟩)
      have HFIN := Lib.hid hfin
      clear hfin
      go_wp2_with fail
      go_ret2
      exact ⟨_, _, rfl, HFIN.out, h2.tail, k2⟩
    have hil : i < nms.length := by rw [← HN.out]; exact hlt
    obtain ⟨nm, hx⟩ : ∃ nm, nms[i]? = some nm := ⟨_, List.getElem?_eq_getElem hil⟩
    have hdrop : nms.drop i = nm :: nms.drop (i + 1) := by
      rw [List.drop_eq_getElem_cons hil]
      congr 1
      exact Option.some.inj ((List.getElem?_eq_getElem hil).symm.trans hx)
    rw [hdrop] at hI
    rcases h2.tForm with ⟨hv, hp⟩ | ⟨g, off, cap', hv⟩
    · rw [hp] at hx; simp at hx
    simp only [Value.slice.injEq] at hv
    obtain ⟨rfl, -, rfl⟩ := hv
    have x0 := h2.tCell len_fSt2 i 0 hx rfl
    simp at x0
    have i0' : (0 : Int) ≤ (i : Int) := by omega
    have i1' : (i : Int) < (n : Int) := by omega
    have iw : IntKind.i64.wrap ((i : Int) + 1) = (i : Int) + 1 := by have := HNB.out; rw [IntWalk.i64_in _ (by omega)]
    have hC := h2.alloc (.cells #[.string nm] 9)
    have kC := k2.alloc (.cells #[.string nm] 9)
    clear hx hdrop hil
    go_upto_region 8 with (fail)
    generalize World.alloc _ _ = w2 at hC kC ⊢
    generalize wr.heap.size = C at hC ⊢
    clear h2 k2 x0
    have hkc := tree_kids (n := at') (hC.pull 2) HF.out
    go_wp2_with fail
    refine hkc.mono ?_
    rintro e w3 ⟨S, kv, hS, rfl, h3, k3⟩
    have k3 := kC.trans k3
    clear hkc hC kC
    have hl8 : (isort klt (kidsOf (fun p => p.2.up == at') S)).length ≤ 1000 := by
      rw [(isort_perm klt _).length_eq]
      exact Nat.le_trans (Nat.le_trans (kidsOf_len _ _) (HF.out.length hS.mem hS.nodup)) (by omega)
    have hfi : ∀ (r : Int), ((r = -1 ∧ ∀ k ∈ isort klt (kidsOf (fun p => p.2.up == at') S), sEq k.name nm = false) ∨ ∃ (j : Nat) (k : KidD), r = j ∧ (isort klt (kidsOf (fun p => p.2.up == at') S))[j]? = some k ∧ sEq k.name nm = true ∧ ∀ i, i < j → ∀ k', (isort klt (kidsOf (fun p => p.2.up == at') S))[i]? = some k' → sEq k'.name nm = false) →
        (r = -1 ∧ ∀ k, f k ≠ some ⟨at', nm⟩) ∨ ∃ (j : Nat) (k : KidD), r = j ∧ (isort klt (kidsOf (fun p => p.2.up == at') S))[j]? = some k ∧ f k.node = some ⟨at', nm⟩ ∧ ∀ k', f k' = some ⟨at', nm⟩ → k.node ≤ k' := by
      intro r h
      rcases h with ⟨h1, h2⟩ | ⟨j, k, h1, h2, h3, h4⟩
      · exact .inl ⟨h1, kids_none hS h2⟩
      · exact .inr ⟨j, k, h1, h2, (kids_first hS h2 h3 h4).1, (kids_first hS h2 h3 h4).2⟩
    have HFI := Lib.hid hfi
    clear hfi
    have hki := kid_index (C := C) (nm := nm) ((h3.pull 2).pull 1) hl8
    generalize isort klt (kidsOf (fun p => p.2.up == at') S) = ks at h3 hki hl8 HFI
    clear hS
    go_wp2_with fail
    refine hki.mono ?_
    rintro e w4 ⟨r, rfl, hr, h4, k4⟩
    have hr2 := HFI.out r hr
    have k4 := k3.trans k4
    clear hki h3 k3 hr HFI
    rcases hr2 with ⟨rfl, hno⟩ | ⟨j, k, rfl, hj, hfk, hmin⟩
    · have hfin := hI.out 0 9 (.inl ⟨rfl, rfl, hno⟩)
      have HFIN := Lib.hid hfin
      clear hfin hno
      go_wp2_with fail
      go_ret2
      exact ⟨_, _, rfl, HFIN.out, (h4.tail.tail.pull 1).tail, k4⟩
    · rcases h4.tForm with ⟨_, hp⟩ | ⟨kg, koff, kcap, rfl⟩
      · rw [hp] at hj; simp at hj
      have z2 := h4.tCell len_fK j 2 hj rfl
      have hjl := (List.getElem?_eq_some_iff.1 hj).1
      obtain ⟨q, hq⟩ : ∃ q, q = ks.length := ⟨_, rfl⟩
      rw [← hq] at h4 hl8 hjl ⊢
      have j0' : (0 : Int) ≤ (j : Int) := by omega
      have j1' : (j : Int) < (q : Int) := by omega
      have j2' : ¬ (j : Int) < 0 := by omega
      have HI2 := Lib.hid (show ∀ a er, FindR f k.node (nms.drop (i + 1)) a er → FindR f 0 nms a er from fun a er h => hI.out a er (.inr ⟨k.node, hfk, hmin, h⟩))
      clear hq hj hfk hmin hjl
      go_wp2_with fail
      go_roundw
      case rel => exact ⟨i + 1, k.node, by omega, by go_num, rfl, HI2, h4.tail.tail.swap, k4⟩
      case measure => simp [intOf]; omega

end Go.Proofs.YtbnipieokpeadaaDoor

namespace Go.Proofs.YtbnipieokpeadaaDoor
open Go Go.RowKit
set_option linter.unusedVariables false
set_option linter.unusedSimpArgs false

theorem FindR.uniq {f : Int → Option Loc} : ∀ {l : List ByteArray} {n a e a' e' : Int}, FindR f n l a e → FindR f n l a' e' → a = a' ∧ e = e'
  | [], n, a, e, a', e', h, h' => ⟨h.1.trans h'.1.symm, h.2.trans h'.2.symm⟩
  | s :: l, n, a, e, a', e', h, h' => by
    rcases h with ⟨h1, h2, h3⟩ | ⟨k, h1, h2, h3⟩
    · rcases h' with ⟨g1, g2, g3⟩ | ⟨k', g1, g2, g3⟩
      · exact ⟨h1.trans g1.symm, h2.trans g2.symm⟩
      · exact absurd g1 (h3 k')
    · rcases h' with ⟨g1, g2, g3⟩ | ⟨k', g1, g2, g3⟩
      · exact absurd h1 (g3 k)
      · obtain rfl : k = k' := Int.le_antisymm (h2 k' g1) (g2 k h1)
        exact h3.uniq g3
/-- What Find answers. -/
def FindA (f : Int → Option Loc) (s : ByteArray) (a e : Int) : Prop := (pathL s = none ∧ a = 0 ∧ e = 4) ∨ ∃ nms, pathL s = some nms ∧ FindR f 0 nms a e
theorem FindA.uniq {f : Int → Option Loc} {s : ByteArray} {a e a' e' : Int} (h : FindA f s a e) (h' : FindA f s a' e') : a = a' ∧ e = e' := by
  rcases h with ⟨h1, h2, h3⟩ | ⟨l, h1, h2⟩
  · rcases h' with ⟨g1, g2, g3⟩ | ⟨l', g1, g2⟩
    · exact ⟨h2.trans g2.symm, h3.trans g3.symm⟩
    · rw [h1] at g1; cases g1
  · rcases h' with ⟨g1, g2, g3⟩ | ⟨l', g1, g2⟩
    · rw [h1] at g1; cases g1
    · rw [h1] at g1; cases g1
      exact h2.uniq g2
def FindPost (w : World) (f : Int → Option Loc) (s : ByteArray) (l : List HProp) (e : Ending) (w' : World) : Prop := ∃ a er, FindA f s a er ∧ e = .returned (.tuple #[.int .i64 a, .int .i64 er]) ∧ Sat w' l ∧ Kp w w'

set_option maxHeartbeats 4000000 in
set_option maxRecDepth 100000 in
theorem tree_find_any {W w : World} {l : List HProp} {t : Nat} {f : Int → Option Loc} {ds : List ChD} (hT : Lib.Utf8Tabs (validS_ren.g 3) (validS_ren.g 4) W) (s : ByteArray) (hs : Sat w (oldH W :: treeP t f ds :: l)) (hF : Bnd f) :
    Calls Tryd.prog 19 #[.pointer (some ⟨t, 0, none⟩), .string s] w (FindPost w f s (oldH W :: treeP t f ds :: l)) := by
  have hmf : ∀ (fn : Fn) (first cap : Array Value) (w : World), (Instr.makeFunc fn first cap).run Tryd.prog w = .ok (.func fn first cap) w := fun _ _ _ _ => rfl
  have HF := Lib.hid hF
  have hcall := name_split_any hT s hs
  clear hF hT
  go_enter Tryd.func19, Tryd.ntmps19
  go_wp2_with fail
  refine hcall.mono ?_
  rintro e w1 ⟨k0, ⟨hp, rfl, h0⟩ | ⟨v, nms, hp, hnl, -, rfl, h0⟩⟩
  · have HP := Lib.hid hp
    clear hcall hp
    go_wp2_with fail
    go_ret2
    exact ⟨_, _, .inl ⟨HP.out, rfl, rfl⟩, rfl, h0, k0⟩
  have HP := Lib.hid hp
  clear hcall hp hs
  obtain ⟨ao, cap, rfl⟩ := h0.tLen
  obtain ⟨n, hn⟩ : ∃ n, n = nms.length := ⟨_, rfl⟩
  rw [← hn] at h0 hnl ⊢
  have HN := Lib.hid hn
  clear hn
  go_wp2_with fail
  go_loopw [8, 10, 11, 12, 23] (fun av cv kv iv xv wr => ∃ (i : Nat) (at' : Int), i ≤ n ∧ xv = .int .i64 i ∧ av = .int .i64 at' ∧ Hid (∀ a er, FindR f at' (nms.drop i) a er → FindR f 0 nms a er) ∧ Sat wr (rowT fSt (.slice ao n cap) 9 1 nms :: oldH W :: treeP t f ds :: l) ∧ Kp w wr) (fun _ _ _ _ xv _ => n - (intOf xv).toNat)
  case atStart => exact ⟨0, 0, by omega, rfl, rfl, Lib.hid (fun a er h => by simpa using h), h0, k0⟩
  case round =>
    clear h0 k0
    obtain ⟨i, at', hin, rfl, rfl, hI, h2, k2⟩ := hrel
    by_cases hlt : i < n
    case neg =>
      obtain rfl : n = i := by omega
      have hfin := hI.out at' 0 (by rw [List.drop_of_length_le (by rw [← HN.out]; exact Nat.le_refl _)]; exact ⟨rfl, rfl⟩)
      have HFIN := Lib.hid hfin
      clear hfin
      go_wp2_with fail
      go_ret2
      exact ⟨_, _, .inr ⟨nms, HP.out, HFIN.out⟩, rfl, h2.tail, k2⟩
    have hil : i < nms.length := by rw [← HN.out]; exact hlt
    obtain ⟨nm, hx⟩ : ∃ nm, nms[i]? = some nm := ⟨_, List.getElem?_eq_getElem hil⟩
    have hdrop : nms.drop i = nm :: nms.drop (i + 1) := by
      rw [List.drop_eq_getElem_cons hil]
      congr 1
      exact Option.some.inj ((List.getElem?_eq_getElem hil).symm.trans hx)
    rw [hdrop] at hI
    rcases h2.tForm with ⟨hv, hp⟩ | ⟨g, off, cap', hv⟩
    · rw [hp] at hx; simp at hx
    simp only [Value.slice.injEq] at hv
    obtain ⟨rfl, -, rfl⟩ := hv
    have x0 := h2.tCell len_fSt2 i 0 hx rfl
    simp at x0
    have i0' : (0 : Int) ≤ (i : Int) := by omega
    have i1' : (i : Int) < (n : Int) := by omega
    have iw : IntKind.i64.wrap ((i : Int) + 1) = (i : Int) + 1 := by rw [IntWalk.i64_in _ (by omega)]
    have hC := h2.alloc (.cells #[.string nm] 9)
    have kC := k2.alloc (.cells #[.string nm] 9)
    clear hx hdrop hil
    go_upto_region 8 with (fail)
    generalize World.alloc _ _ = w2 at hC kC ⊢
    generalize wr.heap.size = C at hC ⊢
    clear h2 k2 x0
    have hkc := tree_kids2 (n := at') (hC.pull 3) HF.out
    go_wp2_with fail
    refine hkc.mono ?_
    rintro e w3 ⟨S, kv, hS, rfl, h3, k3⟩
    have k3 := kC.trans k3
    clear hkc hC kC
    have hl8 : (isort klt (kidsOf (fun p => p.2.up == at') S)).length ≤ 1000 := by
      rw [(isort_perm klt _).length_eq]
      exact Nat.le_trans (kidsOf_len _ _) (HF.out _ hS.mem hS.nodup)
    have hfi : ∀ (r : Int), ((r = -1 ∧ ∀ k ∈ isort klt (kidsOf (fun p => p.2.up == at') S), sEq k.name nm = false) ∨ ∃ (j : Nat) (k : KidD), r = j ∧ (isort klt (kidsOf (fun p => p.2.up == at') S))[j]? = some k ∧ sEq k.name nm = true ∧ ∀ i, i < j → ∀ k', (isort klt (kidsOf (fun p => p.2.up == at') S))[i]? = some k' → sEq k'.name nm = false) →
        (r = -1 ∧ ∀ k, f k ≠ some ⟨at', nm⟩) ∨ ∃ (j : Nat) (k : KidD), r = j ∧ (isort klt (kidsOf (fun p => p.2.up == at') S))[j]? = some k ∧ f k.node = some ⟨at', nm⟩ ∧ ∀ k', f k' = some ⟨at', nm⟩ → k.node ≤ k' := by
      intro r h
      rcases h with ⟨h1, h2⟩ | ⟨j, k, h1, h2, h3, h4⟩
      · exact .inl ⟨h1, kids_none hS h2⟩
      · exact .inr ⟨j, k, h1, h2, (kids_first hS h2 h3 h4).1, (kids_first hS h2 h3 h4).2⟩
    have HFI := Lib.hid hfi
    clear hfi
    have hki := kid_index (C := C) (nm := nm) ((h3.pull 2).pull 1) hl8
    generalize isort klt (kidsOf (fun p => p.2.up == at') S) = ks at h3 hki hl8 HFI
    clear hS
    go_wp2_with fail
    refine hki.mono ?_
    rintro e w4 ⟨r, rfl, hr, h4, k4⟩
    have hr2 := HFI.out r hr
    have k4 := k3.trans k4
    clear hki h3 k3 hr HFI
    rcases hr2 with ⟨rfl, hno⟩ | ⟨j, k, rfl, hj, hfk, hmin⟩
    · have hfin := hI.out 0 9 (.inl ⟨rfl, rfl, hno⟩)
      have HFIN := Lib.hid hfin
      clear hfin hno
      go_wp2_with fail
      go_ret2
      exact ⟨_, _, .inr ⟨nms, HP.out, HFIN.out⟩, rfl, (h4.tail.tail.pull 1).tail.swap, k4⟩
    · rcases h4.tForm with ⟨_, hp⟩ | ⟨kg, koff, kcap, rfl⟩
      · rw [hp] at hj; simp at hj
      have z2 := h4.tCell len_fK j 2 hj rfl
      have hjl := (List.getElem?_eq_some_iff.1 hj).1
      obtain ⟨q, hq⟩ : ∃ q, q = ks.length := ⟨_, rfl⟩
      rw [← hq] at h4 hl8 hjl ⊢
      have j0' : (0 : Int) ≤ (j : Int) := by omega
      have j1' : (j : Int) < (q : Int) := by omega
      have j2' : ¬ (j : Int) < 0 := by omega
      have HI2 := Lib.hid (show ∀ a er, FindR f k.node (nms.drop (i + 1)) a er → FindR f 0 nms a er from fun a er h => hI.out a er (.inr ⟨k.node, hfk, hmin, h⟩))
      clear hq hj hfk hmin hjl
      go_wp2_with fail
      go_roundw
      case rel => exact ⟨i + 1, k.node, by omega, by go_num, rfl, HI2, h4.tail.tail.push 2, k4⟩
      case measure => simp [intOf]; omega

end Go.Proofs.YtbnipieokpeadaaDoor

namespace Go.Proofs.YtbnipieokpeadaaDoor
open Go Go.RowKit
set_option linter.unusedVariables false
set_option linter.unusedSimpArgs false

def fe : Int → Option Loc := fun _ => none
def f1 : Int → Option Loc := upd fe 256 (some ⟨0, letter 0⟩)
def f2 : Int → Option Loc := upd f1 257 (some ⟨256, letter 1⟩)
theorem f1_at : f1 256 = some ⟨0, letter 0⟩ := upd_same _ _ _
theorem f2_b : f2 257 = some ⟨256, letter 1⟩ := upd_same _ _ _
theorem f2_a : f2 256 = some ⟨0, letter 0⟩ := by unfold f2; rw [upd_other (by decide)]; exact f1_at
theorem f1_0 : f1 0 = none := by unfold f1; rw [upd_other (by decide)]; rfl
theorem f2_0 : f2 0 = none := by unfold f2; rw [upd_other (by decide)]; exact f1_0
theorem not1 : ¬ Anc fe 256 0 := Anc.stops rfl (by decide)
theorem not2 : ¬ Anc f1 257 256 := by
  rw [Anc.step f1_at (by decide)]
  exact Anc.stops f1_0 (by decide)
theorem is3 : Anc f2 256 257 := .up f2_b .here
theorem ac1 : Acyc f1 := acyc_empty.put not1
theorem ac2 : Acyc f2 := ac1.put not2
theorem few1 : Few f1 := few_empty.put (by decide) (by decide)
theorem few2 : Few f2 := few1.put (by decide) (by decide)

set_option maxRecDepth 100000 in
set_option maxHeartbeats 2000000 in
theorem tree_awake {w : World} {l : List HProp} (hs : Sat w l) : Calls Tryd.prog 11 #[] w fun e w' => e = .returned (.bool true) ∧ Sat w' l ∧ Kp w w' := by
  have A1 : ∀ (w : World) (t : Nat) (l : List HProp), Sat w (treeP t fe [] :: l) → Calls Tryd.prog 15 #[.pointer (some ⟨t, 0, none⟩), .agg #[.int .i64 1, .int .i64 0, .int .i64 256, .int .i64 0, .string ⟨#[97]⟩]] w fun e w' => ∃ ds, ds.length = 1 ∧ e = .returned (.bool true) ∧ Sat w' (treeP t f1 ds :: l) ∧ Kp w w' := fun w t l h =>
    (tree_apply (o := ⟨1, 0, 256, 0, letter 0⟩) (r := true) h acyc_empty (isRight_small ⟨by decide, by decide, by decide, by decide, by decide, by decide, .inl rfl, 0, by decide, rfl⟩) ⟨fun _ => ⟨rfl, not1⟩, fun _ => rfl⟩ (by simp)).mono fun e w' ⟨h1, h2, h3⟩ => ⟨_, rfl, h1, h2, h3⟩
  have A2 : ∀ (w : World) (t : Nat) (ds : List ChD) (l : List HProp), ds.length = 1 → Sat w (treeP t f1 ds :: l) → Calls Tryd.prog 15 #[.pointer (some ⟨t, 0, none⟩), .agg #[.int .i64 1, .int .i64 0, .int .i64 257, .int .i64 256, .string ⟨#[98]⟩]] w fun e w' => ∃ ds, ds.length = 2 ∧ e = .returned (.bool true) ∧ Sat w' (treeP t f2 ds :: l) ∧ Kp w w' := fun w t ds l hd h =>
    (tree_apply (o := ⟨1, 0, 257, 256, letter 1⟩) (r := true) h ac1 (isRight_small ⟨by decide, by decide, by decide, by decide, by decide, by decide, .inr (.inr ⟨by decide, by decide⟩), 1, by decide, rfl⟩) ⟨fun _ => ⟨by simp [known, f1_at], not2⟩, fun _ => rfl⟩ (by omega)).mono fun e w' ⟨h1, h2, h3⟩ => ⟨_, by simp [hd], h1, h2, h3⟩
  have A3 : ∀ (w : World) (t : Nat) (ds : List ChD) (l : List HProp), ds.length = 2 → Sat w (treeP t f2 ds :: l) → Calls Tryd.prog 15 #[.pointer (some ⟨t, 0, none⟩), .agg #[.int .i64 1, .int .i64 0, .int .i64 256, .int .i64 257, .string ⟨#[99]⟩]] w fun e w' => ∃ ds, e = .returned (.bool false) ∧ Sat w' (treeP t f2 ds :: l) ∧ Kp w w' := fun w t ds l hd h =>
    (tree_apply (o := ⟨1, 0, 256, 257, letter 2⟩) (r := false) h ac2 (isRight_small ⟨by decide, by decide, by decide, by decide, by decide, by decide, .inr (.inr ⟨by decide, by decide⟩), 2, by decide, rfl⟩) ⟨fun h => by (cases h), fun h => absurd is3 h.2⟩ (by omega)).mono fun e w' ⟨h1, h2, h3⟩ => ⟨_, h1, h2, h3⟩
  obtain ⟨k3, hk3⟩ := ac2 257
  go_enter Tryd.func11, Tryd.ntmps11
  go_wp2_with fail
  refine (tree_new hs).mono ?_
  rintro e w1 ⟨t, rfl, h1, k1⟩
  have hS := (h1.alloc (.cells #[.int .i64 1, .int .i64 0] 31)).swap
  have kS := k1.alloc (.cells #[.int .i64 1, .int .i64 0] 31)
  go_upto_region 5 with (fail)
  generalize World.alloc _ _ = w2 at hS kS ⊢
  generalize w1.heap.size = S at hS ⊢
  have s0 := (hS.pull 1).cell 0
  have s1 := (hS.pull 1).cell 1
  simp at s0 s1
  go_wp2_with fail
  refine (A1 _ _ _ hS).mono ?_
  rintro e w3 ⟨ds1, hd1, rfl, h3, k3⟩
  clear s0 s1
  have s0 := (h3.pull 1).cell 0
  have s1 := (h3.pull 1).cell 1
  simp at s0 s1
  go_wp2_with fail
  refine (A2 _ _ _ _ hd1 h3).mono ?_
  rintro e w4 ⟨ds2, hd2, rfl, h4, k4⟩
  clear s0 s1
  have s0 := (h4.pull 1).cell 0
  have s1 := (h4.pull 1).cell 1
  simp at s0 s1
  go_wp2_with fail
  refine (find_ab h4 few2 f2_a f2_b ?_).mono ?_
  · intro k s hk
    by_cases h1 : k = 257
    · exact .inr h1
    · by_cases h2 : k = 256
      · exact .inl h2
      · unfold f2 f1 at hk
        rw [upd_other h1, upd_other h2] at hk
        cases hk
  rintro e w5 ⟨rfl, h5, k5⟩
  clear s0 s1
  have s0 := (h5.pull 1).cell 0
  have s1 := (h5.pull 1).cell 1
  simp at s0 s1
  go_wp2_with fail
  refine (A3 _ _ _ _ hd2 h5).mono ?_
  rintro e w6 ⟨ds3, rfl, h6, k6⟩
  go_wp2_with fail
  refine (tree_above (r := true) h6 hk3 ⟨fun _ => ⟨by simp [known, f2_b], is3⟩, fun _ => rfl⟩).mono ?_
  rintro e w7 ⟨rfl, h7, k7⟩
  go_wp2_with fail
  go_ret
  exact ⟨rfl, h7.tail.tail, ((((kS.trans k3).trans k4).trans k5).trans k6).trans k7⟩

end Go.Proofs.YtbnipieokpeadaaDoor

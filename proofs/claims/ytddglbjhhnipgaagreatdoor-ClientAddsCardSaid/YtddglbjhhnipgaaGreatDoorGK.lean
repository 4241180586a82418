import Derived.Test.YtddglbjhhnipgaaGreatDoorGJ
import Derived.Test.YtddglbjhhnipgaaGreatDoorGE
import Derived.Test.YtddglbjhhnipgaaGreatDoorGI
namespace Go.Proofs.YtddglbjhhnipgaaGreatDoor
open Go Go.RowKit
set_option linter.unusedVariables false
set_option linter.unusedSimpArgs false
set_option maxRecDepth 100000
set_option maxHeartbeats 8000000
theorem len_fSt (s : ByteArray) : (fSt s).length = 1 := rfl
theorem split_ab {w : World} {l : List HProp} (hs : Sat w l) : Calls Tryz.prog 80 #[.string ⟨#[97, 47, 98]⟩, .string ⟨#[47]⟩] w fun e w' => ∃ v, e = .returned v ∧ Sat w' (rowT fSt v 9 1 [letter 0, letter 1] :: l) ∧ Kp w w' := by
 go_enter Tryz.func80, Tryz.ntmps80
 go_wp2_with fail
 refine (split_gen hs).mono ?_
 rintro e w1 ⟨v, rfl, h1, k1⟩
 go_wp2_with fail
 go_ret
 exact ⟨v, rfl, h1, k1⟩
theorem name_split_ab {w : World} {l : List HProp} (hs : Sat w l) : Calls Tryz.prog 38 #[.string ⟨#[47, 97, 47, 98]⟩] w fun e w' => ∃ v, e = .returned (.tuple #[v, .int .i64 0]) ∧ Sat w' (rowT fSt v 9 1 [letter 0, letter 1] :: l) ∧ Kp w w' := by
 have hne : ((⟨#[47, 97, 47, 98]⟩ : ByteArray).toList == [47]) = false := by decide +kernel
 have hx : (⟨#[47, 97, 47, 98]⟩ : ByteArray).extract 1 4 = ⟨#[97, 47, 98]⟩ := by decide +kernel
 go_enter Tryz.func38, Tryz.ntmps38
 go_wp2_with fail
 refine prefix_slash.mono ?_
 rintro e w1 ⟨rfl, rfl⟩
 go_wp2_with fail
 refine (split_ab hs).mono ?_
 rintro e w1 ⟨v, rfl, h1, k1⟩
 obtain ⟨g, off, cap, rfl⟩ := h1.tSome
 have x0 := h1.tCell len_fSt 0 0 rfl rfl
 have x1 := h1.tCell len_fSt 1 0 rfl rfl
 simp at x0 x1
 simp only [List.length_cons, List.length_nil, Nat.zero_add, Nat.reduceAdd]
 go_wp2_with fail
 refine wp_loop_rounds 3 ?_
 rw [rounds_succ]
 go_wp2_with fail
 refine (right_letter (k := 0) (by omega) h1).mono ?_
 rintro e w2 ⟨rfl, h2, k2⟩
 have x1 := h2.tCell len_fSt 1 0 rfl rfl
 simp at x1
 go_wp2_with fail
 rw [rounds_succ]
 go_wp2_with fail
 refine (right_letter (k := 1) (by omega) h2).mono ?_
 rintro e w3 ⟨rfl, h3, k3⟩
 go_wp2_with fail
 rw [rounds_succ]
 go_wp2_with fail
 go_ret2
 exact ⟨_, rfl, h3, (k1.trans k2).trans k3⟩
theorem single {α : Type} {p : α} : ∀ {l : List α}, l.Nodup → (∀ x ∈ l, x = p) → p ∈ l → l = [p]
 | [], _, _, h => by cases h
 | [x], _, h, _ => by rw [h x (List.mem_cons_self ..)]
 | x :: y :: l, hn, h, _ => by
   have h1 := h x (List.mem_cons_self ..)
   have h2 := h y (List.mem_cons_of_mem _ (List.mem_cons_self ..))
   have := (List.nodup_cons.1 hn).1
   rw [h1, h2] at this
   exact absurd (List.mem_cons_self ..) this
theorem nodup_of_map {α β : Type} (g : α → β) : ∀ {l : List α}, (l.map g).Nodup → l.Nodup
 | [], _ => List.nodup_nil
 | x :: l, h => by
   have h1 := List.nodup_cons.1 h
   exact List.nodup_cons.2 ⟨fun hx => h1.1 (List.mem_map.2 ⟨x, hx, rfl⟩), nodup_of_map g h1.2⟩
/-- Where just one thing fits, that is the list. -/
theorem kids_one {f : Int → Option Loc} {S : List (Int × Loc)} {test : Int × Loc → Bool} {p : Int × Loc} (hS : Enum f S) (hp : f p.1 = some p.2) (ht : test p = true) (ho : ∀ k s, f k = some s → test (k, s) = true → (k, s) = p) : isort klt (kidsOf test S) = [kidOf p] := by
 have h : S.filter test = [p] := by
   refine single ((nodup_of_map Prod.fst hS.nodup).filter _) (fun x hx => ?_) ?_
   · obtain ⟨h1, h2⟩ := List.mem_filter.1 hx
     exact ho x.1 x.2 (hS.mem x h1) h2
   · exact List.mem_filter.2 ⟨hS.all p.1 p.2 hp, ht⟩
 unfold kidsOf
 rw [h]
 rfl
/-- Where a path leads. -/
def FindR (f : Int → Option Loc) : Int → List ByteArray → Int → Int → Prop
 | n, [], a, e => a = n ∧ e = 0
 | n, s :: l, a, e => (a = 0 ∧ e = 9 ∧ ∀ k, f k ≠ some ⟨n, s⟩) ∨ ∃ k, f k = some ⟨n, s⟩ ∧ (∀ k', f k' = some ⟨n, s⟩ → k ≤ k') ∧ FindR f k l a e
theorem sEq_iff {x y : ByteArray} : sEq x y = true ↔ x = y := by
 unfold sEq
 constructor
 · intro h
   have := eq_of_beq h
   rw [ByteArray.toList_eq, ByteArray.toList_eq] at this
   exact ba_ext this
 · rintro rfl
   exact beq_self_eq_true _
theorem isort_pair {l : List KidD} {i j : Nat} {x y : KidD} (hij : i < j) (hx : (isort klt l)[i]? = some x) (hy : (isort klt l)[j]? = some y) : klt y x = false := by
 have h := isortR_sorted strict_klt l
 have h2 : (isort klt l).Pairwise fun a b => klt b a = false := by
   unfold isort
   exact List.pairwise_reverse.2 h
 obtain ⟨hi1, hi2⟩ := List.getElem?_eq_some_iff.1 hx
 obtain ⟨hj1, hj2⟩ := List.getElem?_eq_some_iff.1 hy
 have := List.pairwise_iff_getElem.1 h2 i j hi1 hj1 hij
 rw [hi2, hj2] at this
 exact this
theorem klt_node {u : Int} {s : ByteArray} {a b : Int} (h : klt ⟨u, s, a⟩ ⟨u, s, b⟩ = false) : b ≤ a := by
 unfold klt kord or3 at h
 have h1 : cmpI u u = 0 := by simp [cmpI]
 have h2 : cmpS s s = 0 := by
   unfold cmpS
   have h3 : sEq s s = true := sEq_iff.2 rfl
   have h4 : slt s s = false := by
     have := strict_klt.irr ⟨0, s, 0⟩
     unfold klt kord or3 at this
     simp only [cmpI, Int.lt_irrefl, if_false, if_true] at this
     unfold cmpS at this
     cases h : slt s s with
     | false => rfl
     | true => rw [h] at this; simp at this
   rw [h4, h3]; simp
 simp only [h1, h2, if_true] at h
 unfold cmpI at h
 by_cases hab : a < b
 · rw [if_pos hab] at h; simp at h
 · omega
theorem mem_kids {f : Int → Option Loc} {S : List (Int × Loc)} {n k : Int} {s : ByteArray} (hS : Enum f S) (hf : f k = some ⟨n, s⟩) : (⟨n, s, k⟩ : KidD) ∈ isort klt (kidsOf (fun p => p.2.up == n) S) := by
 apply (isort_perm klt _).mem_iff.2
 unfold kidsOf
 exact List.mem_map.2 ⟨(k, ⟨n, s⟩), List.mem_filter.2 ⟨hS.all k _ hf, by simp⟩, rfl⟩
theorem kids_mem2 {f : Int → Option Loc} {S : List (Int × Loc)} {n : Int} {k : KidD} (hS : Enum f S) (hk : k ∈ isort klt (kidsOf (fun p => p.2.up == n) S)) : f k.node = some ⟨n, k.name⟩ := by
 have h1 := (isort_perm klt _).mem_iff.1 hk
 unfold kidsOf at h1
 obtain ⟨p, hp, rfl⟩ := List.mem_map.1 h1
 obtain ⟨h2, h3⟩ := List.mem_filter.1 hp
 have h4 := hS.mem p h2
 have h5 : p.2.up = n := by simpa using h3
 show f p.1 = some ⟨n, p.2.name⟩
 rw [h4, ← h5]
theorem kids_none {f : Int → Option Loc} {S : List (Int × Loc)} {n : Int} {s : ByteArray} (hS : Enum f S) (h : ∀ k ∈ isort klt (kidsOf (fun p => p.2.up == n) S), sEq k.name s = false) : ∀ k, f k ≠ some ⟨n, s⟩ := by
 intro k hk
 have := h _ (mem_kids hS hk)
 rw [show sEq s s = true from sEq_iff.2 rfl] at this
 cases this
theorem kids_first {f : Int → Option Loc} {S : List (Int × Loc)} {n : Int} {s : ByteArray} {j : Nat} {k : KidD} (hS : Enum f S) (hj : (isort klt (kidsOf (fun p => p.2.up == n) S))[j]? = some k) (he : sEq k.name s = true)
   (hb : ∀ i, i < j → ∀ k', (isort klt (kidsOf (fun p => p.2.up == n) S))[i]? = some k' → sEq k'.name s = false) : f k.node = some ⟨n, s⟩ ∧ ∀ k', f k' = some ⟨n, s⟩ → k.node ≤ k' := by
 have hs := sEq_iff.1 he
 have h1 := kids_mem2 hS (List.mem_of_getElem? hj)
 rw [hs] at h1
 refine ⟨h1, fun k' hk' => ?_⟩
 obtain ⟨i, hi⟩ := List.getElem?_of_mem (mem_kids hS hk')
 rcases Nat.lt_trichotomy i j with hlt | heq | hgt
 · have := hb i hlt _ hi
   rw [show sEq s s = true from sEq_iff.2 rfl] at this
   cases this
 · subst heq
   rw [hj] at hi
   cases hi
   exact Int.le_refl _
 · have h2 := isort_pair hgt hj hi
   have h3 : k = ⟨n, s, k.node⟩ := by
     have h4 := (isort_perm klt _).mem_iff.1 (List.mem_of_getElem? hj)
     unfold kidsOf at h4
     obtain ⟨p, hp, hpk⟩ := List.mem_map.1 h4
     obtain ⟨_, h5⟩ := List.mem_filter.1 hp
     have h6 : p.2.up = n := by simpa using h5
     rw [← hpk] at hs ⊢
     show (⟨p.2.up, p.2.name, p.1⟩ : KidD) = ⟨n, s, p.1⟩
     rw [h6, show p.2.name = s from hs]
   rw [h3] at h2
   exact klt_node h2
theorem FindR.uniq {f : Int → Option Loc} : ∀ {l : List ByteArray} {n a e a' e' : Int}, FindR f n l a e → FindR f n l a' e' → a = a' ∧ e = e'
 | [], n, a, e, a', e', h, h' => ⟨h.1.trans h'.1.symm, h.2.trans h'.2.symm⟩
 | s :: l, n, a, e, a', e', h, h' => by
   rcases h with ⟨h1, h2, h3⟩ | ⟨k, h1, h2, h3⟩
   · rcases h' with ⟨g1, g2, g3⟩ | ⟨k', g1, g2, g3⟩
     · exact ⟨h1.trans g1.symm, h2.trans g2.symm⟩
     · exact absurd g1 (h3 k')
   · rcases h' with ⟨g1, g2, g3⟩ | ⟨k', g1, g2, g3⟩
     · exact absurd h1 (g3 k)
     · obtain rfl : k = k' := Int.le_antisymm (h2 k' g1) (g2 k h1)
       exact h3.uniq g3
/-- What Find answers. -/
def FindA (f : Int → Option Loc) (s : ByteArray) (a e : Int) : Prop := (pathL s = none ∧ a = 0 ∧ e = 4) ∨ ∃ nms, pathL s = some nms ∧ FindR f 0 nms a e
theorem FindA.uniq {f : Int → Option Loc} {s : ByteArray} {a e a' e' : Int} (h : FindA f s a e) (h' : FindA f s a' e') : a = a' ∧ e = e' := by
 rcases h with ⟨h1, h2, h3⟩ | ⟨l, h1, h2⟩
 · rcases h' with ⟨g1, g2, g3⟩ | ⟨l', g1, g2⟩
   · exact ⟨h2.trans g2.symm, h3.trans g3.symm⟩
   · rw [h1] at g1; cases g1
 · rcases h' with ⟨g1, g2, g3⟩ | ⟨l', g1, g2⟩
   · rw [h1] at g1; cases g1
   · rw [h1] at g1; cases g1
     exact h2.uniq g2
def FindPost (w : World) (f : Int → Option Loc) (s : ByteArray) (l : List HProp) (e : Ending) (w' : World) : Prop := ∃ a er, FindA f s a er ∧ e = .returned (.tuple #[.int .i64 a, .int .i64 er]) ∧ Sat w' l ∧ Kp w w'
def fe : Int → Option Loc := fun _ => none
def f1 : Int → Option Loc := upd fe 256 (some ⟨0, letter 0⟩)
def f2 : Int → Option Loc := upd f1 257 (some ⟨256, letter 1⟩)
theorem f1_at : f1 256 = some ⟨0, letter 0⟩ := upd_same _ _ _
theorem f2_b : f2 257 = some ⟨256, letter 1⟩ := upd_same _ _ _
theorem f2_a : f2 256 = some ⟨0, letter 0⟩ := by unfold f2; rw [upd_other (by decide)]; exact f1_at
theorem f1_0 : f1 0 = none := by unfold f1; rw [upd_other (by decide)]; rfl
theorem f2_0 : f2 0 = none := by unfold f2; rw [upd_other (by decide)]; exact f1_0
theorem not1 : ¬ Anc fe 256 0 := Anc.stops rfl (by decide)
theorem not2 : ¬ Anc f1 257 256 := by
 rw [Anc.step f1_at (by decide)]
 exact Anc.stops f1_0 (by decide)
theorem is3 : Anc f2 256 257 := .up f2_b .here
theorem ac1 : Acyc f1 := acyc_empty.put not1
theorem ac2 : Acyc f2 := ac1.put not2
theorem few1 : Few f1 := few_empty.put (by decide) (by decide)
theorem few2 : Few f2 := few1.put (by decide) (by decide)
end Go.Proofs.YtddglbjhhnipgaaGreatDoor

import Derived.Test.YtddglbjhhnipgaaGreatDoorGD
import Derived.Test.YtddglbjhhnipgaaGreatDoorGH
import Derived.Test.YtddglbjhhnipgaaGreatDoorGI
namespace Go.Proofs.YtddglbjhhnipgaaGreatDoor
open Go Go.RowKit
set_option linter.unusedVariables false
set_option linter.unusedSimpArgs false
set_option maxRecDepth 100000
set_option maxHeartbeats 8000000
noncomputable def above (f : Int → Option Loc) (a b : Int) : Bool := @decide (Anc f a b) (Classical.propDecidable _)
theorem above_iff {f : Int → Option Loc} {a b : Int} : above f a b = true ↔ Anc f a b := by
 unfold above
 exact @decide_eq_true_iff _ (Classical.propDecidable _)
/-- Does an operation put its node there? -/
noncomputable def can (f : Int → Option Loc) (o : OpD) : Bool := known f o.up && !above f o.node o.up
theorem can_iff {f : Int → Option Loc} {o : OpD} : can f o = true ↔ known f o.up = true ∧ ¬ Anc f o.node o.up := by
 unfold can
 rw [Bool.and_eq_true, Bool.not_eq_true', ← above_iff]
 simp
abbrev TreeD := (Int → Option Loc) × List ChD
noncomputable def stepT (s : TreeD) (o : OpD) : TreeD := if rightO o then (applied s.1 o (can s.1 o), s.2 ++ [⟨o.node, s.1 o.node, newLoc s.1 o (can s.1 o)⟩]) else s
noncomputable def growT (os : List OpD) : TreeD := os.foldl stepT ((fun _ => none), [])
theorem growT_snoc (os : List OpD) (o : OpD) : growT (os ++ [o]) = stepT (growT os) o := by simp [growT]
theorem grow_keeps {P : TreeD → Prop} (h0 : P ((fun _ => none), [])) (hs : ∀ s o, P s → P (stepT s o)) : ∀ os, P (growT os) := by
 have key : ∀ (os : List OpD) (s : TreeD), P s → P (os.foldl stepT s) := by
   intro os
   induction os with
   | nil => exact fun s h => h
   | cons o os ih => exact fun s h => ih _ (hs s o h)
 exact fun os => key os _ h0
theorem step_acyc {s : TreeD} (o : OpD) (h : Acyc s.1) : Acyc (stepT s o).1 := by
 unfold stepT
 cases rightO o with
 | false => exact h
 | true =>
   show Acyc (applied s.1 o (can s.1 o))
   cases hc : can s.1 o with
   | false => exact h
   | true => exact h.put (can_iff.1 hc).2
theorem grow_acyc (os : List OpD) : Acyc (growT os).1 := grow_keeps (P := fun s => Acyc s.1) acyc_empty (fun s o h => step_acyc o h) os
theorem step_len (s : TreeD) (o : OpD) : (stepT s o).2.length ≤ s.2.length + 1 := by
 unfold stepT
 cases rightO o with
 | false => exact Nat.le_succ _
 | true => simp
theorem grow_len (os : List OpD) : (growT os).2.length ≤ os.length := by
 have key : ∀ (os : List OpD) (s : TreeD), (os.foldl stepT s).2.length ≤ s.2.length + os.length := by
   intro os
   induction os with
   | nil => exact fun s => Nat.le_refl _
   | cons o os ih =>
     intro s
     have h1 := ih (stepT s o)
     have h2 := step_len s o
     simp only [List.foldl_cons, List.length_cons]
     omega
 have := key os ((fun _ => none), [])
 simpa [growT] using this
theorem op_at {w : World} {b off n cap k : Nat} {os : List OpD} {a : OpD} (h : ArgRow w fO (some ⟨b, off, none⟩) n cap os) (hk : os[k]? = some a) :
   w.cell? ⟨b, off + k * 5, none⟩ = some (.int .i64 a.n) ∧ w.cell? ⟨b, off + k * 5 + 1, none⟩ = some (.int .i64 a.r) ∧ w.cell? ⟨b, off + k * 5 + 2, none⟩ = some (.int .i64 a.node) ∧ w.cell? ⟨b, off + k * 5 + 3, none⟩ = some (.int .i64 a.up) ∧ w.cell? ⟨b, off + k * 5 + 4, none⟩ = some (.string a.name) := by
 have h0 := (List.getElem?_eq_some_iff.1 hk).1
 have hl := h.len
 obtain ⟨b', off', e, hc⟩ := h.cells (by omega)
 simp only [Option.some.injEq, Addr.mk.injEq, and_true] at e
 obtain ⟨rfl, rfl⟩ := e
 have key : ∀ j u, j < 5 → (fO a)[j]? = some u → w.cell? ⟨b, off + k * 5 + j, none⟩ = some u := fun j u hj hu => by
   have := hc (k * 5 + j) u (by rw [get_flat len_fO os k j a hk hj]; exact hu)
   rw [← Nat.add_assoc] at this; exact this
 exact ⟨key 0 _ (by omega) rfl, key 1 _ (by omega) rfl, key 2 _ (by omega) rfl, key 3 _ (by omega) rfl, key 4 _ (by omega) rfl⟩
theorem snoc_ind {α : Type} {P : List α → Prop} (h0 : P []) (hs : ∀ l a, P l → P (l ++ [a])) (l : List α) : P l := by
 have key : ∀ r : List α, P r.reverse := by
   intro r
   induction r with
   | nil => exact h0
   | cons a r ih => rw [List.reverse_cons]; exact hs _ _ ih
 have := key l.reverse
 rwa [List.reverse_reverse] at this
theorem right_node {o : OpD} (h : rightO o = true) : 256 ≤ o.node := by
 unfold rightO nodeOk at h
 simp at h
 omega
/-- What a tree that was grown is like. -/
structure Grown (os : List OpD) (f : Int → Option Loc) : Prop where
 acyc : Acyc f
 dom : ∀ k l, f k = some l → 256 ≤ k ∧ ∃ o ∈ os, o.node = k
 closed : ∀ k l, f k = some l → known f l.up = true
theorem known_put {f : Int → Option Loc} {n k : Int} {s : Loc} (h : known f k = true) : known (upd f n (some s)) k = true := by
 unfold known at h ⊢
 by_cases e : k = n
 · subst e; rw [upd_same]; simp
 · rw [upd_other e]; exact h
theorem grow_grown : ∀ os, Grown os (growT os).1 := by
 intro os
 induction os using snoc_ind with
 | h0 => exact ⟨acyc_empty, fun k l h => (by cases h), fun k l h => (by cases h)⟩
 | hs os o ih =>
   refine ⟨grow_acyc _, ?_, ?_⟩
   · intro k l h
     rw [growT_snoc] at h
     unfold stepT at h
     cases hr : rightO o with
     | false =>
       rw [hr] at h
       obtain ⟨h1, o', h2, h3⟩ := ih.dom k l h
       exact ⟨h1, o', List.mem_append_left _ h2, h3⟩
     | true =>
       rw [hr] at h
       have h : applied (growT os).1 o (can (growT os).1 o) k = some l := h
       cases hc : can (growT os).1 o with
       | false =>
         rw [hc] at h
         obtain ⟨h1, o', h2, h3⟩ := ih.dom k l h
         exact ⟨h1, o', List.mem_append_left _ h2, h3⟩
       | true =>
         rw [hc] at h
         have h : upd (growT os).1 o.node (some ⟨o.up, o.name⟩) k = some l := h
         by_cases e : k = o.node
         · rw [e]
           exact ⟨right_node hr, o, by simp, rfl⟩
         · rw [upd_other e] at h
           obtain ⟨h1, o', h2, h3⟩ := ih.dom k l h
           exact ⟨h1, o', List.mem_append_left _ h2, h3⟩
   · intro k l h
     rw [growT_snoc] at h ⊢
     unfold stepT at h ⊢
     cases hr : rightO o with
     | false =>
       rw [hr] at h
       exact ih.closed k l h
     | true =>
       rw [hr] at h
       have h : applied (growT os).1 o (can (growT os).1 o) k = some l := h
       show known (applied (growT os).1 o (can (growT os).1 o)) l.up = true
       cases hc : can (growT os).1 o with
       | false =>
         rw [hc] at h
         exact ih.closed k l h
       | true =>
         rw [hc] at h
         have h : upd (growT os).1 o.node (some ⟨o.up, o.name⟩) k = some l := h
         show known (upd (growT os).1 o.node (some ⟨o.up, o.name⟩)) l.up = true
         by_cases e : k = o.node
         · subst e
           rw [upd_same] at h
           cases h
           exact known_put (can_iff.1 hc).1
         · rw [upd_other e] at h
           exact known_put (ih.closed k l h)
theorem nodup_sub : ∀ {l m : List Int}, l.Nodup → (∀ x ∈ l, x ∈ m) → l.length ≤ m.length
 | [], m, _, _ => Nat.zero_le _
 | x :: l, m, hn, hs => by
   have hx := hs x (List.mem_cons_self ..)
   have h1 := List.nodup_cons.1 hn
   have h2 := nodup_sub (l := l) (m := m.erase x) h1.2 (fun y hy => by
     have hne : y ≠ x := fun e => h1.1 (e ▸ hy)
     exact (List.mem_erase_of_ne hne).2 (hs y (List.mem_cons_of_mem _ hy)))
   have h3 := List.length_erase_of_mem hx
   have h4 : 0 < m.length := List.length_pos_of_mem hx
   rw [List.length_cons]
   omega
theorem Grown.len {os : List OpD} {f : Int → Option Loc} (h : Grown os f) {S : List (Int × Loc)} (hm : ∀ p ∈ S, f p.1 = some p.2) (hn : (S.map Prod.fst).Nodup) : S.length ≤ os.length := by
 have := nodup_sub (m := os.map OpD.node) hn (fun x hx => by
   obtain ⟨p, hp, rfl⟩ := List.mem_map.1 hx
   obtain ⟨_, o, ho, e⟩ := h.dom p.1 p.2 (hm p hp)
   exact List.mem_map.2 ⟨o, ho, e⟩)
 simpa using this
theorem Grown.bnd {os : List OpD} {f : Int → Option Loc} (h : Grown os f) (hl : os.length ≤ 1000) : Bnd f := fun S hm hn => Nat.le_trans (h.len hm hn) hl
theorem Grown.low {os : List OpD} {f : Int → Option Loc} (h : Grown os f) {k : Int} (hk : k < 256) : f k = none := by
 cases e : f k with
 | none => rfl
 | some l => have := (h.dom k l e).1; omega
/-- Each known node is below the root or below the trash, not both. -/
theorem root_trash {os : List OpD} {f : Int → Option Loc} (h : Grown os f) {b : Int} {k : Nat} (hr : Reach f b k) (hk : known f b = true) : (above f 0 b == above f 1 b) = false := by
 have h0 : f 0 = none := h.low (by omega)
 have h1 : f 1 = none := h.low (by omega)
 have key : ∀ (b : Int) (k : Nat), Reach f b k → known f b = true → (Anc f 0 b ∧ ¬ Anc f 1 b) ∨ (Anc f 1 b ∧ ¬ Anc f 0 b) := by
   intro b k hr
   induction hr with
   | @zero b e =>
     intro hk
     unfold known at hk
     rw [e] at hk
     simp at hk
     rcases hk with rfl | rfl
     · exact .inl ⟨.here, fun h => by have := h.stop h0; omega⟩
     · exact .inr ⟨.here, fun h => by have := h.stop h1; omega⟩
   | @succ b l k e _ ih =>
     intro _
     have hb := (h.dom b l e).1
     rw [Anc.step e (by omega : (0 : Int) ≠ b), Anc.step e (by omega : (1 : Int) ≠ b)]
     exact ih (h.closed b l e)
 rcases key b k hr hk with ⟨a, c⟩ | ⟨a, c⟩
 · rw [above_iff.2 a]
   cases e : above f 1 b with
   | false => rfl
   | true => exact absurd (above_iff.1 e) c
 · rw [above_iff.2 a]
   cases e : above f 0 b with
   | false => rfl
   | true => exact absurd (above_iff.1 e) c
/-- No way up is longer than there are nodes. -/
theorem reach_le {f : Int → Option Loc} {b : Int} {k : Nat} (hr : Reach f b k) {S : List (Int × Loc)} (hS : Enum f S) : k ≤ S.length := by
 have key : ∃ L : List Int, L.length = k ∧ L.Nodup ∧ ∀ x ∈ L, f x ≠ none ∧ ∃ j, j ≤ k ∧ Reach f x j := by
   induction hr with
   | zero _ => exact ⟨[], rfl, List.nodup_nil, fun x hx => by cases hx⟩
   | @succ b l k e hr ih =>
     obtain ⟨L, h1, h2, h3⟩ := ih
     refine ⟨b :: L, by rw [List.length_cons, h1], List.nodup_cons.2 ⟨fun hb => ?_, h2⟩, fun x hx => ?_⟩
     · obtain ⟨_, j, hj, hrj⟩ := h3 b hb
       have := hrj.uniq (.succ e hr)
       omega
     · rcases List.mem_cons.1 hx with rfl | hx
       · exact ⟨by rw [e]; simp, k + 1, Nat.le_refl _, .succ e hr⟩
       · obtain ⟨h4, j, hj, hrj⟩ := h3 x hx
         exact ⟨h4, j, by omega, hrj⟩
 obtain ⟨L, h1, h2, h3⟩ := key
 have := nodup_sub (m := S.map Prod.fst) h2 (fun x hx => by
   cases e : f x with
   | none => exact absurd e (h3 x hx).1
   | some s => exact List.mem_map.2 ⟨(x, s), hS.all x s e, rfl⟩)
 rw [List.length_map] at this
 omega
theorem all_known {f : Int → Option Loc} {S : List (Int × Loc)} {k : KidD} (hS : Enum f S) (hk : k ∈ isort klt (kidsOf (fun _ => true) S)) : ∃ l, f k.node = some l := by
 have h1 := (isort_perm klt _).mem_iff.1 hk
 unfold kidsOf at h1
 obtain ⟨p, hp, rfl⟩ := List.mem_map.1 h1
 exact ⟨p.2, hS.mem p (List.mem_filter.1 hp).1⟩
theorem all_nodup {f : Int → Option Loc} {S : List (Int × Loc)} (hS : Enum f S) : ((isort klt (kidsOf (fun _ => true) S)).map KidD.node).Nodup := by
 have h1 : ((kidsOf (fun _ => true) S).map KidD.node).Nodup := by
   unfold kidsOf
   rw [List.map_map]
   have h2 : S.filter (fun _ => true) = S := List.filter_eq_self.2 (fun _ _ => rfl)
   rw [h2]
   exact hS.nodup
 exact (((isort_perm klt _).map KidD.node).nodup_iff).2 h1
end Go.Proofs.YtddglbjhhnipgaaGreatDoor

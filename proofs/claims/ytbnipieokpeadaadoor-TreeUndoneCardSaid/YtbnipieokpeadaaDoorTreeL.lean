import Derived.Test.YtbnipieokpeadaaDoorMap2
namespace Go.Proofs.YtbnipieokpeadaaDoor
set_option linter.unusedVariables false

/-! ### trees, with no program in sight -/

def known (f : Int → Option Loc) (n : Int) : Bool := (f n).isSome || n == 0 || n == 1

/-- From b one leaves the tree behind k steps up. -/
inductive Reach (f : Int → Option Loc) : Int → Nat → Prop
  | zero {b : Int} : f b = none → Reach f b 0
  | succ {b : Int} {l : Loc} {k : Nat} : f b = some l → Reach f l.up k → Reach f b (k + 1)
/-- a is b, or above it. -/
inductive Anc (f : Int → Option Loc) (a : Int) : Int → Prop
  | here : Anc f a a
  | up {b : Int} {l : Loc} : f b = some l → Anc f a l.up → Anc f a b

theorem Reach.uniq {f : Int → Option Loc} {b : Int} {k k' : Nat} (h : Reach f b k) (h' : Reach f b k') : k = k' := by
  induction h generalizing k' with
  | zero e => cases h' with
    | zero => rfl
    | succ e' _ => rw [e] at e'; cases e'
  | succ e _ ih => cases h' with
    | zero e' => rw [e] at e'; cases e'
    | succ e' r =>
      rw [e] at e'
      cases e'
      rw [ih r]
noncomputable def height (f : Int → Option Loc) (b : Int) : Nat := by
  classical
  exact if h : ∃ k, Reach f b k then Classical.choose h else 0
theorem Reach.height {f : Int → Option Loc} {b : Int} {k : Nat} (h : Reach f b k) : Go.Proofs.YtbnipieokpeadaaDoor.height f b = k := by
  have hx : ∃ k, Reach f b k := ⟨k, h⟩
  unfold Go.Proofs.YtbnipieokpeadaaDoor.height
  rw [dif_pos hx]
  exact (Classical.choose_spec hx).uniq h

theorem Anc.stop {f : Int → Option Loc} {a b : Int} (h : Anc f a b) (hb : f b = none) : a = b := by
  cases h with
  | here => rfl
  | up e _ => rw [hb] at e; cases e
theorem Anc.step {f : Int → Option Loc} {a b : Int} {l : Loc} (hb : f b = some l) (hne : a ≠ b) : Anc f a b ↔ Anc f a l.up := by
  constructor
  · intro h
    cases h with
    | here => exact absurd rfl hne
    | up e h => rw [hb] at e; cases e; exact h
  · exact fun h => .up hb h
theorem Anc.stops {f : Int → Option Loc} {a b : Int} (hb : f b = none) (hne : a ≠ b) : ¬ Anc f a b := fun h => hne (h.stop hb)

/-- No node is above itself. -/
def Acyc (f : Int → Option Loc) : Prop := ∀ b, ∃ k, Reach f b k

theorem reach_away {f : Int → Option Loc} {n : Int} {s : Option Loc} {b : Int} {k : Nat} (h : Reach f b k) (hn : ¬ Anc f n b) : Reach (upd f n s) b k := by
  induction h with
  | zero e => exact .zero (by rw [upd_other (fun hb => hn (by rw [hb]; exact .here))]; exact e)
  | succ e _ ih => exact .succ (by rw [upd_other (fun hb => hn (by rw [hb]; exact .here))]; exact e) (ih fun h => hn (.up e h))

theorem Acyc.put {f : Int → Option Loc} (h : Acyc f) {n : Int} {s : Loc} (hn : ¬ Anc f n s.up) : Acyc (upd f n (some s)) := by
  obtain ⟨k0, h0⟩ := h s.up
  have h1 := reach_away (s := some s) h0 hn
  intro b
  obtain ⟨k, hk⟩ := h b
  induction hk with
  | @zero b e =>
    by_cases hb : b = n
    · exact ⟨_, .succ (by rw [hb, upd_same]) h1⟩
    · exact ⟨0, .zero (by rw [upd_other hb]; exact e)⟩
  | @succ b l k e _ ih =>
    by_cases hb : b = n
    · exact ⟨_, .succ (by rw [hb, upd_same]) h1⟩
    · obtain ⟨k', hk'⟩ := ih
      exact ⟨_, .succ (by rw [upd_other hb]; exact e) hk'⟩

theorem acyc_empty : Acyc (fun _ => none) := fun b => ⟨0, .zero rfl⟩

theorem upd_self (f : Int → Option Loc) (k : Int) : upd f k (f k) = f := by
  funext j
  by_cases h : j = k
  · subst h; rw [upd_same]
  · rw [upd_other h]

/-- All nodes are among the few. -/
def Few (f : Int → Option Loc) : Prop := ∀ k l, f k = some l → 256 ≤ k ∧ k < 264
theorem Few.put {f : Int → Option Loc} (h : Few f) {n : Int} {s : Loc} (h0 : 256 ≤ n) (h1 : n < 264) : Few (upd f n (some s)) := fun k l hk => by
  by_cases hkn : k = n
  · subst hkn; exact ⟨h0, h1⟩
  · rw [upd_other hkn] at hk; exact h k l hk

theorem few_empty : Few (fun _ => none) := fun _ _ h => by cases h
theorem Few.none {f : Int → Option Loc} (h : Few f) {k : Int} (hk : k < 256) : f k = .none := by
  cases hf : f k with
  | none => rfl
  | some l => have := h k l hf; omega

theorem nodup_le : ∀ (n : Nat) (a : Int) (l : List Int), l.Nodup → (∀ x ∈ l, a ≤ x ∧ x < a + n) → l.length ≤ n
  | 0, a, l, _, h => by
    cases l with
    | nil => simp
    | cons x l => have := h x (List.mem_cons_self ..); omega
  | n + 1, a, l, hn, h => by
    by_cases hm : (a + n) ∈ l
    · obtain ⟨l1, l2, rfl⟩ := List.append_of_mem hm
      have h1 := List.nodup_append.1 hn
      have h2 := List.nodup_cons.1 h1.2.1
      have hlen := nodup_le n a (l1 ++ l2) (List.nodup_append.2 ⟨h1.1, h2.2, fun x hx y hy => h1.2.2 x hx y (List.mem_cons_of_mem _ hy)⟩) (fun x hx => by
        have hx' : x ∈ l1 ++ (a + n) :: l2 := by
          rcases List.mem_append.1 hx with hx | hx
          · exact List.mem_append_left _ hx
          · exact List.mem_append_right _ (List.mem_cons_of_mem _ hx)
        have hr := h x hx'
        have hne : x ≠ a + n := by
          rintro rfl
          rcases List.mem_append.1 hx with hx | hx
          · exact h1.2.2 _ hx _ (List.mem_cons_self ..) rfl
          · exact h2.1 hx
        omega)
      simp only [List.length_append, List.length_cons] at hlen ⊢
      omega
    · have := nodup_le n a l hn (fun x hx => by
        have hr := h x hx
        have hne : x ≠ a + n := fun e => hm (e ▸ hx)
        omega)
      omega

theorem Few.length {f : Int → Option Loc} (h : Few f) {S : List (Int × Loc)} (hS : ∀ p ∈ S, f p.1 = some p.2) (hn : (S.map Prod.fst).Nodup) : S.length ≤ 8 := by
  have := nodup_le 8 256 (S.map Prod.fst) hn (fun x hx => by
    obtain ⟨p, hp, rfl⟩ := List.mem_map.1 hx
    have := h _ _ (hS p hp)
    omega)
  simpa using this

end Go.Proofs.YtbnipieokpeadaaDoor

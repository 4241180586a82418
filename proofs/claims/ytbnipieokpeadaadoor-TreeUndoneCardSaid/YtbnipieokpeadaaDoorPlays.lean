import Derived.Test.YtbnipieokpeadaaDoorRefT6
import Derived.Test.YtbnipieokpeadaaDoorUp
namespace Go.Proofs.YtbnipieokpeadaaDoor
open Go Go.RowKit
set_option linter.unusedVariables false

/-! ### TreePlays, with no program in sight: both trees are one -/

/-- What was done, from the last on; what the document's tree was, from the last on. -/
def BothR : List ChD → List (List KidD) → (Int → Option Loc) → List KidD → Prop
  | [], [], f, L => EnumK f L ∧ Acyc f ∧ L.length ≤ 0
  | c :: ds, L' :: Ws, f, L => EnumK f L ∧ Acyc f ∧ L.length ≤ ds.length + 1 ∧ BothR ds Ws (upd f c.node c.old) L'
  | _, _, _, _ => False
def Both (ds : List ChD) (Ws : List (List KidD)) (f : Int → Option Loc) (L : List KidD) : Prop := BothR ds.reverse Ws.reverse f L

theorem bothR_facts : ∀ {ds : List ChD} {Ws : List (List KidD)} {f : Int → Option Loc} {L : List KidD}, BothR ds Ws f L → EnumK f L ∧ Acyc f ∧ L.length ≤ ds.length ∧ Ws.length = ds.length
  | [], [], _, _, h => ⟨h.1, h.2.1, h.2.2, rfl⟩
  | c :: ds, L' :: Ws, _, _, h => ⟨h.1, h.2.1, h.2.2.1, by have := (bothR_facts h.2.2.2).2.2.2; simp [this]⟩
  | [], _ :: _, _, _, h => h.elim
  | _ :: _, [], _, _, h => h.elim
theorem both_facts {ds : List ChD} {Ws : List (List KidD)} {f : Int → Option Loc} {L : List KidD} (h : Both ds Ws f L) : EnumK f L ∧ Acyc f ∧ L.length ≤ ds.length ∧ Ws.length = ds.length := by
  have := bothR_facts h
  simpa using this
theorem both_start : Both [] [] (fun _ => none) [] := ⟨enumk_nil, acyc_empty, Nat.le_refl _⟩
theorem upd_back (f : Int → Option Loc) (o : OpD) (r : Bool) : upd (applied f o r) o.node (f o.node) = f := by
  cases r with
  | false => exact upd_self f o.node
  | true =>
    funext j
    by_cases e : j = o.node
    · subst e; rw [upd_same]
    · rw [upd_other e]
      exact upd_other e
theorem putL_len (L : List KidD) (o : OpD) (r : Bool) : (putL L o r).length ≤ L.length + 1 := by
  cases r with
  | false => exact Nat.le_succ _
  | true =>
    show ((L.filter fun k : KidD => k.node != o.node) ++ [(⟨o.up, o.name, o.node⟩ : KidD)]).length ≤ _
    rw [List.length_append]
    have := List.length_filter_le (fun k : KidD => k.node != o.node) L
    simp
    omega
theorem both_apply {ds : List ChD} {Ws : List (List KidD)} {f : Int → Option Loc} {L : List KidD} (h : Both ds Ws f L) (o : OpD) : Both (ds ++ [⟨o.node, f o.node, newLoc f o (can f o)⟩]) (Ws ++ [L]) (applied f o (can f o)) (putL L o (can f o)) := by
  obtain ⟨h1, h2, h3, h4⟩ := bothR_facts h
  unfold Both
  rw [List.reverse_append, List.reverse_append]
  refine ⟨enumk_put h1 o _, ?_, ?_, ?_⟩
  · cases hc : can f o with
    | false => exact h2
    | true => exact h2.put (can_iff.1 hc).2
  · have := putL_len L o (can f o)
    simp at h3 ⊢
    omega
  · show BothR ds.reverse Ws.reverse (upd (applied f o (can f o)) o.node (f o.node)) L
    rw [upd_back]
    exact h
theorem both_undo {ds : List ChD} {c : ChD} {Ws : List (List KidD)} {f : Int → Option Loc} {L : List KidD} (h : Both (ds ++ [c]) Ws f L) : ∃ Ws' L', Ws = Ws' ++ [L'] ∧ Both ds Ws' (upd f c.node c.old) L' := by
  unfold Both at h
  rw [List.reverse_append] at h
  cases hw : Ws.reverse with
  | nil => rw [hw] at h; exact h.elim
  | cons L' Wr =>
    rw [hw] at h
    refine ⟨Wr.reverse, L', ?_, ?_⟩
    · have := congrArg List.reverse hw
      rw [List.reverse_reverse] at this
      simpa using this
    · unfold Both
      rw [List.reverse_reverse]
      exact h.2.2.2
theorem both_none {Ws : List (List KidD)} {f : Int → Option Loc} {L : List KidD} (h : Both [] Ws f L) : Ws = [] := by
  unfold Both at h
  cases hw : Ws.reverse with
  | nil => simpa using hw
  | cons L' Wr => rw [hw] at h; exact h.elim

/-- The list as pairs. -/
def pairK (k : KidD) : Int × Loc := (k.node, ⟨k.up, k.name⟩)
theorem enum_of {f : Int → Option Loc} {L : List KidD} (h : EnumK f L) : Enum f (L.map pairK) := by
  refine ⟨fun k l hk => ?_, fun p hp => ?_, ?_⟩
  · exact List.mem_map.2 ⟨_, h.all k l hk, rfl⟩
  · obtain ⟨k, hk, rfl⟩ := List.mem_map.1 hp
    exact h.mem k hk
  · rw [List.map_map]
    exact h.nodup
theorem kids_of (p : Int × Loc → Bool) (L : List KidD) : kidsOf p (L.map pairK) = L.filter fun k => p (pairK k) := by
  induction L with
  | nil => rfl
  | cons k L ih =>
    unfold kidsOf at ih ⊢
    rw [List.map_cons, List.filter_cons, List.filter_cons]
    cases hp : p (pairK k) with
    | false => simpa using ih
    | true =>
      simp only [if_true, List.map_cons]
      rw [ih]
      rfl
theorem all_one {f : Int → Option Loc} {L : List KidD} {S : List (Int × Loc)} (h : EnumK f L) (hS : Enum f S) : isort klt (kidsOf (fun _ => true) S) = isort klt L := by
  rw [kids_same hS (enum_of h), kids_of]
  congr 1
  exact List.filter_eq_self.2 (fun _ _ => rfl)
theorem kids_one_n {f : Int → Option Loc} {L : List KidD} {S : List (Int × Loc)} (n : Int) (h : EnumK f L) (hS : Enum f S) : isort klt (kidsOf (fun p => p.2.up == n) S) = isort klt (L.filter fun k => k.up == n) := by
  rw [kids_same hS (enum_of h), kids_of]
  rfl
theorem enumk_reach {f : Int → Option Loc} {L : List KidD} (h : EnumK f L) : ∀ b k, Reach f b k → k ≤ L.length := fun b k hr => by
  have := reach_le hr (enum_of h)
  rwa [List.length_map] at this
theorem enumk_bnd {f : Int → Option Loc} {L : List KidD} (h : EnumK f L) (hL : L.length ≤ 1000) : Bnd f := fun S hm hn => by
  have h2 := nodup_sub (m := (L.map pairK).map Prod.fst) hn (fun x hx => by
    obtain ⟨p, hp, rfl⟩ := List.mem_map.1 hx
    exact List.mem_map.2 ⟨p, (enum_of h).all p.1 p.2 (hm p hp), rfl⟩)
  simp only [List.length_map] at h2
  omega

end Go.Proofs.YtbnipieokpeadaaDoor

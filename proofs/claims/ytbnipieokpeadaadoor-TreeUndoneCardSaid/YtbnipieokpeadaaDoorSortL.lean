import Derived.Test.YtbnipieokpeadaaDoorTreeL
namespace Go.Proofs.YtbnipieokpeadaaDoor
set_option linter.unusedVariables false

/-! ### insertion sort, with no program in sight -/
section
variable {α : Type} (lt : α → α → Bool)

/-- x laid into a row that is held backwards: the greatest first. -/
def insR (x : α) : List α → List α
  | [] => [x]
  | y :: ys => if lt x y then y :: insR x ys else x :: y :: ys
def isortR (l : List α) : List α := l.foldl (fun r x => insR lt x r) []
/-- What insertion sort makes of a list. -/
def isort (l : List α) : List α := (isortR lt l).reverse

theorem insR_perm (x : α) : ∀ l, (insR lt x l).Perm (x :: l)
  | [] => List.Perm.refl _
  | y :: ys => by
    unfold insR
    split
    · exact ((insR_perm x ys).cons y).trans (List.Perm.swap x y ys)
    · exact List.Perm.refl _
theorem insR_len (x : α) (l : List α) : (insR lt x l).length = l.length + 1 := (insR_perm lt x l).length_eq
theorem foldl_perm : ∀ (l r : List α), (l.foldl (fun r x => insR lt x r) r).Perm (r ++ l)
  | [], r => by simp
  | x :: l, r => by
    refine (foldl_perm l (insR lt x r)).trans ?_
    refine ((insR_perm lt x r).append_right l).trans ?_
    exact (List.perm_middle (a := x) (l₁ := r) (l₂ := l)).symm
theorem isort_perm (l : List α) : (isort lt l).Perm l := by
  unfold isort
  refine (List.reverse_perm _).trans ?_
  simpa [isortR] using foldl_perm lt l []
theorem isortR_snoc (l : List α) (x : α) : isortR lt (l ++ [x]) = insR lt x (isortR lt l) := by simp [isortR]
theorem isortR_len (l : List α) : (isortR lt l).length = l.length := by
  have := (isort_perm lt l).length_eq
  simpa [isort] using this

variable {lt}
/-- The order is a total one, and strict. -/
structure Strict (lt : α → α → Bool) : Prop where
  irr : ∀ a, lt a a = false
  trans : ∀ a b c, lt a b = true → lt b c = true → lt a c = true
  tri : ∀ a b, lt a b = true ∨ a = b ∨ lt b a = true
theorem Strict.asymm (h : Strict lt) {a b : α} (e : lt a b = true) : lt b a = false := by
  cases hb : lt b a with
  | false => rfl
  | true => have := h.trans a b a e hb; rw [h.irr] at this; cases this
/-- Backwards sorted: none behind is greater. -/
def SortedR (lt : α → α → Bool) (l : List α) : Prop := l.Pairwise fun a b => lt a b = false
theorem insR_sorted (h : Strict lt) (x : α) : ∀ l, SortedR lt l → SortedR lt (insR lt x l)
  | [], _ => by simp [SortedR, insR]
  | y :: ys, hs => by
    have hs' := List.pairwise_cons.1 hs
    unfold insR
    split
    · next hxy =>
      refine List.pairwise_cons.2 ⟨fun z hz => ?_, insR_sorted h x ys hs'.2⟩
      have := (insR_perm lt x ys).mem_iff.1 hz
      rcases List.mem_cons.1 this with rfl | hz
      · exact h.asymm hxy
      · exact hs'.1 z hz
    · next hxy =>
      have hxy' : lt x y = false := by simpa using hxy
      refine List.pairwise_cons.2 ⟨fun z hz => ?_, hs⟩
      rcases List.mem_cons.1 hz with rfl | hz
      · exact hxy'
      · cases hxz : lt x z with
        | false => rfl
        | true =>
          have hyz := hs'.1 z hz
          rcases h.tri x y with e | e | e
          · rw [hxy'] at e; cases e
          · subst e; rw [hyz] at hxz; cases hxz
          · have := h.trans _ _ _ e hxz; rw [hyz] at this; cases this
theorem isortR_sorted (h : Strict lt) (l : List α) : SortedR lt (isortR lt l) := by
  have : ∀ (l r : List α), SortedR lt r → SortedR lt (l.foldl (fun r x => insR lt x r) r) := by
    intro l
    induction l with
    | nil => exact fun r hr => hr
    | cons x l ih => exact fun r hr => ih _ (insR_sorted h x r hr)
  exact this l [] List.Pairwise.nil
/-- Of two lists of the same things one comes out. -/
theorem sorted_unique (h : Strict lt) : ∀ {l l' : List α}, SortedR lt l → SortedR lt l' → l.Perm l' → l = l'
  | [], l', _, _, hp => (List.Perm.nil_eq hp)
  | a :: l, [], _, _, hp => by have := hp.length_eq; simp at this
  | a :: l, b :: l', hs, hs', hp => by
    have h1 := List.pairwise_cons.1 hs
    have h2 := List.pairwise_cons.1 hs'
    have hab : a = b := by
      have ha : a ∈ b :: l' := hp.mem_iff.1 (List.mem_cons_self ..)
      have hb : b ∈ a :: l := hp.mem_iff.2 (List.mem_cons_self ..)
      rcases List.mem_cons.1 ha with e | ha
      · exact e
      rcases List.mem_cons.1 hb with e | hb
      · exact e.symm
      have e1 := h1.1 b hb
      have e2 := h2.1 a ha
      rcases h.tri a b with e | e | e
      · rw [e1] at e; cases e
      · exact e
      · rw [e2] at e; cases e
    subst hab
    rw [sorted_unique h h1.2 h2.2 ((List.perm_cons a).1 hp)]
theorem isort_eq_of_perm (h : Strict lt) {l l' : List α} (hp : l.Perm l') : isort lt l = isort lt l' := by
  unfold isort
  rw [sorted_unique h (isortR_sorted h l) (isortR_sorted h l')]
  have h1 := (List.reverse_perm (isortR lt l)).symm.trans ((isort_perm lt l).trans (hp.trans (isort_perm lt l').symm))
  exact h1.trans (List.reverse_perm (isortR lt l'))

/-! a swap of neighbours, as two stores -/
theorem swap_at (R B : List α) (y x : α) : ((R.reverse ++ y :: x :: B).set (R.length + 1) y).set R.length x = R.reverse ++ x :: y :: B := by
  rw [List.set_append_right _ _ (by simp), List.set_append_right _ _ (by simp)]
  simp
theorem get_at (R B : List α) (x : α) : (R.reverse ++ x :: B)[R.length]? = some x := by
  rw [List.getElem?_append_right (by simp)]
  simp
theorem get_at' (R B : List α) (y x : α) : (R.reverse ++ y :: x :: B)[R.length + 1]? = some x := by
  rw [List.getElem?_append_right (by simp)]
  simp
end

end Go.Proofs.YtbnipieokpeadaaDoor

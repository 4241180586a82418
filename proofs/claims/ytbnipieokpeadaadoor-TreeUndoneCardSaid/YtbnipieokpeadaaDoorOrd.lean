import Derived.Test.YtbnipieokpeadaaDoorPick
import Derived.Laws.StructEq
namespace Go.Proofs.YtbnipieokpeadaaDoor
open Go Go.RowKit
set_option linter.unusedVariables false
set_option linter.unusedSimpArgs false

/-! ### the order of nodes is strict and total -/
theorem bl_cons (a b : UInt8) (x y : List UInt8) : Op.bytesLess (a :: x) (b :: y) = true ↔ a.toNat < b.toNat ∨ (a = b ∧ Op.bytesLess x y = true) := by
  simp only [Op.bytesLess, Bool.or_eq_true, decide_eq_true_eq, Bool.and_eq_true, beq_iff_eq]
  rw [UInt8.lt_iff_toNat_lt]
theorem bl_irr : ∀ x : List UInt8, Op.bytesLess x x = false
  | [] => rfl
  | a :: x => by
    cases h : Op.bytesLess (a :: x) (a :: x) with
    | false => rfl
    | true =>
      rcases (bl_cons a a x x).1 h with h | ⟨_, h⟩
      · omega
      · rw [bl_irr x] at h; cases h
theorem bl_trans : ∀ x y z : List UInt8, Op.bytesLess x y = true → Op.bytesLess y z = true → Op.bytesLess x z = true
  | _, [], _, h, _ => by cases ‹List UInt8› <;> simp [Op.bytesLess] at h
  | _, _ :: _, [], _, h => by simp [Op.bytesLess] at h
  | [], _ :: _, _ :: _, _, _ => rfl
  | a :: x, b :: y, c :: z, h1, h2 => by
    rw [bl_cons] at h1 h2 ⊢
    rcases h1 with h1 | ⟨rfl, h1⟩
    · rcases h2 with h2 | ⟨rfl, h2⟩
      · exact .inl (by omega)
      · exact .inl h1
    · rcases h2 with h2 | ⟨rfl, h2⟩
      · exact .inl h2
      · exact .inr ⟨rfl, bl_trans x y z h1 h2⟩
theorem bl_tri : ∀ x y : List UInt8, Op.bytesLess x y = true ∨ x = y ∨ Op.bytesLess y x = true
  | [], [] => .inr (.inl rfl)
  | [], _ :: _ => .inl rfl
  | _ :: _, [] => .inr (.inr rfl)
  | a :: x, b :: y => by
    rw [bl_cons, bl_cons]
    rcases Nat.lt_trichotomy a.toNat b.toNat with h | h | h
    · exact .inl (.inl h)
    · have hab : a = b := UInt8.toNat_inj.1 h
      subst hab
      rcases bl_tri x y with h | h | h
      · exact .inl (.inr ⟨rfl, h⟩)
      · exact .inr (.inl (by rw [h]))
      · exact .inr (.inr (.inr ⟨rfl, h⟩))
    · exact .inr (.inr (.inl h))

theorem name_eq {a b : ByteArray} (h : a.toList = b.toList) : a = b := by
  have := Go.beq_toListBytes a b
  rw [h] at this
  simp only [beq_self_eq_true] at this
  exact (MapKept.bytes_beq a b).1 this

def kL (a b : KidD) : Prop := a.up < b.up ∨ (a.up = b.up ∧ (Op.bytesLess a.name.toList b.name.toList = true ∨ (a.name = b.name ∧ a.node < b.node)))
theorem klt_iff (a b : KidD) : klt a b = true ↔ kL a b := by
  unfold klt kord or3 cmpI cmpS slt sEq kL
  rw [decide_eq_true_iff]
  rcases Int.lt_trichotomy a.up b.up with h | h | h
  · simp [h]
  · rw [h]
    simp only [Int.lt_irrefl, if_false, if_true, false_or, true_and]
    rcases bl_tri a.name.toList b.name.toList with h2 | h2 | h2
    · simp [h2]
    · have hn : a.name = b.name := name_eq h2
      rw [hn, bl_irr]
      rcases Int.lt_trichotomy a.node b.node with h3 | h3 | h3
      · simp [h3]
      · simp [h3]
      · have : ¬ a.node < b.node := by omega
        simp [h3, this]
    · have hne : a.name ≠ b.name := fun e => by rw [e, bl_irr] at h2; cases h2
      have hf : Op.bytesLess a.name.toList b.name.toList = false := by
        cases hx : Op.bytesLess a.name.toList b.name.toList with
        | false => rfl
        | true => have := bl_trans _ _ _ hx h2; rw [bl_irr] at this; cases this
      have hs : (a.name.toList == b.name.toList) = false := by
        rw [beq_eq_false_iff_ne]
        exact fun e => hne (name_eq e)
      simp [hf, hs, hne]
  · have h1 : ¬ a.up < b.up := by omega
    have h2 : ¬ a.up = b.up := by omega
    simp [h, h1, h2]
theorem strict_klt : Strict klt where
  irr a := by
    cases h : klt a a with
    | false => rfl
    | true =>
      rcases (klt_iff a a).1 h with h | ⟨_, h | ⟨_, h⟩⟩
      · omega
      · rw [bl_irr] at h; cases h
      · omega
  trans a b c h1 h2 := by
    rw [klt_iff] at h1 h2 ⊢
    unfold kL at h1 h2 ⊢
    rcases h1 with h1 | ⟨e1, h1⟩
    · rcases h2 with h2 | ⟨e2, h2⟩
      · exact .inl (by omega)
      · exact .inl (by omega)
    · rcases h2 with h2 | ⟨e2, h2⟩
      · exact .inl (by omega)
      · refine .inr ⟨by omega, ?_⟩
        rcases h1 with h1 | ⟨n1, h1⟩
        · rcases h2 with h2 | ⟨n2, h2⟩
          · exact .inl (bl_trans _ _ _ h1 h2)
          · rw [← n2]; exact .inl h1
        · rcases h2 with h2 | ⟨n2, h2⟩
          · rw [n1]; exact .inl h2
          · exact .inr ⟨n1.trans n2, by omega⟩
  tri a b := by
    rw [klt_iff, klt_iff]
    unfold kL
    rcases Int.lt_trichotomy a.up b.up with h | h | h
    · exact .inl (.inl h)
    · rcases bl_tri a.name.toList b.name.toList with h2 | h2 | h2
      · exact .inl (.inr ⟨h, .inl h2⟩)
      · have hn := name_eq h2
        rcases Int.lt_trichotomy a.node b.node with h3 | h3 | h3
        · exact .inl (.inr ⟨h, .inr ⟨hn, h3⟩⟩)
        · exact .inr (.inl (by cases a; cases b; simp_all))
        · exact .inr (.inr (.inr ⟨h.symm, .inr ⟨hn.symm, h3⟩⟩))
      · exact .inr (.inr (.inr ⟨h.symm, .inl h2⟩))
    · exact .inr (.inr (.inl h))

/-- All of one tree come out as one list. -/
theorem enum_perm {f : Int → Option Loc} {S S' : List (Int × Loc)} (h : Enum f S) (h' : Enum f S') : S.Perm S' := by
  have nd : ∀ {S : List (Int × Loc)}, Enum f S → S.Nodup := fun {S} h => by
    have h1 := h.nodup
    rw [List.Nodup, List.pairwise_map] at h1
    exact h1.imp fun hne e => hne (by rw [e])
  refine (List.perm_ext_iff_of_nodup (nd h) (nd h')).2 fun p => ⟨fun hp => ?_, fun hp => ?_⟩
  · exact h'.all p.1 p.2 (h.mem p hp)
  · exact h.all p.1 p.2 (h'.mem p hp)
theorem kids_same {f : Int → Option Loc} {S S' : List (Int × Loc)} (h : Enum f S) (h' : Enum f S') (test : Int × Loc → Bool) : isort klt (kidsOf test S) = isort klt (kidsOf test S') :=
  isort_eq_of_perm strict_klt (((enum_perm h h').filter test).map kidOf)

end Go.Proofs.YtbnipieokpeadaaDoor

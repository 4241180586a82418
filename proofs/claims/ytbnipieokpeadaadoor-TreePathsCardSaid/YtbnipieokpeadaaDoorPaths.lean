import Derived.Test.YtbnipieokpeadaaDoorFind2
import Derived.Test.YtbnipieokpeadaaDoorGrown3
namespace Go.Proofs.YtbnipieokpeadaaDoor
open Go Go.RowKit
set_option linter.unusedVariables false
set_option linter.unusedSimpArgs false

/-- One comes down from a node to another one by names. -/
def Chain (f : Int → Option Loc) : Int → List ByteArray → Int → Prop
  | n, [], x => n = x
  | n, s :: l, x => ∃ k, f k = some ⟨n, s⟩ ∧ Chain f k l x
/-- .. by the first of each name. -/
def FChain (f : Int → Option Loc) : Int → List ByteArray → Int → Prop
  | n, [], x => n = x
  | n, s :: l, x => ∃ k, f k = some ⟨n, s⟩ ∧ (∀ k', f k' = some ⟨n, s⟩ → k ≤ k') ∧ FChain f k l x
theorem Chain.uniq {f : Int → Option Loc} : ∀ {l : List ByteArray} {n m x : Int}, Chain f n l x → Chain f m l x → n = m
  | [], n, m, x, h1, h2 => by
    have h1 : n = x := h1
    have h2 : m = x := h2
    rw [h1, h2]
  | s :: l, n, m, x, ⟨k, h1, h2⟩, ⟨k', h3, h4⟩ => by
    have := Chain.uniq h2 h4
    subst this
    rw [h1] at h3
    cases h3
    rfl
theorem FindR.chain {f : Int → Option Loc} : ∀ {l : List ByteArray} {n a : Int}, FindR f n l a 0 → Chain f n l a
  | [], n, a, h => h.1.symm
  | s :: l, n, a, h => by
    rcases h with ⟨_, h, _⟩ | ⟨k, h1, _, h2⟩
    · cases h
    · exact ⟨k, h1, FindR.chain h2⟩
theorem FChain.find {f : Int → Option Loc} : ∀ {l : List ByteArray} {n x a e : Int}, FChain f n l x → FindR f n l a e → a = x ∧ e = 0
  | [], n, x, a, e, h1, h2 => ⟨h2.1.trans h1, h2.2⟩
  | s :: l, n, x, a, e, ⟨k, h1, h2, h3⟩, h4 => by
    rcases h4 with ⟨_, _, h⟩ | ⟨k', h5, h6, h7⟩
    · exact absurd h1 (h k)
    · have : k = k' := Int.le_antisymm (h2 k' h5) (h6 k h1)
      subst this
      exact FChain.find h3 h7

/-- A path's bytes. -/
def pathB : List Nat → List UInt8
  | [] => []
  | j :: js => 47 :: UInt8.ofNat (97 + j) :: pathB js
theorem pathB_len : ∀ js, (pathB js).length = 2 * js.length
  | [] => rfl
  | j :: js => by simp [pathB, pathB_len js]; omega
theorem letter_ne {j : Nat} (h : j < 8) : UInt8.ofNat (97 + j) ≠ 47 := by
  have : j = 0 ∨ j = 1 ∨ j = 2 ∨ j = 3 ∨ j = 4 ∨ j = 5 ∨ j = 6 ∨ j = 7 := by omega
  rcases this with rfl | rfl | rfl | rfl | rfl | rfl | rfl | rfl <;> decide
theorem split_path : ∀ {j : Nat} {js : List Nat}, j < 8 → (∀ k ∈ js, k < 8) → splitS (UInt8.ofNat (97 + j) :: pathB js) = (j :: js).map fun k => [UInt8.ofNat (97 + k)]
  | j, [], hj, _ => by
    rw [show pathB [] = [] from rfl, splitS_none (by simpa using (letter_ne hj).symm)]
    rfl
  | j, k :: js, hj, hk => by
    have h1 := split_path (j := k) (js := js) (hk k (List.mem_cons_self ..)) (fun x hx => hk x (List.mem_cons_of_mem _ hx))
    have h2 := splitS_cut (p := [UInt8.ofNat (97 + j)]) (r := UInt8.ofNat (97 + k) :: pathB js) (by simpa using (letter_ne hj).symm)
    rw [show UInt8.ofNat (97 + j) :: pathB (k :: js) = [UInt8.ofNat (97 + j)] ++ 47 :: (UInt8.ofNat (97 + k) :: pathB js) from rfl, h2, h1]
    rfl
theorem names_path (js : List Nat) : (js.map fun k => [UInt8.ofNat (97 + k)]).map mkB = js.map letter := by
  rw [List.map_map]
  rfl
theorem letters_right {js : List Nat} (h : ∀ k ∈ js, k < 8) : ∀ x ∈ js.map (fun k => [UInt8.ofNat (97 + k)]), NameRight (mkB x) := by
  intro x hx
  obtain ⟨k, hk, rfl⟩ := List.mem_map.1 hx
  exact fun w l hs => right_letter (h k hk) hs
theorem cat_path (j : Nat) (js : List Nat) : ((⟨#[47]⟩ : ByteArray) ++ letter j) ++ mkB (pathB js) = mkB (pathB (j :: js)) := by
  apply ba_ext
  simp [mkB, pathB, letter]

/-- What a path of small letters finds. -/
theorem tree_find_path {w : World} {l : List HProp} {t : Nat} {f : Int → Option Loc} {ds : List ChD} {j : Nat} {js : List Nat} (hs : Sat w (treeP t f ds :: l)) (hF : Few f) (hj : ∀ k ∈ j :: js, k < 8) (hl : js.length ≤ 100) :
    Calls Tryd.prog 19 #[.pointer (some ⟨t, 0, none⟩), .string (mkB (pathB (j :: js)))] w fun e w' => ∃ a er, e = .returned (.tuple #[.int .i64 a, .int .i64 er]) ∧ FindR f 0 ((j :: js).map letter) a er ∧ Sat w' (treeP t f ds :: l) ∧ Kp w w' := by
  have hsp := split_path (j := j) (js := js) (hj j (List.mem_cons_self ..)) (fun x hx => hj x (List.mem_cons_of_mem _ hx))
  have h := tree_find (r := UInt8.ofNat (97 + j) :: pathB js) (mkB (pathB (j :: js))) hs hF rfl (by simp) (by rw [mkB_size, pathB_len, List.length_cons]; omega) (by rw [hsp]; exact letters_right hj)
  rw [hsp, names_path] at h
  exact h

end Go.Proofs.YtbnipieokpeadaaDoor

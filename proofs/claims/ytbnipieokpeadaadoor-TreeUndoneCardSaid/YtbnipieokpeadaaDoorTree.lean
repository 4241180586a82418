import Derived.Test.YtbnipieokpeadaaDoorSortL
import Derived.Test.YtbnipieokpeadaaDoorLaw
namespace Go.Proofs.YtbnipieokpeadaaDoor
open Go Go.RowKit
set_option linter.unusedVariables false
set_option linter.unusedSimpArgs false

/-! ### the program's tree -/

def locCells : Option Loc → List Value
  | some l => [.bool true, .int .i64 l.up, .string l.name]
  | none => [.bool false, .int .i64 0, .string ⟨#[]⟩]
theorem locCells_len (s : Option Loc) : (locCells s).length = 3 := by cases s <;> rfl
/-- A change: a node, where it was, where it is. -/
structure ChD where
  node : Int
  old : Option Loc
  new : Option Loc
def fC (c : ChD) : List Value := .int .i64 c.node :: (locCells c.old ++ locCells c.new)
theorem len_fC (c : ChD) : (fC c).length = 7 := by simp [fC, locCells_len]

/-- A tree at block t: where nodes are, and what was done. -/
def treeP (t : Nat) (f : Int → Option Loc) (ds : List ChD) : HProp :=
  ex fun b => ex fun v => all [own t (.cells #[.map (some b), v] 69 (0, 0)), mapP b f, rowT fC v 71 7 ds]
theorem treeP_I {w : World} {l : List HProp} {t b : Nat} {f : Int → Option Loc} {ds : List ChD} {v : Value}
    (hs : Sat w (own t (.cells #[.map (some b), v] 69 (0, 0)) :: mapP b f :: rowT fC v 71 7 ds :: l)) : Sat w (treeP t f ds :: l) :=
  Sat.exI b (Sat.exI v (Sat.allI hs))
theorem treeP_E {w : World} {l : List HProp} {t : Nat} {f : Int → Option Loc} {ds : List ChD} (hs : Sat w (treeP t f ds :: l)) :
    ∃ b v, Sat w (own t (.cells #[.map (some b), v] 69 (0, 0)) :: mapP b f :: rowT fC v 71 7 ds :: l) := by
  obtain ⟨b, h⟩ := hs.exE
  obtain ⟨v, h⟩ := h.exE
  exact ⟨b, v, h.allE⟩

theorem mapZero (w : World) : (zeroValue 49).run Tryd.prog w = .ok (vL none) w := by kernel_rfl

theorem look {w : World} {l : List HProp} {b : Nat} {f : Int → Option Loc} (hs : Sat w (mapP b f :: l)) (k : Int) :
    (Instr.lookup 66 (.map (some b)) (.int .i64 k) false).run Tryd.prog w = .ok (vL (f k)) w ∧ (Instr.lookup 66 (.map (some b)) (.int .i64 k) true).run Tryd.prog w = .ok (.tuple #[vL (f k), .bool (f k).isSome]) w :=
  run_look hs Tryd.underlying66 Tryd.underlying3 mapZero k

set_option maxRecDepth 100000 in
theorem tree_known {w : World} {l : List HProp} {t : Nat} {f : Int → Option Loc} {ds : List ChD} {n : Int} (hs : Sat w (treeP t f ds :: l)) :
    Calls Tryd.prog 22 #[.pointer (some ⟨t, 0, none⟩), .int .i64 n] w fun e w' => e = .returned (.bool (known f n)) ∧ Sat w' (treeP t f ds :: l) ∧ Kp w w' := by
  obtain ⟨b, v, hv⟩ := treeP_E hs
  have c0 := hv.cell 0
  simp at c0
  have hl := (look (hv.pull 1) n).2
  cases hf : f n with
  | some s =>
    rw [hf] at hl
    simp only [vL, Option.isSome] at hl
    go_enter Tryd.func22, Tryd.ntmps22
    go_wp2_with fail
    go_ret
    exact ⟨by simp [known, hf], hs.alloc' _, (Kp.refl w).alloc _⟩
  | none =>
    rw [hf] at hl
    simp only [vL, Option.isSome] at hl
    go_enter Tryd.func22, Tryd.ntmps22
    go_wp2_with fail
    all_goals
      go_ret
      exact ⟨by simp_all [known], hs.alloc' _, (Kp.refl w).alloc _⟩

set_option maxRecDepth 100000 in
set_option maxHeartbeats 1000000 in
theorem tree_above {w : World} {l : List HProp} {t : Nat} {f : Int → Option Loc} {ds : List ChD} {a b : Int} {k : Nat} {r : Bool} (hs : Sat w (treeP t f ds :: l)) (hk : Reach f b k) (hr : r = true ↔ known f b = true ∧ Anc f a b) :
    Calls Tryd.prog 17 #[.pointer (some ⟨t, 0, none⟩), .int .i64 a, .int .i64 b] w fun e w' => e = .returned (.bool r) ∧ Sat w' (treeP t f ds :: l) ∧ Kp w w' := by
  go_enter Tryd.func17, Tryd.ntmps17
  go_wp2_with fail
  refine (tree_known hs).mono ?_
  rintro e w1 ⟨rfl, h1, k1⟩
  cases hkn : known f b with
  | false =>
    have hr' : r = false := by
      cases r with
      | false => rfl
      | true => have := (hr.1 rfl).1; rw [hkn] at this; cases this
    subst hr'
    go_wp2_with fail
    go_ret
    exact ⟨rfl, h1, k1⟩
  | true =>
    have hr2 : r = true ↔ Anc f a b := by rw [hr, hkn]; simp
    have HR := Lib.hid hr2
    clear hr hr2 hkn
    go_wp2_with fail
    go_loopw [2] (fun bv wr => ∃ (b' : Int) (k' : Nat), bv = .int .i64 b' ∧ Hid (Reach f b' k') ∧ Hid (r = true ↔ Anc f a b') ∧ Sat wr (treeP t f ds :: l) ∧ Kp w wr) (fun bv _ => height f (intOf bv))
    case atStart => exact ⟨b, k, rfl, Lib.hid hk, HR, h1, k1⟩
    case round =>
      clear h1 k1 HR
      obtain ⟨b', k', rfl, hk', HR, h1, k1⟩ := hrel
      by_cases hab : b' = a
      · have hr' : r = true := HR.out.2 (by rw [hab]; exact .here)
        subst hab hr'
        go_wp2_with fail
        go_ret
        exact ⟨rfl, h1, k1⟩
      have hab' : (b' != a) = true := by simpa using hab
      obtain ⟨bm, v, hv⟩ := treeP_E h1
      have c0 := hv.cell 0
      simp at c0
      have hl := (look (hv.pull 1) b').1
      cases hf : f b' with
      | none =>
        have hr' : r = false := by
          cases r with
          | false => rfl
          | true => exact absurd ((HR.out.1 rfl).stop hf).symm hab
        subst hr'
        rw [hf] at hl
        simp only [vL] at hl
        clear hab hf
        go_wp2_with fail
        go_ret
        exact ⟨rfl, h1.alloc' _, k1.alloc _⟩
      | some s =>
        rw [hf] at hl
        simp only [vL] at hl
        have HF := Lib.hid hf
        have HN := Lib.hid hab
        clear hf hab
        go_wp2_with fail
        have hs1 := h1.alloc' (.cells #[.bool true, .int .i64 s.up, .string s.name] 49)
        have ks1 := k1.alloc (.cells #[.bool true, .int .i64 s.up, .string s.name] 49)
        obtain ⟨k2, hk2⟩ : ∃ k2, Reach f s.up k2 ∧ k' = k2 + 1 := by
          cases hk'.out with
          | zero e => rw [HF.out] at e; cases e
          | succ e h => rw [HF.out] at e; cases e; exact ⟨_, h, rfl⟩
        go_roundw
        case rel => exact ⟨s.up, k2, rfl, Lib.hid hk2.1, Lib.hid (HR.out.trans (Anc.step HF.out (Ne.symm HN.out))), hs1, ks1⟩
        case measure =>
          simp only [intOf]
          rw [hk2.1.height, hk'.out.height]
          omega

end Go.Proofs.YtbnipieokpeadaaDoor

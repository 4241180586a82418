import Derived.Test.YtbnipieokpeadaaDoorGB
import Derived.Test.YtbnipieokpeadaaDoorGA
import Derived.Deep.CutRange
import Derived.Deep.CutBlock
import Derived.LoopN
namespace Go.Proofs.YtbnipieokpeadaaDoor
open Go Go.RowKit
set_option linter.unusedVariables false
set_option linter.unusedSimpArgs false

/-! ### the program's tree -/

def locCells : Option Loc → List Value
  | some l => [.bool true, .int .i64 l.up, .string l.name]
  | none => [.bool false, .int .i64 0, .string ⟨#[]⟩]
theorem locCells_len (s : Option Loc) : (locCells s).length = 3 := by cases s <;> rfl
/-- A change: a node, where it was, where it is. -/
structure ChD where
  node : Int
  old : Option Loc
  new : Option Loc
def fC (c : ChD) : List Value := .int .i64 c.node :: (locCells c.old ++ locCells c.new)
theorem len_fC (c : ChD) : (fC c).length = 7 := by simp [fC, locCells_len]

/-- A tree at block t: where nodes are, and what was done. -/
def treeP (t : Nat) (f : Int → Option Loc) (ds : List ChD) : HProp :=
  ex fun b => ex fun v => all [own t (.cells #[.map (some b), v] 69 (0, 0)), mapP b f, rowT fC v 71 7 ds]
theorem treeP_I {w : World} {l : List HProp} {t b : Nat} {f : Int → Option Loc} {ds : List ChD} {v : Value}
    (hs : Sat w (own t (.cells #[.map (some b), v] 69 (0, 0)) :: mapP b f :: rowT fC v 71 7 ds :: l)) : Sat w (treeP t f ds :: l) :=
  Sat.exI b (Sat.exI v (Sat.allI hs))
theorem treeP_E {w : World} {l : List HProp} {t : Nat} {f : Int → Option Loc} {ds : List ChD} (hs : Sat w (treeP t f ds :: l)) :
    ∃ b v, Sat w (own t (.cells #[.map (some b), v] 69 (0, 0)) :: mapP b f :: rowT fC v 71 7 ds :: l) := by
  obtain ⟨b, h⟩ := hs.exE
  obtain ⟨v, h⟩ := h.exE
  exact ⟨b, v, h.allE⟩

theorem mapZero (w : World) : (zeroValue 49).run Tryd.prog w = .ok (vL none) w := by kernel_rfl

theorem look {w : World} {l : List HProp} {b : Nat} {f : Int → Option Loc} (hs : Sat w (mapP b f :: l)) (k : Int) :
    (Instr.lookup 66 (.map (some b)) (.int .i64 k) false).run Tryd.prog w = .ok (vL (f k)) w ∧ (Instr.lookup 66 (.map (some b)) (.int .i64 k) true).run Tryd.prog w = .ok (.tuple #[vL (f k), .bool (f k).isSome]) w :=
  run_look hs Tryd.underlying66 Tryd.underlying3 mapZero k

set_option maxRecDepth 100000 in
theorem tree_known {w : World} {l : List HProp} {t : Nat} {f : Int → Option Loc} {ds : List ChD} {n : Int} (hs : Sat w (treeP t f ds :: l)) :
    Calls Tryd.prog 22 #[.pointer (some ⟨t, 0, none⟩), .int .i64 n] w fun e w' => e = .returned (.bool (known f n)) ∧ Sat w' (treeP t f ds :: l) ∧ Kp w w' := by
  obtain ⟨b, v, hv⟩ := treeP_E hs
  have c0 := hv.cell 0
  simp at c0
  have hl := (look (hv.pull 1) n).2
  cases hf : f n with
  | some s =>
    rw [hf] at hl
    simp only [vL, Option.isSome] at hl
    go_enter Tryd.func22, Tryd.ntmps22
    go_wp2_with fail
    go_ret
    exact ⟨by simp [known, hf], hs.alloc' _, (Kp.refl w).alloc _⟩
  | none =>
    rw [hf] at hl
    simp only [vL, Option.isSome] at hl
    go_enter Tryd.func22, Tryd.ntmps22
    go_wp2_with fail
    all_goals
      go_ret
      exact ⟨by simp_all [known], hs.alloc' _, (Kp.refl w).alloc _⟩

set_option maxRecDepth 100000 in
set_option maxHeartbeats 1000000 in
theorem tree_above {w : World} {l : List HProp} {t : Nat} {f : Int → Option Loc} {ds : List ChD} {a b : Int} {k : Nat} {r : Bool} (hs : Sat w (treeP t f ds :: l)) (hk : Reach f b k) (hr : r = true ↔ known f b = true ∧ Anc f a b) :
    Calls Tryd.prog 17 #[.pointer (some ⟨t, 0, none⟩), .int .i64 a, .int .i64 b] w fun e w' => e = .returned (.bool r) ∧ Sat w' (treeP t f ds :: l) ∧ Kp w w' := by
  go_enter Tryd.func17, Tryd.ntmps17
  go_wp2_with fail
  refine (tree_known hs).mono ?_
  rintro e w1 ⟨rfl, h1, k1⟩
  cases hkn : known f b with
  | false =>
    have hr' : r = false := by
      cases r with
      | false => rfl
      | true => have := (hr.1 rfl).1; rw [hkn] at this; cases this
    subst hr'
    go_wp2_with fail
    go_ret
    exact ⟨rfl, h1, k1⟩
  | true =>
    have hr2 : r = true ↔ Anc f a b := by rw [hr, hkn]; simp
    have HR := Lib.hid hr2
    clear hr hr2 hkn
    go_wp2_with fail
    go_loopw [2] (fun bv wr => ∃ (b' : Int) (k' : Nat), bv = .int .i64 b' ∧ Hid (Reach f b' k') ∧ Hid (r = true ↔ Anc f a b') ∧ Sat wr (treeP t f ds :: l) ∧ Kp w wr) (fun bv _ => height f (intOf bv))
    case atStart => exact ⟨b, k, rfl, Lib.hid hk, HR, h1, k1⟩
    case round =>
      clear h1 k1 HR
      obtain ⟨b', k', rfl, hk', HR, h1, k1⟩ := hrel
      by_cases hab : b' = a
      · have hr' : r = true := HR.out.2 (by rw [hab]; exact .here)
        subst hab hr'
        go_wp2_with fail
        go_ret
        exact ⟨rfl, h1, k1⟩
      have hab' : (b' != a) = true := by simpa using hab
      obtain ⟨bm, v, hv⟩ := treeP_E h1
      have c0 := hv.cell 0
      simp at c0
      have hl := (look (hv.pull 1) b').1
      cases hf : f b' with
      | none =>
        have hr' : r = false := by
          cases r with
          | false => rfl
          | true => exact absurd ((HR.out.1 rfl).stop hf).symm hab
        subst hr'
        rw [hf] at hl
        simp only [vL] at hl
        clear hab hf
        go_wp2_with fail
        go_ret
        exact ⟨rfl, h1.alloc' _, k1.alloc _⟩
      | some s =>
        rw [hf] at hl
        simp only [vL] at hl
        have HF := Lib.hid hf
        have HN := Lib.hid hab
        clear hf hab
        go_wp2_with fail
        have hs1 := h1.alloc' (.cells #[.bool true, .int .i64 s.up, .string s.name] 49)
        have ks1 := k1.alloc (.cells #[.bool true, .int .i64 s.up, .string s.name] 49)
        obtain ⟨k2, hk2⟩ : ∃ k2, Reach f s.up k2 ∧ k' = k2 + 1 := by
          cases hk'.out with
          | zero e => rw [HF.out] at e; cases e
          | succ e h => rw [HF.out] at e; cases e; exact ⟨_, h, rfl⟩
        go_roundw
        case rel => exact ⟨s.up, k2, rfl, Lib.hid hk2.1, Lib.hid (HR.out.trans (Anc.step HF.out (Ne.symm HN.out))), hs1, ks1⟩
        case measure =>
          simp only [intOf]
          rw [hk2.1.height, hk'.out.height]
          omega

end Go.Proofs.YtbnipieokpeadaaDoor

namespace Go.Proofs.YtbnipieokpeadaaDoor
open Go Go.RowKit
set_option linter.unusedVariables false
set_option linter.unusedSimpArgs false

set_option maxRecDepth 100000 in
set_option maxHeartbeats 1000000 in
theorem tree_set {w : World} {l : List HProp} {t : Nat} {f : Int → Option Loc} {ds : List ChD} {n : Int} {s : Option Loc} (hs : Sat w (treeP t f ds :: l)) :
    Calls Tryd.prog 40 #[.pointer (some ⟨t, 0, none⟩), .int .i64 n, vL s] w fun e w' => e = .returned (.tuple #[]) ∧ Sat w' (treeP t (upd f n s) ds :: l) ∧ Kp w w' := by
  obtain ⟨b, v, hv⟩ := treeP_E hs
  cases s with
  | some s =>
    have hB := hv.alloc (.cells #[.bool true, .int .i64 s.up, .string s.name] 49)
    have kB := (Kp.refl w).alloc (.cells #[.bool true, .int .i64 s.up, .string s.name] 49)
    simp only [vL]
    go_enter Tryd.func40, Tryd.ntmps40
    go_upto_region 1 with (fail)
    generalize World.alloc _ _ = w1 at hB kB ⊢
    generalize w.heap.size = B at hB ⊢
    have b0 := hB.cell 0
    have b1 := hB.cell 1
    have b2 := hB.cell 2
    have c0 := (hB.pull 1).cell 0
    simp at b0 b1 b2 c0
    go_upto_region 2 with (fail)
    obtain ⟨w2, hrun, h2, k2⟩ := run_store (P := Tryd.prog) (hB.pull 2).drew Tryd.underlying66 Tryd.underlying3 n s
    simp only [vL] at hrun
    go_region
    all_goals
      go_wp2_with fail
      go_end0
      exact ⟨rfl, treeP_I ((h2.pull 1).tail.pull 1), kB.drew.trans k2⟩
  | none =>
    have hB := hv.alloc (.cells #[.bool false, .int .i64 0, .string ⟨#[]⟩] 49)
    have kB := (Kp.refl w).alloc (.cells #[.bool false, .int .i64 0, .string ⟨#[]⟩] 49)
    simp only [vL]
    go_enter Tryd.func40, Tryd.ntmps40
    go_upto_region 1 with (fail)
    generalize World.alloc _ _ = w1 at hB kB ⊢
    generalize w.heap.size = B at hB ⊢
    have b0 := hB.cell 0
    have b1 := hB.cell 1
    have b2 := hB.cell 2
    have c0 := (hB.pull 1).cell 0
    simp at b0 b1 b2 c0
    go_wp2_with (at_delete; refine wpList_deleteM _ rfl (.tmp 17) (.tmp 18) 66 3 rfl Tryd.underlying66 Tryd.underlying3 rfl (hB.pull 2) n rfl ?_; intro w2 h2 k2)
    all_goals
      go_wp2_with fail
      go_end0
      exact ⟨rfl, treeP_I ((h2.pull 1).tail.pull 1), kB.trans k2⟩

theorem reads_empty : Reads #[] 0 (fun _ => none) := ⟨MapKept.stamped_empty 0, by simp, fun k l h => by cases h⟩

theorem tree_new {w : World} {l : List HProp} (hs : Sat w l) :
    Calls Tryd.prog 31 #[] w fun e w' => ∃ t, e = .returned (.pointer (some ⟨t, 0, none⟩)) ∧ Sat w' (treeP t (fun _ => none) [] :: l) ∧ Kp w w' := by
  have hmm := @run_makeMap Tryd.prog
  go_enter Tryd.func31, Tryd.ntmps31
  have h1 := (hs.alloc (.map #[] 0)).mapI reads_empty
  have h2 := ((h1.tNil fC 71 7).swap.alloc (.cells #[.map (some w.heap.size), .slice none 0 0] 69))
  go_wp2_with fail
  simp only [World.size_alloc] at h2
  go_ret
  exact ⟨_, rfl, treeP_I h2, ((Kp.refl w).alloc _).alloc _⟩

end Go.Proofs.YtbnipieokpeadaaDoor

namespace Go.Proofs.YtbnipieokpeadaaDoor
open Go Go.RowKit
set_option linter.unusedVariables false
set_option linter.unusedSimpArgs false

/-! ### cmp.Compare, cmp.Or, the order of nodes -/

def cmpI (x y : Int) : Int := if x < y then -1 else if y < x then 1 else 0
def slt (x y : ByteArray) : Bool := Op.bytesLess x.toList y.toList
def sEq (x y : ByteArray) : Bool := x.toList == y.toList
def cmpS (x y : ByteArray) : Int := if slt x y then -1 else if sEq x y then 0 else 1
def or3 (x y z : Int) : Int := if x = 0 then (if y = 0 then z else y) else x

theorem cmp_int {w : World} (x y : Int) : Calls Tryd.prog 70 #[.int .i64 x, .int .i64 y] w fun e w' => e = .returned (.int .i64 (cmpI x y)) ∧ w = w' := by
  have hx : (x != x) = false := by simp
  have hy : (y != y) = false := by simp
  have h3 : (x < y ∧ cmpI x y = -1) ∨ (¬ x < y ∧ y < x ∧ cmpI x y = 1) ∨ (¬ x < y ∧ ¬ y < x ∧ cmpI x y = 0) := by
    unfold cmpI
    by_cases h1 : x < y
    · exact .inl ⟨h1, by simp [h1]⟩
    · by_cases h2 : y < x
      · exact .inr (.inl ⟨h1, h2, by simp [h1, h2]⟩)
      · exact .inr (.inr ⟨h1, h2, by simp [h1, h2]⟩)
  rcases h3 with ⟨h1, h2⟩ | ⟨h1, h3, h2⟩ | ⟨h1, h3, h2⟩
  all_goals
    rw [h2]
    clear h2
    go_enter Tryd.func70, Tryd.ntmps70
    go_wp2
    go_ret
    exact ⟨rfl, rfl⟩
theorem gtr_str (x y : ByteArray) (W : World) : (binOp BinOp.gtr 9 (.string x) (.string y)).run Tryd.prog W = .ok (.bool (!(Op.bytesLess x.toList y.toList || x.toList == y.toList))) W := by
  first | rfl | kernel_rfl | simp [binOp, Op.stringOp, run_underlying Tryd.underlying9]
theorem cmp_str {w : World} (x y : ByteArray) : Calls Tryd.prog 71 #[.string x, .string y] w fun e w' => e = .returned (.int .i64 (cmpS x y)) ∧ w = w' := by
  have hg := fun W => gtr_str x y W
  have hx : (x.toList == x.toList) = true := by simp
  have hy : (y.toList == y.toList) = true := by simp
  have h3 : (Op.bytesLess x.toList y.toList = true ∧ cmpS x y = -1) ∨ (Op.bytesLess x.toList y.toList = false ∧ (x.toList == y.toList) = true ∧ cmpS x y = 0) ∨ (Op.bytesLess x.toList y.toList = false ∧ (x.toList == y.toList) = false ∧ cmpS x y = 1) := by
    unfold cmpS slt sEq
    cases h1 : Op.bytesLess x.toList y.toList with
    | true => exact .inl ⟨rfl, by simp⟩
    | false =>
      cases h2 : x.toList == y.toList with
      | true => exact .inr (.inl ⟨rfl, rfl, by simp⟩)
      | false => exact .inr (.inr ⟨rfl, rfl, by simp⟩)
  rcases h3 with ⟨h1, h2⟩ | ⟨h1, h3, h2⟩ | ⟨h1, h3, h2⟩
  all_goals
    rw [h2]
    clear h2
    go_enter Tryd.func71, Tryd.ntmps71
    go_wp2
    go_ret
    exact ⟨rfl, rfl⟩
theorem cmp_or {w : World} {b : Nat} (x y z : Int) (h0 : w.cell? ⟨b, 0, none⟩ = some (.int .i64 x)) (h1 : w.cell? ⟨b, 1, none⟩ = some (.int .i64 y)) (h2 : w.cell? ⟨b, 2, none⟩ = some (.int .i64 z)) :
    Calls Tryd.prog 69 #[.slice (some ⟨b, 0, none⟩) 3 3] w fun e w' => e = .returned (.int .i64 (or3 x y z)) ∧ w = w' := by
  by_cases e0 : x = 0
  · by_cases e1 : y = 0
    · by_cases e2 : z = 0
      · subst e0 e1 e2
        go_enter Tryd.func69, Tryd.ntmps69
        go_wp2
        refine wp_loop_rounds 4 ?_
        iterate 4 (rw [rounds_succ]; go_wp2)
        go_ret
        exact ⟨rfl, rfl⟩
      · have n2 : (z != 0) = true := by simpa using e2
        subst e0 e1
        go_enter Tryd.func69, Tryd.ntmps69
        go_wp2
        refine wp_loop_rounds 4 ?_
        iterate 3 (rw [rounds_succ]; go_wp2)
        go_ret
        exact ⟨rfl, rfl⟩
    · have n1 : (y != 0) = true := by simpa using e1
      subst e0
      have hr : or3 0 y z = y := by simp [or3, e1]
      rw [hr]
      clear hr
      go_enter Tryd.func69, Tryd.ntmps69
      go_wp2
      refine wp_loop_rounds 4 ?_
      iterate 2 (rw [rounds_succ]; go_wp2)
      go_ret
      exact ⟨rfl, rfl⟩
  · have n0 : (x != 0) = true := by simpa using e0
    have hr : or3 x y z = x := by simp [or3, e0]
    rw [hr]
    clear hr
    go_enter Tryd.func69, Tryd.ntmps69
    go_wp2
    refine wp_loop_rounds 4 ?_
    rw [rounds_succ]; go_wp2
    go_ret
    exact ⟨rfl, rfl⟩

end Go.Proofs.YtbnipieokpeadaaDoor

namespace Go.Proofs.YtbnipieokpeadaaDoor
open Go Go.RowKit
set_option linter.unusedVariables false
set_option linter.unusedSimpArgs false

/-- A node below another one. -/
structure KidD where
  up : Int
  name : ByteArray
  node : Int
def fK (k : KidD) : List Value := [.int .i64 k.up, .string k.name, .int .i64 k.node]
theorem len_fK (k : KidD) : (fK k).length = 3 := rfl
def aggK (k : KidD) : Value := .agg #[.int .i64 k.up, .string k.name, .int .i64 k.node]
def kord (a b : KidD) : Int := or3 (cmpI a.up b.up) (cmpS a.name b.name) (cmpI a.node b.node)
def klt (a b : KidD) : Bool := decide (kord a b < 0)

set_option maxRecDepth 100000 in
set_option maxHeartbeats 1000000 in
theorem tree_order {w : World} {l : List HProp} (hs : Sat w l) (a b : KidD) :
    Calls Tryd.prog 59 #[aggK a, aggK b] w fun e w' => e = .returned (.int .i64 (kord a b)) ∧ Sat w' l ∧ Kp w w' := by
  have hB := (hs.alloc (.cells #[.int .i64 a.up, .string a.name, .int .i64 a.node] 39)).alloc (.cells #[.int .i64 b.up, .string b.name, .int .i64 b.node] 39)
  have kB := ((Kp.refl w).alloc (.cells #[.int .i64 a.up, .string a.name, .int .i64 a.node] 39)).alloc (.cells #[.int .i64 b.up, .string b.name, .int .i64 b.node] 39)
  simp only [World.size_alloc] at hB
  simp only [aggK]
  go_enter Tryd.func59, Tryd.ntmps59
  go_upto_region 1 with (fail)
  generalize World.alloc _ _ = w1 at hB kB ⊢
  have hne := hB.ne
  generalize w.heap.size + 1 = B at hB hne ⊢
  generalize w.heap.size = A at hB hne ⊢
  have b0 := hB.cell 0
  have b1 := hB.cell 1
  have b2 := hB.cell 2
  have a0 := (hB.pull 1).cell 0
  have a1 := (hB.pull 1).cell 1
  have a2 := (hB.pull 1).cell 2
  simp at b0 b1 b2 a0 a1 a2
  have hX := ((hB.drewN 1).alloc (.cells #[.int .i64 (cmpI a.up b.up), .int .i64 (cmpS a.name b.name), .int .i64 (cmpI a.node b.node)] 3))
  have x0 := hX.cell 0
  have x1 := hX.cell 1
  have x2 := hX.cell 2
  have kX := (kB.drewN 1).alloc (.cells #[.int .i64 (cmpI a.up b.up), .int .i64 (cmpS a.name b.name), .int .i64 (cmpI a.node b.node)] 3)
  simp at x0 x1 x2
  go_region_held3 (fun w' => w'.cell? ⟨A, 0, none⟩ = some (.int .i64 a.up) ∧ w'.cell? ⟨A, 1, none⟩ = some (.string a.name) ∧ w'.cell? ⟨A, 2, none⟩ = some (.int .i64 a.node) ∧ w'.cell? ⟨B, 0, none⟩ = some (.int .i64 b.up) ∧ w'.cell? ⟨B, 1, none⟩ = some (.string b.name) ∧ w'.cell? ⟨B, 2, none⟩ = some (.int .i64 b.node)) (first | exact ⟨a0, a1, a2, b0, b1, b2⟩ | go_keep)
    (first | (go_at_call 70; refine (cmp_int _ _).mono ?_; rintro e w9 ⟨rfl, rfl⟩) | (go_at_call 71; refine (cmp_str _ _).mono ?_; rintro e w9 ⟨rfl, rfl⟩) | (go_at_call 69; refine (cmp_or _ _ _ x0 x1 x2).mono ?_; rintro e w9 ⟨rfl, rfl⟩))
  all_goals
    go_wp2_with fail
    go_ret
    exact ⟨rfl, hX.tail.tail.tail, kX⟩

end Go.Proofs.YtbnipieokpeadaaDoor

import Derived.Test.YtddglbjhhnipgaaGreatDoorGC
import Derived.Deep.CutRange
import Derived.Deep.CutBlock
namespace Go.Proofs.YtddglbjhhnipgaaGreatDoor
open Go Go.RowKit
set_option linter.unusedVariables false
set_option linter.unusedSimpArgs false
set_option maxRecDepth 100000
set_option maxHeartbeats 8000000
/-- An operation. -/
structure OpD where
 n : Int
 r : Int
 node : Int
 up : Int
 name : ByteArray
def fO (o : OpD) : List Value := [.int .i64 o.n, .int .i64 o.r, .int .i64 o.node, .int .i64 o.up, .string o.name]
theorem len_fO (o : OpD) : (fO o).length = 5 := rfl
def aggO (o : OpD) : Value := .agg #[.int .i64 o.n, .int .i64 o.r, .int .i64 o.node, .int .i64 o.up, .string o.name]
theorem Tryz.infoCh : (Tryz.prog.info? 101).map (fun i => (i.zero, i.size, i.bytes)) = some (some (.agg #[.int .i64 0, .bool false, .int .i64 0, .string ⟨#[]⟩, .bool false, .int .i64 0, .string ⟨#[]⟩]), 7, 72) := by kernel_rfl
theorem locCells_form (s : Option Loc) : ∃ q z nm, locCells s = [.bool q, .int .i64 z, .string nm] ∧ vL s = .agg #[.bool q, .int .i64 z, .string nm] := by
 cases s with
 | none => exact ⟨_, _, _, rfl, rfl⟩
 | some s => exact ⟨_, _, _, rfl, rfl⟩
/-- What Apply makes of the nodes. -/
def applied (f : Int → Option Loc) (o : OpD) (r : Bool) : Int → Option Loc := if r then upd f o.node (some ⟨o.up, o.name⟩) else f
def newLoc (f : Int → Option Loc) (o : OpD) (r : Bool) : Option Loc := if r then some ⟨o.up, o.name⟩ else f o.node
theorem len_flatU {α : Type} {f : α → List Value} {size : Nat} (hf : ∀ x, (f x).length = size) : ∀ xs : List α, (xs.flatMap f).length = xs.length * size
 | [] => by simp
 | x :: xs => by rw [List.flatMap_cons, List.length_append, len_flatU hf xs, hf, List.length_cons, Nat.add_mul]; omega
/-- A slice, without its last element. -/
theorem Sat.tShort {α : Type} {f : α → List Value} {w : World} {e : TypeId} {size : Nat} {xs : List α} {x : α} {l : List HProp} {g off n cap : Nat} (hf : ∀ x, (f x).length = size) (hs : Sat w (rowT f (.slice (some ⟨g, off, none⟩) n cap) e size (xs ++ [x]) :: l)) :
   Sat w (rowT f (.slice (some ⟨g, off, none⟩) xs.length cap) e size xs :: l) := by
 rcases (Sat.rowE hs).2 with ⟨h, _⟩ | ⟨g', off', cap', cur, h, h1, h2, h3, h4, h5⟩
 · simp at h
 simp only [Value.slice.injEq, Option.some.injEq, Addr.mk.injEq, and_true] at h
 obtain ⟨⟨rfl, rfl⟩, rfl, rfl⟩ := h
 have hl : (xs ++ [x]).length = xs.length + 1 := by simp
 have h6 := h5.rowI (off := off) (size := size) (n := xs.length) (cap := cap) (by omega) h2 h3
 refine h6.tOf xs rfl ?_
 have hlen : (xs.flatMap f).length = xs.length * size := len_flatU hf xs
 have h7 : (cur.toList.drop off).take (xs.length * size) = ((cur.toList.drop off).take ((xs ++ [x]).length * size)).take (xs.length * size) := by
   rw [List.take_take, Nat.min_eq_left]
   exact Nat.mul_le_mul_right _ (by omega)
 rw [h7, h4, List.flatMap_append, ← hlen]
 exact List.take_left
end Go.Proofs.YtddglbjhhnipgaaGreatDoor

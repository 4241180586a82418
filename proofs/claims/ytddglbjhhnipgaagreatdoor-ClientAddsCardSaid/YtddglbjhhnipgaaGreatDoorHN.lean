import Derived.Test.YtddglbjhhnipgaaGreatDoorHC
import Derived.Test.YtddglbjhhnipgaaGreatDoorGA
import Derived.BigQuiet
namespace Go.Proofs.YtddglbjhhnipgaaGreatDoor
open Go Go.RowKit
set_option linter.unusedVariables false
set_option linter.unusedSimpArgs false
set_option maxRecDepth 100000
set_option maxHeartbeats 8000000
theorem desk_setEpoch {w : World} {l : List HProp} {d : Nat} {D : DeskD} {n : Int} (hs : Sat w (deskP d D :: l)) (h0 : 0 ≤ D.acc) (h1 : D.acc < 1000000000) :
   Calls Tryz.prog 51 #[.pointer (some ⟨d, 0, none⟩), .int .i64 n] w fun e w' => e = .returned (.tuple #[]) ∧ Sat w' (deskP d { tick D with epoch := n } :: l) ∧ Kp w w' := by
 obtain ⟨vp, vr, q, hv⟩ := deskP_E hs
 have c9 := hv.cell 9
 have c5 := hv.cell 5
 have f9 := hv.free 9
 have f5 := hv.free 5
 simp [deskC] at c9 c5
 go_enter Tryz.func51, Tryz.ntmps51
 go_wp2
 go_end0
 exact ⟨rfl, deskP_I (D := { tick D with epoch := n }) ((hv.set 9 (.int .i64 (D.acc + 1))).set 5 (.int .i64 n)), ((Kp.refl w).setCell _ _).setCell _ _⟩
theorem desk_setRoot {w : World} {l : List HProp} {d : Nat} {D : DeskD} {n a b c e : Int} (hs : Sat w (deskP d D :: l)) (h0 : 0 ≤ D.acc) (h1 : D.acc < 1000000000) :
   Calls Tryz.prog 50 #[.pointer (some ⟨d, 0, none⟩), .agg #[.int .i64 n, .int .i64 a, .int .i64 b, .int .i64 c, .int .i64 e]] w fun e' w' => e' = .returned (.tuple #[]) ∧ Sat w' (deskP d { tick D with n := n, ks := a, kg := b, ss := c, sg := e } :: l) ∧ Kp w w' := by
 obtain ⟨vp, vr, q, hv⟩ := deskP_E hs
 have hB := hv.alloc (.cells #[.int .i64 n, .int .i64 a, .int .i64 b, .int .i64 c, .int .i64 e] 58)
 have kB := (Kp.refl w).alloc (.cells #[.int .i64 n, .int .i64 a, .int .i64 b, .int .i64 c, .int .i64 e] 58)
 have hd := hv.lt
 go_enter Tryz.func50, Tryz.ntmps50
 go_upto_region 1 with (fail)
 generalize hW : w.alloc _ = w1 at hB kB ⊢
 clear hW hv hs
 generalize w.heap.size = B at hB hd ⊢
 have b0 := hB.cell 0
 have b1 := hB.cell 1
 have b2 := hB.cell 2
 have b3 := hB.cell 3
 have b4 := hB.cell 4
 have c9 := (hB.pull 1).cell 9
 have f9 := (hB.pull 1).free 9
 have c0 := (hB.pull 1).cell 0
 have f0 := (hB.pull 1).free 0
 have c1 := (hB.pull 1).cell 1
 have f1 := (hB.pull 1).free 1
 have c2 := (hB.pull 1).cell 2
 have f2 := (hB.pull 1).free 2
 have c3 := (hB.pull 1).cell 3
 have f3 := (hB.pull 1).free 3
 have c4 := (hB.pull 1).cell 4
 have f4 := (hB.pull 1).free 4
 have hne : B ≠ d := hB.ne
 simp [deskC] at b0 b1 b2 b3 b4 c9 c0 c1 c2 c3 c4
 have h3 := ((((((hB.pull 1).set 9 (.int .i64 (D.acc + 1))).set 0 (.int .i64 n)).set 1 (.int .i64 a)).set 2 (.int .i64 b)).set 3 (.int .i64 c)).set 4 (.int .i64 e)
 go_wp2_with fail
 go_end0
 exact ⟨rfl, deskP_I (D := { tick D with n := n, ks := a, kg := b, ss := c, sg := e }) ((h3.pull 1).tail), (((((kB.setCell _ _).setCell _ _).setCell _ _).setCell _ _).setCell _ _).setCell _ _⟩
/-! the document's desk -/
structure RD where
 n : Int
 most : Int
 root : Int
 epoch : Int
 cnt : Int
 pins : List Int
 reps : List Int
 l : List Int
 shut : Bool
def rdC (R : RD) (vp vr vl : Value) : Array Value := #[.int .i64 R.n, .int .i64 R.most, .int .i64 R.root, .int .i64 R.epoch, .int .i64 R.cnt, vp, vr, vl, .bool R.shut]
end Go.Proofs.YtddglbjhhnipgaaGreatDoor

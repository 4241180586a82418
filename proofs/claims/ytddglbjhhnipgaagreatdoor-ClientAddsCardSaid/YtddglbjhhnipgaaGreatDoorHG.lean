import Derived.Test.YtddglbjhhnipgaaGreatDoorGA
import Derived.Test.YtddglbjhhnipgaaGreatDoorIA
import Derived.Test.YtddglbjhhnipgaaGreatDoorIE
namespace Go.Proofs.YtddglbjhhnipgaaGreatDoor
open Go Go.RowKit
set_option linter.unusedVariables false
set_option linter.unusedSimpArgs false
set_option maxRecDepth 100000
set_option maxHeartbeats 8000000
/-! ### function values, held against nil -/
section
variable {P : Program} (w : World)
theorem run_equalIn_fn {t : TypeId} {ps rs : Array TypeId} {va : Bool} (h : P.underlying t = some (.func ps rs va)) (d : Nat) (f : Fn) (a b : Array Value) : (Op.equalIn (d + 1) t (.func f a b) .nilFunc).run P w = .ok false w := by
 simp [Op.equalIn, run_underlying h]
theorem run_equalIn_fn0 {t : TypeId} {ps rs : Array TypeId} {va : Bool} (h : P.underlying t = some (.func ps rs va)) (d : Nat) : (Op.equalIn (d + 1) t .nilFunc .nilFunc).run P w = .ok true w := by
 simp [Op.equalIn, run_underlying h]
theorem run_eql_fn {t : TypeId} {ps rs : Array TypeId} {va : Bool} (h : P.underlying t = some (.func ps rs va)) (f : Fn) (a b : Array Value) : (binOp .eql t (.func f a b) .nilFunc).run P w = .ok (.bool false) w := by
 simp only [binOp]
 simp [show Op.equal t (.func f a b) .nilFunc = Op.equalIn (9999 + 1) t (.func f a b) .nilFunc from rfl, run_equalIn_fn w h]
theorem run_eql_fn0 {t : TypeId} {ps rs : Array TypeId} {va : Bool} (h : P.underlying t = some (.func ps rs va)) : (binOp .eql t .nilFunc .nilFunc).run P w = .ok (.bool true) w := by
 simp only [binOp]
 simp [show Op.equal t .nilFunc .nilFunc = Op.equalIn (9999 + 1) t .nilFunc .nilFunc from rfl, run_equalIn_fn0 w h]
theorem run_neq_fn {t : TypeId} {ps rs : Array TypeId} {va : Bool} (h : P.underlying t = some (.func ps rs va)) (f : Fn) (a b : Array Value) : (binOp .neq t (.func f a b) .nilFunc).run P w = .ok (.bool true) w := by
 simp only [binOp]
 simp [show Op.equal t (.func f a b) .nilFunc = Op.equalIn (9999 + 1) t (.func f a b) .nilFunc from rfl, run_equalIn_fn w h]
theorem run_neq_fn0 {t : TypeId} {ps rs : Array TypeId} {va : Bool} (h : P.underlying t = some (.func ps rs va)) : (binOp .neq t .nilFunc .nilFunc).run P w = .ok (.bool false) w := by
 simp only [binOp]
 simp [show Op.equal t .nilFunc .nilFunc = Op.equalIn (9999 + 1) t .nilFunc .nilFunc from rfl, run_equalIn_fn0 w h]
end
/-! ### a map without versions -/
theorem mapK_new {w : World} {l : List HProp} {most : Int} (hs : Sat w l) (h0 : 0 ≤ most) (h1 : most ≤ 1048576) :
   Calls Tryz.prog 60 #[.int .i64 most, cmpFK] w fun e w' => ∃ m, e = .returned (.pointer (some ⟨m, 0, none⟩)) ∧ Sat w' (mapK m most [] [] :: l) ∧ Kp w w' := by
 have hq := arenaK_new hs h0 h1
 have hf := fun w => run_eql_fn (P := Tryz.prog) w Tryz.underlying130 (.func 61) #[] #[]
 unfold cmpFK
 go_enter Tryz.func60, Tryz.ntmps60
 go_wp2_with fail
 refine hq.mono ?_
 rintro e w1 ⟨a, rfl, h2, k2⟩
 have h3 := h2.alloc (.cells #[.pointer (some ⟨a, 0, none⟩), cmpFK] 164)
 have k3 := k2.alloc (.cells #[.pointer (some ⟨a, 0, none⟩), cmpFK] 164)
 unfold cmpFK at h3 k3
 go_wp2_with fail
 go_ret
 exact ⟨_, rfl, mapK_I h3, k3⟩
/-! ### a map without versions -/
theorem mapS_new {w : World} {l : List HProp} {most : Int} (hs : Sat w l) (h0 : 0 ≤ most) (h1 : most ≤ 1048576) :
   Calls Tryz.prog 62 #[.int .i64 most, cmpFS] w fun e w' => ∃ m, e = .returned (.pointer (some ⟨m, 0, none⟩)) ∧ Sat w' (mapS m most [] [] :: l) ∧ Kp w w' := by
 have hq := arenaS_new hs h0 h1
 have hf := fun w => run_eql_fn (P := Tryz.prog) w Tryz.underlying132 (.func 63) #[] #[]
 unfold cmpFS
 go_enter Tryz.func62, Tryz.ntmps62
 go_wp2_with fail
 refine hq.mono ?_
 rintro e w1 ⟨a, rfl, h2, k2⟩
 have h3 := h2.alloc (.cells #[.pointer (some ⟨a, 0, none⟩), cmpFS] 186)
 have k3 := k2.alloc (.cells #[.pointer (some ⟨a, 0, none⟩), cmpFS] 186)
 unfold cmpFS at h3 k3
 go_wp2_with fail
 go_ret
 exact ⟨_, rfl, mapS_I h3, k3⟩
/-! ### both maps -/
def storeP (s : Nat) (most : Int) (AK : List SlotK) (FK : List Int) (AS : List SlotS) (FS : List Int) : HProp :=
 ex fun mk => ex fun ms => all [own s (.cells #[.pointer (some ⟨mk, 0, none⟩), .pointer (some ⟨ms, 0, none⟩)] 80 (0, 0)), mapK mk most AK FK, mapS ms most AS FS]
theorem storeP_I {w : World} {l : List HProp} {s mk ms : Nat} {most : Int} {AK : List SlotK} {FK : List Int} {AS : List SlotS} {FS : List Int}
   (hs : Sat w (own s (.cells #[.pointer (some ⟨mk, 0, none⟩), .pointer (some ⟨ms, 0, none⟩)] 80 (0, 0)) :: mapK mk most AK FK :: mapS ms most AS FS :: l)) : Sat w (storeP s most AK FK AS FS :: l) := Sat.exI mk (Sat.exI ms (Sat.allI hs))
theorem storeP_E {w : World} {l : List HProp} {s : Nat} {most : Int} {AK : List SlotK} {FK : List Int} {AS : List SlotS} {FS : List Int} (hs : Sat w (storeP s most AK FK AS FS :: l)) :
   ∃ mk ms, Sat w (own s (.cells #[.pointer (some ⟨mk, 0, none⟩), .pointer (some ⟨ms, 0, none⟩)] 80 (0, 0)) :: mapK mk most AK FK :: mapS ms most AS FS :: l) := by
 obtain ⟨a, h⟩ := hs.exE
 obtain ⟨b, h⟩ := h.exE
 exact ⟨a, b, h.allE⟩
theorem view_new {w : World} {l : List HProp} {most : Int} (hs : Sat w l) (h0 : 0 ≤ most) (h1 : most ≤ 1048576) :
   Calls Tryz.prog 17 #[.int .i64 most] w fun e w' => ∃ s, e = .returned (.pointer (some ⟨s, 0, none⟩)) ∧ Sat w' (storeP s most [] [] [] [] :: l) ∧ Kp w w' := by
 have hq := mapK_new hs h0 h1
 have hq2 := fun (W : World) (l' : List HProp) (hW : Sat W l') => mapS_new hW h0 h1
 unfold cmpFK at hq
 unfold cmpFS at hq2
 go_enter Tryz.func17, Tryz.ntmps17
 go_wp2_with fail
 refine hq.mono ?_
 rintro e w1 ⟨mk, rfl, h2, k2⟩
 have hq3 := hq2 _ _ h2
 go_wp2_with fail
 refine hq3.mono ?_
 rintro e w2 ⟨ms, rfl, h3, k3⟩
 have h4 := h3.alloc (.cells #[.pointer (some ⟨mk, 0, none⟩), .pointer (some ⟨ms, 0, none⟩)] 80)
 go_wp2_with fail
 go_ret
 exact ⟨_, rfl, storeP_I ((h4.pull 2).push 1), (k2.trans k3).alloc _⟩
end Go.Proofs.YtddglbjhhnipgaaGreatDoor

import Derived.Shelf.Unicode.ValidAny
import Derived.Lib.LaidU8T
import Derived.MakeChecks
import Derived.Test.YtddglbjhhnipgaaGreatDoorGA
import Derived.Test.YtddglbjhhnipgaaGreatDoorGD
import Derived.LoopN
import Derived.Laws.RangeString
import Derived.Laws.RangeAny
import Derived.Deep.CutRange
import Derived.IntWalk
import Derived.Lib.ValidLaws
namespace Go.Proofs.YtddglbjhhnipgaaGreatDoor
open Go Go.Proofs Go.Shelf Go.RowKit
open Go Go.RowKit
set_option linter.unusedVariables false
set_option linter.unusedSimpArgs false
set_option maxRecDepth 100000
set_option maxHeartbeats 8000000
set_option maxRecDepth 100000
def validS_ren : Go.Shelf.Ren := ⟨fun | 196 => 109 | 259 => 134 | n => n, fun | 9 => 9 | 4 => 4 | 3 => 3 | 5 => 5 | 12 => 12 | 119 => 222 | 0 => 0 | 46 => 226 | 139 => 225 | 138 => 224 | 53 => 256 | n => n, fun | 3 => 0 | 4 => 1 | n => n⟩
theorem validS : Go.Proofs.Lays.n196 Tryz.prog validS_ren where
 mixed := by kernel_rfl
 f196 := Tryz.func109.trans (congrArg some (by kernel_rfl))
 f259 := Tryz.func134.trans (congrArg some (by kernel_rfl))
 t0 := Tryz.underlying0
 a0 := Tryz.isAgg0
 z0 := Tryz.sizeOf0
 v0 := Tryz.zeroValue0
 t3 := Tryz.underlying3
 a3 := Tryz.isAgg3
 z3 := Tryz.sizeOf3
 v3 := Tryz.zeroValue3
 t4 := Tryz.underlying4
 a4 := Tryz.isAgg4
 z4 := Tryz.sizeOf4
 v4 := Tryz.zeroValue4
 t5 := Tryz.underlying5
 a5 := Tryz.isAgg5
 z5 := Tryz.sizeOf5
 v5 := Tryz.zeroValue5
 t9 := Tryz.underlying9
 a9 := Tryz.isAgg9
 z9 := Tryz.sizeOf9
 v9 := Tryz.zeroValue9
 t12 := Tryz.underlying12
 a12 := Tryz.isAgg12
 z12 := Tryz.sizeOf12
 v12 := Tryz.zeroValue12
 t46 := Tryz.underlying226
 a46 := Tryz.isAgg226
 z46 := Tryz.sizeOf226
 v46 := Tryz.zeroValue226
 t53 := Tryz.underlying256
 a53 := Tryz.isAgg256
 z53 := Tryz.sizeOf256
 v53 := Tryz.zeroValue256
 t119 := Tryz.underlying222
 a119 := Tryz.isAgg222
 z119 := Tryz.sizeOf222
 t138 := Tryz.underlying224
 a138 := Tryz.isAgg224
 z138 := Tryz.sizeOf224
 v138 := Tryz.zeroValue224
 t139 := Tryz.underlying225
 a139 := Tryz.isAgg225
 z139 := Tryz.sizeOf225
 v139 := Tryz.zeroValue225
 g3 := by kernel_rfl
 g4 := by kernel_rfl
theorem u8extra : U8Extra Tryz.prog validS_ren where
 n3 := by kernel_rfl
 n4 := by kernel_rfl
 y3 := by kernel_rfl
 y4 := by kernel_rfl
 c5 := by kernel_rfl
 c119 := by kernel_rfl
 c138 := by kernel_rfl
theorem accept_same : Lib.acceptData = Rows.laid_unicode_utf8_acceptRanges := by kernel_rfl
theorem first_same : Lib.firstData = Rows.laid_unicode_utf8_first := by kernel_rfl
theorem laid_plain {W : World} (h : laidMetH Tryz.prog [("unicode/utf8.acceptRanges", Rows.laid_unicode_utf8_acceptRanges), ("unicode/utf8.first", Rows.laid_unicode_utf8_first)] W) : laidMet Tryz.prog [("unicode/utf8.acceptRanges", Rows.laid_unicode_utf8_acceptRanges), ("unicode/utf8.first", Rows.laid_unicode_utf8_first)] W := by
 rwa [MakeChecks.laidMetH_plain _ _ _ (by kernel_rfl)] at h
/-- The two tables of unicode/utf8. -/
theorem u8tabs {W : World} (h : laidMetH Tryz.prog [("unicode/utf8.acceptRanges", Rows.laid_unicode_utf8_acceptRanges), ("unicode/utf8.first", Rows.laid_unicode_utf8_first)] W) : Lib.Utf8Tabs (validS_ren.g 3) (validS_ren.g 4) W := by
 have h2 := laid_plain h
 refine utf8Tabs_of_readsT (U8Types.of196 validS) u8extra ?_ ?_
 · rw [first_same]
   exact Lib.laidMet.reads h2 (by simp)
 · rw [accept_same]
   exact Lib.laidMet.reads h2 (by simp)
theorem tabs_old {W w : World} {l : List HProp} {a b : Nat} (h : Lib.Utf8Tabs a b W) (hs : Sat w (oldH W :: l)) : Lib.Utf8Tabs a b w :=
 ⟨fun c hc => hs.oldCell (h.1 c hc), fun i hi => ⟨hs.oldCell (h.2 i hi).1, hs.oldCell (h.2 i hi).2⟩⟩
theorem valid_string {W w : World} {l : List HProp} (hT : Lib.Utf8Tabs (validS_ren.g 3) (validS_ren.g 4) W) (hs : Sat w (oldH W :: l)) (s : ByteArray) (hz : s.size ≤ 1000) :
   Calls Tryz.prog 109 #[.string s] w fun e w' => e = .returned (.bool (Lib.validD s.data.toList)) ∧ Sat w' (oldH W :: l) ∧ Kp w w' := by
 have h := Any.utf8_ValidString validS s w (by omega) (tabs_old hT hs)
 change Calls Tryz.prog 109 _ _ _ at h
 refine h.mono ?_
 rintro e w' ⟨rfl, hb⟩
 have := hs.belowed hb
 exact ⟨rfl, this.1, this.2⟩
/-- The k-th small letter. -/
def letter (k : Nat) : ByteArray := ⟨#[UInt8.ofNat (97 + k)]⟩
theorem valid_letter {w : World} {k : Nat} (hk : k < 8) : Calls Tryz.prog 109 #[.string (letter k)] w fun e w' => e = .returned (.bool true) ∧ w = w' := by
 have h : k = 0 ∨ k = 1 ∨ k = 2 ∨ k = 3 ∨ k = 4 ∨ k = 5 ∨ k = 6 ∨ k = 7 := by omega
 rcases h with rfl | rfl | rfl | rfl | rfl | rfl | rfl | rfl
 all_goals
   unfold letter
   go_enter Tryz.func109, Tryz.ntmps109
   go_wp2_with fail
   refine wp_loop_rounds 2 ?_
   rw [rounds_succ]
   go_wp2_with fail
   rw [rounds_succ]
   go_wp2_with fail
   go_ret
   exact ⟨rfl, rfl⟩
theorem next_letter (w : World) (k : Nat) (hk : k < 8) (ty : TypeId) : (Instr.next (.pointer (some ⟨w.heap.size, 0, none⟩)) true ty).run Tryz.prog (w.iter (letter k) 0) = .ok (.tuple #[.bool true, .int .i64 0, .int .i32 ((97 + k : Nat) : Int)]) (w.iter (letter k) 1) := by
 have h : k = 0 ∨ k = 1 ∨ k = 2 ∨ k = 3 ∨ k = 4 ∨ k = 5 ∨ k = 6 ∨ k = 7 := by omega
 rcases h with rfl | rfl | rfl | rfl | rfl | rfl | rfl | rfl
 all_goals exact run_next_ascii (P := Tryz.prog) w _ 0 ty (by decide) (by decide)
theorem next_letter_end (w : World) (k : Nat) (ty : TypeId) : (Instr.next (.pointer (some ⟨w.heap.size, 0, none⟩)) true ty).run Tryz.prog (w.iter (letter k) 1) = .ok (.tuple #[.bool false]) (w.iter (letter k) 1) :=
 run_next_end (P := Tryz.prog) w _ 1 ty (by simp [letter, ByteArray.size])
theorem sign_letter {w : World} {c : Int} (h0 : 97 ≤ c) (h1 : c ≤ 104) : Calls Tryz.prog 108 #[.int .i32 c] w fun e w' => e = .returned (.bool true) ∧ w = w' := by
 have e1 : (c != 127) = true := by simp; omega
 have e2 : (c != 47) = true := by simp; omega
 go_enter Tryz.func108, Tryz.ntmps108
 go_wp2_with fail
 go_ret
 exact ⟨rfl, rfl⟩
theorem right_letter {w : World} {l : List HProp} {k : Nat} (hk : k < 8) (hs : Sat w l) : Calls Tryz.prog 81 #[.string (letter k)] w fun e w' => e = .returned (.bool true) ∧ Sat w' l ∧ Kp w w' := by
 have hn0 := fun ty => next_letter w k hk ty
 have hn1 := fun ty => next_letter_end w k ty
 have hsz : (letter k).size = 1 := rfl
 go_enter Tryz.func81, Tryz.ntmps81
 go_wp2_with fail
 refine wp_loop_rounds 2 ?_
 rw [rounds_succ]
 go_wp2_with fail
 refine (sign_letter (by omega) (by omega)).mono ?_
 rintro e w1 ⟨rfl, rfl⟩
 go_wp2_with fail
 rw [rounds_succ]
 go_wp2_with fail
 refine (valid_letter hk).mono ?_
 rintro e w1 ⟨rfl, rfl⟩
 go_wp2_with fail
 go_ret
 exact ⟨rfl, hs.alloc' _, (Kp.refl w).alloc _⟩
/-- A byte that may be in a name. -/
def goodB (b : UInt8) : Bool := decide (32 ≤ b.toNat) && decide (b.toNat ≠ 127) && decide (b.toNat ≠ 47)
def nameOk (s : ByteArray) : Bool := s.data.toList.all goodB && (decide (1 ≤ s.size ∧ s.size ≤ 20) && Lib.validD s.data.toList)
def signOk (c : Int) : Bool := decide (32 ≤ c ∧ c ≠ 127 ∧ c ≠ 47)
theorem name_sign {w : World} (c : Int) : Calls Tryz.prog 108 #[.int .i32 c] w fun e w' => e = .returned (.bool (signOk c)) ∧ w = w' := by
 unfold signOk
 by_cases h1 : 32 ≤ c
 · cases h2 : (c != 127) with
   | false =>
     have e : c = 127 := by simpa using h2
     have e2 : decide (32 ≤ c ∧ c ≠ 127 ∧ c ≠ 47) = false := by simp [e]
     rw [e2]
     go_enter Tryz.func108, Tryz.ntmps108
     go_wp2_with fail
     go_ret
     exact ⟨rfl, rfl⟩
   | true =>
     have e : c ≠ 127 := by simpa using h2
     cases h3 : (c != 47) with
     | false =>
       have e3 : c = 47 := by simpa using h3
       have e2 : decide (32 ≤ c ∧ c ≠ 127 ∧ c ≠ 47) = false := by simp [e3]
       rw [e2]
       go_enter Tryz.func108, Tryz.ntmps108
       go_wp2_with fail
       go_ret
       exact ⟨rfl, rfl⟩
     | true =>
       have e3 : c ≠ 47 := by simpa using h3
       have e2 : decide (32 ≤ c ∧ c ≠ 127 ∧ c ≠ 47) = true := by simp [h1, e, e3]
       rw [e2]
       go_enter Tryz.func108, Tryz.ntmps108
       go_wp2_with fail
       go_ret
       exact ⟨rfl, rfl⟩
 · have e2 : decide (32 ≤ c ∧ c ≠ 127 ∧ c ≠ 47) = false := by simp [h1]
   rw [e2]
   go_enter Tryz.func108, Tryz.ntmps108
   go_wp2_with fail
   go_ret
   exact ⟨rfl, rfl⟩
theorem decode_width (s : ByteArray) (pos : Nat) (h : pos < s.size) : 1 ≤ (Utf8.decode s pos).2 ∧ pos + (Utf8.decode s pos).2 ≤ s.size ∧ ∀ j, 1 ≤ j → j < (Utf8.decode s pos).2 → 128 ≤ (s.get! (pos + j)).toNat := by
 have key : ∀ k, (decide (pos + k < s.size) && (s.get! (pos + k)).toNat / 64 == 2) = true → pos + k < s.size ∧ 128 ≤ (s.get! (pos + k)).toNat := fun k hk => by
   simp at hk
   omega
 simp only [Utf8.decode]
 split
 · exact ⟨Nat.le_refl _, h, fun j h1 h2 => by omega⟩
 split
 · rename_i h2
   simp only [Bool.and_eq_true] at h2
   have k1 := key 1 (by simpa using h2.2)
   split
   · refine ⟨by omega, by show pos + 2 ≤ _; omega, fun j a b => ?_⟩
     have b : j < 2 := b
     obtain rfl : j = 1 := by omega
     exact k1.2
   · exact ⟨Nat.le_refl _, h, fun j h1 h2 => by have h2 : j < 1 := h2; omega⟩
 split
 · rename_i h2
   simp only [Bool.and_eq_true] at h2
   have k1 := key 1 (by simpa using h2.1.2)
   have k2 := key 2 (by simpa using h2.2)
   split
   · refine ⟨by omega, by show pos + 3 ≤ _; omega, fun j a b => ?_⟩
     have b : j < 3 := b
     have : j = 1 ∨ j = 2 := by omega
     rcases this with rfl | rfl
     · exact k1.2
     · exact k2.2
   · exact ⟨Nat.le_refl _, h, fun j h1 h2 => by have h2 : j < 1 := h2; omega⟩
 split
 · rename_i h2
   simp only [Bool.and_eq_true] at h2
   have k1 := key 1 (by simpa using h2.1.1.2)
   have k2 := key 2 (by simpa using h2.1.2)
   have k3 := key 3 (by simpa using h2.2)
   split
   · refine ⟨by omega, by show pos + 4 ≤ _; omega, fun j a b => ?_⟩
     have b : j < 4 := b
     have : j = 1 ∨ j = 2 ∨ j = 3 := by omega
     rcases this with rfl | rfl | rfl
     · exact k1.2
     · exact k2.2
     · exact k3.2
   · exact ⟨Nat.le_refl _, h, fun j h1 h2 => by have h2 : j < 1 := h2; omega⟩
 · exact ⟨Nat.le_refl _, h, fun j h1 h2 => by have h2 : j < 1 := h2; omega⟩
/-! ### the document's names and operations -/
/-- How many bytes are behind a first one, and from where to where the first of these is. -/
def tailN (c : Nat) : Int := if c < 128 then 0 else if c < 194 then -1 else if c < 224 then 1 else if c < 240 then 2 else if c < 245 then 3 else -1
def tailLo (c : Nat) : Nat := if c < 128 then 128 else if c < 194 then 0 else if c = 224 then 160 else if c = 240 then 144 else if c < 245 then 128 else 0
def tailHi (c : Nat) : Nat := if c < 128 then 191 else if c < 194 then 0 else if c = 237 then 159 else if c = 244 then 143 else if c < 245 then 191 else 0
theorem tail_first (b : Nat) (h0 : 128 ≤ b) (h1 : b < 256) : (tailN b = -1 ∧ Lib.firstT b % 8 ≤ 1) ∨ (1 ≤ tailN b ∧ tailN b ≤ 3 ∧ (Lib.firstT b % 8 : Nat) = tailN b + 1 ∧ Lib.accLo (Lib.firstT b / 16) = tailLo b ∧ Lib.accHi (Lib.firstT b / 16) = tailHi b) := by
 have key : ∀ b : Fin 256, 128 ≤ b.val → (tailN b.val = -1 ∧ Lib.firstT b.val % 8 ≤ 1) ∨ (1 ≤ tailN b.val ∧ tailN b.val ≤ 3 ∧ (Lib.firstT b.val % 8 : Nat) = tailN b.val + 1 ∧ Lib.accLo (Lib.firstT b.val / 16) = tailLo b.val ∧ Lib.accHi (Lib.firstT b.val / 16) = tailHi b.val) := by decide +kernel
 exact key ⟨b, h1⟩ h0
/-- The first byte, and those that belong to it. -/
def loK (lo k : Nat) : Nat := if k ≤ 1 then lo else 128
def hiK (hi k : Nat) : Nat := if k ≤ 1 then hi else 191
theorem form_step (l : List UInt8) (hne : l ≠ []) (c : Nat) (hc : c = (l.getD 0 0).toNat) :
   (tailN c < 0 → Lib.validD l = false) ∧ ∀ n : Nat, tailN c = n → (l.length ≤ n → Lib.validD l = false) ∧ (n < l.length →
     (∀ k, 1 ≤ k → k ≤ n → (l.getD k 0).toNat < loK (tailLo c) k ∨ hiK (tailHi c) k < (l.getD k 0).toNat → Lib.validD l = false) ∧
     ((∀ k, 1 ≤ k → k ≤ n → loK (tailLo c) k ≤ (l.getD k 0).toNat ∧ (l.getD k 0).toNat ≤ hiK (tailHi c) k) → Lib.validD l = Lib.validD (l.drop (n + 1)))) := by
 have hlt := (l.getD 0 0).toNat_lt
 rw [← hc] at hlt
 by_cases hlow : c < 128
 · have ht : tailN c = 0 := by unfold tailN; rw [if_pos hlow]
   refine ⟨fun h => by omega, fun n hn => ?_⟩
   obtain rfl : n = 0 := by omega
   refine ⟨fun h => by cases l with | nil => exact absurd rfl hne | cons a l => simp at h, fun _ => ⟨fun k h1 h2 => by omega, fun _ => ?_⟩⟩
   cases l with
   | nil => exact absurd rfl hne
   | cons a l =>
     have : c = a.toNat := by simpa using hc
     rw [Lib.validD_cons a l (by omega)]
     rfl
 have hv := Lib.validD_lead l hne (by omega)
 rw [← hc] at hv
 have h1 := (l.getD 1 0).toNat_lt
 have h2 := (l.getD 2 0).toNat_lt
 have h3 := (l.getD 3 0).toNat_lt
 rcases tail_first c (by omega) hlt with ⟨t1, t2⟩ | ⟨t1, t2, t3, t4, t5⟩
 · refine ⟨fun _ => ?_, fun n hn => by omega⟩
   rw [hv]
   unfold Lib.checkN
   rw [if_neg (by omega), if_neg (by omega), if_neg (by omega)]
 · refine ⟨fun h => by omega, fun n hn => ?_⟩
   rw [hn] at t1 t2 t3
   have hn3 : n = 1 ∨ n = 2 ∨ n = 3 := by omega
   rw [hv, t4, t5]
   have e1 : loK (tailLo c) 1 = tailLo c := rfl
   have e2 : hiK (tailHi c) 1 = tailHi c := rfl
   have e3 : ∀ k, 1 < k → loK (tailLo c) k = 128 := fun k hk => by unfold loK; rw [if_neg (by omega)]
   have e4 : ∀ k, 1 < k → hiK (tailHi c) k = 191 := fun k hk => by unfold hiK; rw [if_neg (by omega)]
   have hk1 : ∀ {P : Nat → Prop}, (∀ k, 1 ≤ k → k ≤ n → P k) → P 1 := fun h => h 1 (Nat.le_refl _) (by omega)
   unfold Lib.checkN
   have kk : ∀ k, 1 ≤ k → k ≤ n → k = 1 ∨ k = 2 ∨ k = 3 := fun k a b => by omega
   rcases hn3 with rfl | rfl | rfl
   · have ts : Lib.firstT c % 8 = 2 := by omega
     rw [if_pos ts]
     refine ⟨fun h => by rw [if_pos (by omega)], fun hl => ⟨fun k a b h => ?_, fun h => ?_⟩⟩
     · obtain rfl : k = 1 := by omega
       rw [e1, e2] at h
       rw [if_pos (by omega)]
     · have g1 := h 1 (by omega) (by omega)
       rw [e1, e2] at g1
       rw [if_neg (by omega)]
   · have ts : Lib.firstT c % 8 = 3 := by omega
     rw [if_neg (by omega), if_pos ts]
     refine ⟨fun h => by rw [if_pos (by omega)], fun hl => ⟨fun k a b h => ?_, fun h => ?_⟩⟩
     · rcases (show k = 1 ∨ k = 2 by omega) with rfl | rfl
       · rw [e1, e2] at h
         rw [if_pos (by omega)]
       · rw [e3 2 (by omega), e4 2 (by omega)] at h
         rw [if_pos (by omega)]
     · have g1 := h 1 (by omega) (by omega)
       have g2 := h 2 (by omega) (by omega)
       rw [e1, e2] at g1
       rw [e3 2 (by omega), e4 2 (by omega)] at g2
       rw [if_neg (by omega)]
   · have ts : Lib.firstT c % 8 = 4 := by omega
     rw [if_neg (by omega), if_neg (by omega), if_pos ts]
     refine ⟨fun h => by rw [if_pos (by omega)], fun hl => ⟨fun k a b h => ?_, fun h => ?_⟩⟩
     · rcases (show k = 1 ∨ k = 2 ∨ k = 3 by omega) with rfl | rfl | rfl
       · rw [e1, e2] at h
         rw [if_pos (by omega)]
       · rw [e3 2 (by omega), e4 2 (by omega)] at h
         rw [if_pos (by omega)]
       · rw [e3 3 (by omega), e4 3 (by omega)] at h
         rw [if_pos (by omega)]
     · have g1 := h 1 (by omega) (by omega)
       have g2 := h 2 (by omega) (by omega)
       have g3 := h 3 (by omega) (by omega)
       rw [e1, e2] at g1
       rw [e3 2 (by omega), e4 2 (by omega)] at g2
       rw [e3 3 (by omega), e4 3 (by omega)] at g3
       rw [if_neg (by omega)]
theorem ret_tail {a a' : Int} {b b' c c' : Int} (h1 : a = a') (h2 : b = b') (h3 : c = c') : Ending.returned (.tuple #[.int .i64 a, .int .u8 b, .int .u8 c]) = .returned (.tuple #[.int .i64 a', .int .u8 b', .int .u8 c']) := by rw [h1, h2, h3]
theorem tails_is {w : World} (c : Nat) (hc : c < 256) : Calls Tryz.prog 177 #[.int .u8 c] w fun e w' => e = .returned (.tuple #[.int .i64 (tailN c), .int .u8 (tailLo c), .int .u8 (tailHi c)]) ∧ w = w' := by
 go_enter Tryz.func177, Tryz.ntmps177
 go_wp2_with fail
 all_goals
   refine bodyPost_ret (v := .tuple #[.int .i64 _, .int .u8 _, .int .u8 _]) (by simp [results, Tryz.results177, go_sem]; exact ⟨rfl, rfl, rfl⟩) rfl ⟨ret_tail ?_ ?_ ?_, rfl⟩
   all_goals
     try simp only [beq_iff_eq, beq_eq_false_iff_ne, ne_eq] at *
     first | (unfold tailN; (repeat' split) <;> omega) | (unfold tailLo; (repeat' split) <;> omega) | (unfold tailHi; (repeat' split) <;> omega)
theorem size_list (s : ByteArray) : s.data.toList.length = s.size := by rw [Array.length_toList]; rfl
theorem get_drop (s : ByteArray) (p k : Nat) (h : p + k < s.size) : ((s.data.toList.drop p).getD k 0) = s[p + k] := by
 rw [List.getD_eq_getElem?_getD, List.getElem?_drop, List.getElem?_eq_getElem (by rw [size_list]; exact h)]
 rfl
theorem formed_is {w : World} (s : ByteArray) (hz : s.size ≤ 1000) : Calls Tryz.prog 152 #[.string s] w fun e w' => e = .returned (.bool (Lib.validD s.data.toList)) ∧ w = w' := by
 obtain ⟨ANS, hANS⟩ : ∃ ANS, Lib.validD s.data.toList = ANS := ⟨_, rfl⟩
 rw [hANS]
 have HA := Lib.hid hANS
 clear hANS
 have hz' : (s.size : Int) ≤ 1000 := by omega
 go_enter Tryz.func152, Tryz.ntmps152
 go_wp2_with fail
 go_loop [3, 4, 5, 6, 7] (fun iv nv lo hi kv => ∃ p : Nat, p ≤ s.size ∧ iv = .int .i64 p ∧ Hid (ANS = Lib.validD (s.data.toList.drop p))) (fun iv _ _ _ _ => s.size - (intOf iv).toNat)
 case atStart => exact ⟨0, Nat.zero_le _, rfl, Lib.hid (by rw [← HA.out]; rfl)⟩
 case round =>
   obtain ⟨p, hps, rfl, hI⟩ := hrel
   by_cases hlt : p < s.size
   case neg =>
     have HOK := Lib.hid (show ANS = true by rw [hI.out, List.drop_eq_nil_of_le (by rw [size_list]; omega)]; rfl)
     clear hI
     go_wp2_with fail
     obtain rfl := HOK.out
     go_ret
     exact ⟨rfl, rfl⟩
   have hne : s.data.toList.drop p ≠ [] := fun h => by have := congrArg List.length h; rw [List.length_drop, size_list] at this; simp at this; omega
   have hgd := get_drop s p 0 (by omega)
   have hll : (s.data.toList.drop p).length = s.size - p := by rw [List.length_drop, size_list]
   have hf := form_step (s.data.toList.drop p) hne (s[p]).toNat (by rw [hgd]; rfl)
   have hti := fun W => tails_is (w := W) (s[p]).toNat (s[p]).toNat_lt
   have hn3 : tailN (s[p]).toNat ≤ 3 := by unfold tailN; (repeat' split) <;> omega
   generalize tailN (s[p]).toNat = n at hti hf hn3
   generalize tailLo (s[p]).toNat = lo at hti hf
   generalize tailHi (s[p]).toNat = hi at hti hf
   rw [hll, ← hI.out] at hf
   obtain ⟨hf1, hf2⟩ := hf
   by_cases hneg : n < 0
   · have HOK := Lib.hid (hf1 hneg)
     clear hf1 hf2 hgd hne hll hI
     go_wp2_with fail
     refine (hti _).mono ?_
     rintro e w1 ⟨rfl, rfl⟩
     clear hti
     go_wp2_with fail
     obtain rfl := HOK.out
     go_ret
     exact ⟨rfl, rfl⟩
   obtain ⟨m, rfl⟩ : ∃ m : Nat, n = m := ⟨n.toNat, by omega⟩
   obtain ⟨hf3, hf4⟩ := hf2 m rfl
   clear hf1 hf2 hneg
   have hneg' : ¬ (m : Int) < 0 := by omega
   by_cases hend : s.size ≤ p + m
   · have HOK := Lib.hid (hf3 (by omega))
     have hend' : (s.size : Int) ≤ (p : Int) + (m : Int) := by omega
     clear hf3 hf4 hgd hne hll hI
     go_wp2_with fail
     refine (hti _).mono ?_
     rintro e w1 ⟨rfl, rfl⟩
     clear hti
     go_wp2_with fail
     obtain rfl := HOK.out
     go_ret
     exact ⟨rfl, rfl⟩
   obtain ⟨hf5, hf6⟩ := hf4 (by omega)
   have hend' : ¬ (s.size : Int) ≤ (p : Int) + (m : Int) := by omega
   have HF5 := Lib.hid hf5
   have HF6 := Lib.hid hf6
   clear hf3 hf4 hf5 hf6 hgd hne hll
   go_wp2_with fail
   refine (hti _).mono ?_
   rintro e w1 ⟨rfl, rfl⟩
   clear hti
   go_wp2_with fail
   go_loop [5, 6, 7] (fun lv hv kv => ∃ k : Nat, 1 ≤ k ∧ k ≤ m + 1 ∧ kv = .int .i64 k ∧ lv = .int .u8 (loK lo k) ∧ hv = .int .u8 (hiK hi k) ∧ Hid (∀ j, 1 ≤ j → j < k → loK lo j ≤ ((s.data.toList.drop p).getD j 0).toNat ∧ ((s.data.toList.drop p).getD j 0).toNat ≤ hiK hi j)) (fun _ _ kv => m + 1 - (intOf kv).toNat)
   case atStart => exact ⟨1, by omega, by omega, rfl, rfl, rfl, Lib.hid (fun j h1 h2 => by omega)⟩
   case round =>
     obtain ⟨k, hk1, hk2, rfl, rfl, rfl, hJ⟩ := hrel
     by_cases hkm : k ≤ m
     case neg =>
       obtain rfl : k = m + 1 := by omega
       have HI2 := Lib.hid (HF6.out (fun j h1 h2 => hJ.out j h1 (by omega)))
       clear hJ hI
       have hkm' : ¬ ((m + 1 : Nat) : Int) ≤ (m : Int) := by omega
       go_wp2_with fail
       go_round
       case rel => exact ⟨p + 1 + m, by omega, by go_num, Lib.hid (by rw [HI2.out, List.drop_drop]; congr 2; omega)⟩
       case measure => simp [intOf]; omega
     have hkm' : (k : Int) ≤ (m : Int) := by omega
     have hpk : IntKind.i64.wrap ((p : Int) + (k : Int)) = ((p + k : Nat) : Int) := by rw [IntWalk.i64_in _ (by omega)]; push_cast; rfl
     have hps2 : p + k < s.size := by omega
     have hg := get_drop s p k hps2
     by_cases hlo : (s[p + k]).toNat < loK lo k
     · have HOK := Lib.hid (HF5.out k hk1 hkm (.inl (by rw [hg]; exact hlo)))
       clear hg hJ hI
       have hlo' : ((s[p + k]).toNat : Int) < (loK lo k : Int) := by omega
       go_wp2_with fail
       obtain rfl := HOK.out
       go_ret
       exact ⟨rfl, rfl⟩
     have hlo' : ¬ ((s[p + k]).toNat : Int) < (loK lo k : Int) := by omega
     by_cases hhi : hiK hi k < (s[p + k]).toNat
     · have HOK := Lib.hid (HF5.out k hk1 hkm (.inr (by rw [hg]; exact hhi)))
       clear hg hJ hI
       have hhi' : (hiK hi k : Int) < ((s[p + k]).toNat : Int) := by omega
       go_wp2_with fail
       obtain rfl := HOK.out
       go_ret
       exact ⟨rfl, rfl⟩
     have hhi' : ¬ (hiK hi k : Int) < ((s[p + k]).toNat : Int) := by omega
     have HJ2 := Lib.hid (show ∀ j, 1 ≤ j → j < k + 1 → loK lo j ≤ ((s.data.toList.drop p).getD j 0).toNat ∧ ((s.data.toList.drop p).getD j 0).toNat ≤ hiK hi j from fun j h1 h2 => by
       by_cases e : j = k
       · subst e
         rw [hg]
         omega
       · exact hJ.out j h1 (by omega))
     clear hg hJ
     go_wp2_with fail
     go_round
     case rel => exact ⟨k + 1, by omega, by omega, by go_num, by rw [show loK lo (k + 1) = 128 from if_neg (by omega)]; rfl, by rw [show hiK hi (k + 1) = 191 from if_neg (by omega)]; rfl, HJ2⟩
     case measure => simp [intOf]; omega
end Go.Proofs.YtddglbjhhnipgaaGreatDoor

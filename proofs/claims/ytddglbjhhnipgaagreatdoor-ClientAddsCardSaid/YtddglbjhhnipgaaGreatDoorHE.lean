import Derived.Test.YtddglbjhhnipgaaGreatDoorHD
import Derived.Test.YtddglbjhhnipgaaGreatDoorGA
import Derived.Test.YtddglbjhhnipgaaGreatDoorGC
import Derived.Deep.CutRange
import Derived.Deep.CutBlock
import Derived.IntWalk
namespace Go.Proofs.YtddglbjhhnipgaaGreatDoor
open Go Go.RowKit
set_option linter.unusedVariables false
set_option linter.unusedSimpArgs false
set_option maxRecDepth 100000
set_option maxHeartbeats 8000000
/-! ### an arena of the map's nodes -/
abbrev SlotK := SlotD KidD Bool
def fKL (s : SlotK) : List Value := [.int .i64 s.gen, .bool s.used, .int .i64 s.k.up, .string s.k.name, .int .i64 s.k.node, .bool s.v, .int .i64 s.lh.s, .int .i64 s.lh.g, .int .i64 s.rh.s, .int .i64 s.rh.g, .int .i64 s.hi]
theorem len_fKL (s : SlotK) : (fKL s).length = 11 := rfl
def nodeK (s : SlotK) : Value := .agg #[.int .i64 s.k.up, .string s.k.name, .int .i64 s.k.node, .bool s.v, .int .i64 s.lh.s, .int .i64 s.lh.g, .int .i64 s.rh.s, .int .i64 s.rh.g, .int .i64 s.hi]
def zeroK : SlotK := ⟨0, false, ⟨0, ⟨#[]⟩, 0⟩, false, Hd.nil, Hd.nil, 0⟩
theorem Tryz.infoSlotK : (Tryz.prog.info? 197).map (fun i => (i.zero, i.size, i.bytes)) = some (some (.agg #[.int .i64 0, .bool false, .int .i64 0, .string ⟨#[]⟩, .int .i64 0, .bool false, .int .i64 0, .int .i64 0, .int .i64 0, .int .i64 0, .int .i64 0]), 11, 96) := by kernel_rfl
theorem Tryz.infoIntK : (Tryz.prog.info? 3).map (fun i => (i.zero, i.size, i.bytes)) = some (some (.int .i64 0), 1, 8) := by kernel_rfl
def arenaK (a : Nat) (most : Int) (A : List SlotK) (F : List Int) : HProp :=
 ex fun vs => ex fun vf => all [own a (.cells #[.int .i64 most, vs, vf] 212 (0, 0)), rowT fKL vs 197 11 A, rowT fI vf 3 1 F]
theorem arenaK_I {w : World} {l : List HProp} {a : Nat} {most : Int} {A : List SlotK} {F : List Int} {vs vf : Value}
   (hs : Sat w (own a (.cells #[.int .i64 most, vs, vf] 212 (0, 0)) :: rowT fKL vs 197 11 A :: rowT fI vf 3 1 F :: l)) : Sat w (arenaK a most A F :: l) :=
 Sat.exI vs (Sat.exI vf (Sat.allI hs))
theorem arenaK_E {w : World} {l : List HProp} {a : Nat} {most : Int} {A : List SlotK} {F : List Int} (hs : Sat w (arenaK a most A F :: l)) :
   ∃ vs vf, Sat w (own a (.cells #[.int .i64 most, vs, vf] 212 (0, 0)) :: rowT fKL vs 197 11 A :: rowT fI vf 3 1 F :: l) := by
 obtain ⟨vs, h⟩ := hs.exE
 obtain ⟨vf, h⟩ := h.exE
 exact ⟨vs, vf, h.allE⟩
theorem arenaK_new {w : World} {l : List HProp} {most : Int} (hs : Sat w l) (h0 : 0 ≤ most) (h1 : most ≤ 1048576) :
   Calls Tryz.prog 89 #[.int .i64 most] w fun e w' => ∃ a, e = .returned (.pointer (some ⟨a, 0, none⟩)) ∧ Sat w' (arenaK a most [] [] :: l) ∧ Kp w w' := by
 have h2 := ((((hs.tNil fI 3 1).tNil fKL 197 11).alloc (.cells #[.int .i64 most, .slice none 0 0, .slice none 0 0] 212)))
 have k2 := (Kp.refl w).alloc (.cells #[.int .i64 most, .slice none 0 0, .slice none 0 0] 212)
 go_enter Tryz.func89, Tryz.ntmps89
 go_wp2_with fail
 go_ret
 exact ⟨_, rfl, arenaK_I h2, k2⟩
theorem arenaK_new_not {w : World} {most : Int} (h : most < 0 ∨ 1048576 < most) :
   Calls Tryz.prog 89 #[.int .i64 most] w fun e w' => e = .returned (.pointer none) ∧ w = w' := by
 by_cases h1 : most < 0
 · clear h
   go_enter Tryz.func89, Tryz.ntmps89
   go_wp2_with fail
   go_ret
   exact ⟨rfl, rfl⟩
 · have h2 : 1048576 < most := h.resolve_left h1
   clear h
   go_enter Tryz.func89, Tryz.ntmps89
   go_wp2_with fail
   go_ret
   exact ⟨rfl, rfl⟩
theorem arenaK_room {w : World} {l : List HProp} {a : Nat} {most : Int} {A : List SlotK} {F : List Int} (hs : Sat w (arenaK a most A F :: l)) (h0 : 0 ≤ most) (h1 : most ≤ 1048576) (hA : A.length ≤ 1048576) (hF : F.length ≤ 1048576) :
   Calls Tryz.prog 186 #[.pointer (some ⟨a, 0, none⟩)] w fun e w' => e = .returned (.int .i64 (roomA most A F)) ∧ Sat w' (arenaK a most A F :: l) ∧ Kp w w' := by
 obtain ⟨vs, vf, h⟩ := arenaK_E hs
 obtain ⟨sao, scap, hsv⟩ := (h.pull 1).tLen
 obtain ⟨fao, fcap, hfv⟩ := (h.pull 2).tLen
 have c0 := h.cell 0
 have c1 := h.cell 1
 have c2 := h.cell 2
 simp at c0 c1 c2
 have hal := h.lt
 unfold roomA
 generalize A.length = n at hsv hA ⊢
 generalize F.length = m at hfv hF ⊢
 subst hsv hfv
 have hn : (n : Int) ≤ 1048576 := by omega
 have hm : (m : Int) ≤ 1048576 := by omega
 have e1 : IntKind.i64.wrap (most - (n : Int)) = most - (n : Int) := by rw [IntWalk.i64_in _ (by omega)]
 have e2 : IntKind.i64.wrap (most - (n : Int) + (m : Int)) = most - (n : Int) + (m : Int) := by rw [IntWalk.i64_in _ (by omega)]
 go_enter Tryz.func186, Tryz.ntmps186
 go_wp2_with fail
 go_quiet (fail)
 go_wp2_with fail
 go_ret
 exact ⟨rfl, hs.drewN _, (Kp.refl w).drewN _⟩
theorem arenaK_find_yes {w : World} {l : List HProp} {a g off n cap i : Nat} {most : Int} {A : List SlotK} {vf : Value} {h : Hd} {s : SlotK} (hs : Sat w (own a (.cells #[.int .i64 most, .slice (some ⟨g, off, none⟩) n cap, vf] 212 (0, 0)) :: rowT fKL (.slice (some ⟨g, off, none⟩) n cap) 197 11 A :: l))
   (hi : A[i]? = some s) (hh : h.s = i + 1) (hu : s.used = true) (hg : s.gen = h.g) :
   Calls Tryz.prog 110 #[.pointer (some ⟨a, 0, none⟩), .agg #[.int .i64 h.s, .int .i64 h.g]] w fun e w' => e = .returned (.pointer (some ⟨g, off + i * 11, none⟩)) ∧ Sat w' (own a (.cells #[.int .i64 most, .slice (some ⟨g, off, none⟩) n cap, vf] 212 (0, 0)) :: rowT fKL (.slice (some ⟨g, off, none⟩) n cap) 197 11 A :: l) ∧ Kp w w' := by
 have hcap := (hs.pull 1).tCap
 have hil := (List.getElem?_eq_some_iff.1 hi).1
 obtain ⟨hc1, hn, hc2⟩ := hcap
 unfold maxLen at hc2
 rw [← hn] at hil hc1
 have hB := hs.alloc (.cells #[.int .i64 h.s, .int .i64 h.g] 56)
 have kB := (Kp.refl w).alloc (.cells #[.int .i64 h.s, .int .i64 h.g] 56)
 obtain ⟨hsl, hgn⟩ := h
 dsimp only at hh hg hB kB
 have c1 := hs.cell 1
 have x0 := (hs.pull 1).tCell len_fKL i 0 hi rfl
 have x1 := (hs.pull 1).tCell len_fKL i 1 hi rfl
 rw [Nat.add_zero, hg] at x0
 rw [hu] at x1
 simp at c1
 have hal := hs.lt
 have hgl := (hs.pull 1).rowBlock
 have g1 : ¬ hsl < 1 := by omega
 have g2 : ¬ (n : Int) < hsl := by omega
 have e1 : IntKind.i64.wrap (hsl - 1) = (i : Int) := by rw [IntWalk.i64_in _ (by omega)]; omega
 have i0' : (0 : Int) ≤ (i : Int) := by omega
 have i1' : (i : Int) < (n : Int) := by omega
 have e2 : (hgn != hgn) = false := by simp
 clear hi hn hu hg
 have HH := Lib.hid hh
 clear hh
 go_enter Tryz.func110, Tryz.ntmps110
 go_upto_region 1 with (fail)
 have hB2 := hB
 have hab := hB2.cell 0
 have hab1 := hB2.cell 1
 have hac := (hB2.pull 1).cell 1
 simp at hab hab1 hac
 go_quiet (fail)
 go_wp2_with fail
 go_quiet (fail)
 go_wp2_with fail
 go_quiet (fail)
 go_wp2_with fail
 go_ret
 exact ⟨rfl, ((hB.tail.drewN _).drewN _).drewN _, ((kB.drewN _).drewN _).drewN _⟩
theorem arenaK_find_no {w : World} {l : List HProp} {a : Nat} {most : Int} {A : List SlotK} {F : List Int} {h : Hd} (hs : Sat w (arenaK a most A F :: l)) (hno : ∀ s, ¬ InA A h s) :
   Calls Tryz.prog 110 #[.pointer (some ⟨a, 0, none⟩), .agg #[.int .i64 h.s, .int .i64 h.g]] w fun e w' => e = .returned (.pointer none) ∧ Sat w' (arenaK a most A F :: l) ∧ Kp w w' := by
 obtain ⟨vs, vf, hv⟩ := arenaK_E hs
 obtain ⟨sao, scap, hsv⟩ := (hv.pull 1).tLen
 have hB := hs.alloc (.cells #[.int .i64 h.s, .int .i64 h.g] 56)
 have kB := (Kp.refl w).alloc (.cells #[.int .i64 h.s, .int .i64 h.g] 56)
 obtain ⟨hsl, hgn⟩ := h
 dsimp only at hB kB
 have c1 := hv.cell 1
 simp at c1
 have hal := hv.lt
 obtain ⟨n, hn⟩ : ∃ n, A.length = n := ⟨_, rfl⟩
 rw [hn] at hsv
 subst hsv
 by_cases g1 : hsl < 1
 · clear hno hs hv hn
   go_enter Tryz.func110, Tryz.ntmps110
   go_upto_region 1 with (fail)
   have hab := hB.cell 0
   have hab1 := hB.cell 1
   simp at hab hab1
   go_quiet (fail)
   go_wp2_with fail
   go_ret
   exact ⟨rfl, hB.tail.drewN _, kB.drewN _⟩
 by_cases g2 : (n : Int) < hsl
 · clear hno hs hv hn
   go_enter Tryz.func110, Tryz.ntmps110
   go_upto_region 1 with (fail)
   have hab := hB.cell 0
   have hab1 := hB.cell 1
   simp at hab hab1
   go_quiet (fail)
   go_wp2_with fail
   go_ret
   exact ⟨rfl, hB.tail.drewN _, kB.drewN _⟩
 obtain ⟨i, hi⟩ : ∃ i : Nat, hsl = i + 1 := ⟨(hsl - 1).toNat, by omega⟩
 have hin : i < n := by omega
 obtain ⟨s, hsi⟩ : ∃ s, A[i]? = some s := ⟨_, List.getElem?_eq_getElem (by rw [hn]; exact hin)⟩
 rcases (hv.pull 1).tForm with ⟨hv2, hp⟩ | ⟨g, off, cap', hv2⟩
 · rw [hp] at hsi; simp at hsi
 rw [hn] at hv2
 simp only [Value.slice.injEq] at hv2
 obtain ⟨rfl, -, rfl⟩ := hv2
 have x0 := (hv.pull 1).tCell len_fKL i 0 hsi rfl
 have x1 := (hv.pull 1).tCell len_fKL i 1 hsi rfl
 rw [Nat.add_zero] at x0
 have hcap := (hv.pull 1).tCap
 have hgl := (hv.pull 1).rowBlock
 obtain ⟨hc1, -, hc2⟩ := hcap
 unfold maxLen at hc2
 have e1 : IntKind.i64.wrap (hsl - 1) = (i : Int) := by rw [IntWalk.i64_in _ (by omega)]; omega
 have i0' : (0 : Int) ≤ (i : Int) := by omega
 have i1' : (i : Int) < (n : Int) := by omega
 cases hu : s.used with
 | false =>
   rw [hu] at x1
   clear hno hs hv hn hsi hc1 hi hu
   go_enter Tryz.func110, Tryz.ntmps110
   go_upto_region 1 with (fail)
   have hab := hB.cell 0
   have hab1 := hB.cell 1
   simp at hab hab1
   go_quiet (fail)
   go_wp2_with fail
   go_quiet (fail)
   go_wp2_with fail
   go_quiet (fail)
   go_wp2_with fail
   go_ret
   exact ⟨rfl, ((hB.tail.drewN _).drewN _).drewN _, ((kB.drewN _).drewN _).drewN _⟩
 | true =>
   rw [hu] at x1
   have hg : (s.gen != hgn) = true := by
     have : s.gen ≠ hgn := fun e => hno s ⟨i, hi, hsi, hu, e⟩
     simpa using this
   clear hno hs hv hn hsi hc1 hi hu
   go_enter Tryz.func110, Tryz.ntmps110
   go_upto_region 1 with (fail)
   have hab := hB.cell 0
   have hab1 := hB.cell 1
   simp at hab hab1
   go_quiet (fail)
   go_wp2_with fail
   go_quiet (fail)
   go_wp2_with fail
   go_quiet (fail)
   go_wp2_with fail
   go_ret
   exact ⟨rfl, ((hB.tail.drewN _).drewN _).drewN _, ((kB.drewN _).drewN _).drewN _⟩
theorem arenaK_get_no {w : World} {l : List HProp} {a : Nat} {most : Int} {A : List SlotK} {F : List Int} {h : Hd} (hs : Sat w (arenaK a most A F :: l)) (hno : ∀ s, ¬ InA A h s) :
   Calls Tryz.prog 82 #[.pointer (some ⟨a, 0, none⟩), .agg #[.int .i64 h.s, .int .i64 h.g]] w fun e w' => e = .returned (.tuple #[.agg #[.int .i64 0, .string ⟨#[]⟩, .int .i64 0, .bool false, .int .i64 0, .int .i64 0, .int .i64 0, .int .i64 0, .int .i64 0], .bool false]) ∧ Sat w' (arenaK a most A F :: l) ∧ Kp w w' := by
 have hB := (hs.alloc (.cells #[.int .i64 h.s, .int .i64 h.g] 56)).alloc (.cells #[.int .i64 0, .string ⟨#[]⟩, .int .i64 0, .bool false, .int .i64 0, .int .i64 0, .int .i64 0, .int .i64 0, .int .i64 0] 75)
 have kB := ((Kp.refl w).alloc (.cells #[.int .i64 h.s, .int .i64 h.g] 56)).alloc (.cells #[.int .i64 0, .string ⟨#[]⟩, .int .i64 0, .bool false, .int .i64 0, .int .i64 0, .int .i64 0, .int .i64 0, .int .i64 0] 75)
 simp only [World.size_alloc] at hB
 go_enter Tryz.func82, Tryz.ntmps82
 go_upto_region 1 with (fail)
 generalize World.alloc _ _ = w1 at hB kB ⊢
 generalize w.heap.size + 1 = R at hB ⊢
 generalize w.heap.size = B at hB ⊢
 have b0 := (hB.pull 1).cell 0
 have b1 := (hB.pull 1).cell 1
 simp at b0 b1
 have hfi := arenaK_find_no (hB.pull 2) hno
 go_wp2_with fail
 refine hfi.mono ?_
 rintro e w2 ⟨rfl, h2, k2⟩
 have k2 := kB.trans k2
 clear hfi hB kB b0 b1
 have hC := h2.alloc (.cells #[.int .i64 0, .string ⟨#[]⟩, .int .i64 0, .bool false, .int .i64 0, .int .i64 0, .int .i64 0, .int .i64 0, .int .i64 0] 75)
 have kC := k2.alloc (.cells #[.int .i64 0, .string ⟨#[]⟩, .int .i64 0, .bool false, .int .i64 0, .int .i64 0, .int .i64 0, .int .i64 0, .int .i64 0] 75)
 go_upto_region 4 with (fail)
 generalize World.alloc _ _ = w3 at hC kC ⊢
 generalize w2.heap.size = Q at hC ⊢
 clear h2 k2
 have q0 := (hC).cell 0
 have q1 := (hC).cell 1
 have q2 := (hC).cell 2
 have q3 := (hC).cell 3
 have q4 := (hC).cell 4
 have q5 := (hC).cell 5
 have q6 := (hC).cell 6
 have q7 := (hC).cell 7
 have q8 := (hC).cell 8
 simp at q0 q1 q2 q3 q4 q5 q6 q7 q8
 have r0 := (hC.pull 2).cell 0
 have r1 := (hC.pull 2).cell 1
 have r2 := (hC.pull 2).cell 2
 have r3 := (hC.pull 2).cell 3
 have r4 := (hC.pull 2).cell 4
 have r5 := (hC.pull 2).cell 5
 have r6 := (hC.pull 2).cell 6
 have r7 := (hC.pull 2).cell 7
 have r8 := (hC.pull 2).cell 8
 have rf0 := (hC.pull 2).free 0
 have rf1 := (hC.pull 2).free 1
 have rf2 := (hC.pull 2).free 2
 have rf3 := (hC.pull 2).free 3
 have rf4 := (hC.pull 2).free 4
 have rf5 := (hC.pull 2).free 5
 have rf6 := (hC.pull 2).free 6
 have rf7 := (hC.pull 2).free 7
 have rf8 := (hC.pull 2).free 8
 simp at r0 r1 r2 r3 r4 r5 r6 r7 r8
 obtain ⟨c', hE⟩ := Sat.putB [.int .i64 0, .string ⟨#[]⟩, .int .i64 0, .bool false, .int .i64 0, .int .i64 0, .int .i64 0, .int .i64 0, .int .i64 0] 0 (hC.pull 2)
 have kE := Kp.putCells (g := R) [.int .i64 0, .string ⟨#[]⟩, .int .i64 0, .bool false, .int .i64 0, .int .i64 0, .int .i64 0, .int .i64 0, .int .i64 0] 0 kC
 simp only [World.putCells, Nat.zero_add, Nat.reduceAdd] at hE kE
 have HE := Lib.hid hE
 clear hE
 go_wp2_with fail
 exact bodyPost_ret (v := .tuple #[.agg #[.int .i64 0, .string ⟨#[]⟩, .int .i64 0, .bool false, .int .i64 0, .int .i64 0, .int .i64 0, .int .i64 0, .int .i64 0], .bool false]) (by simp [results, Tryz.results82, go_sem, r0, r1, r2, r3, r4, r5, r6, r7, r8, rf0, rf1, rf2, rf3, rf4, rf5, rf6, rf7, rf8]) rfl ⟨rfl, HE.out.tail.tail.swap.tail, kE⟩
theorem arenaK_get {w : World} {l : List HProp} {a : Nat} {most : Int} {A : List SlotK} {F : List Int} {h : Hd} {s : SlotK} (hs : Sat w (arenaK a most A F :: l)) (hin : InA A h s) :
   Calls Tryz.prog 82 #[.pointer (some ⟨a, 0, none⟩), .agg #[.int .i64 h.s, .int .i64 h.g]] w fun e w' => e = .returned (.tuple #[.agg #[.int .i64 s.k.up, .string s.k.name, .int .i64 s.k.node, .bool s.v, .int .i64 s.lh.s, .int .i64 s.lh.g, .int .i64 s.rh.s, .int .i64 s.rh.g, .int .i64 s.hi], .bool true]) ∧ Sat w' (arenaK a most A F :: l) ∧ Kp w w' := by
 obtain ⟨i, hh, hi, hu, hg⟩ := hin
 obtain ⟨vs, vf, hv⟩ := arenaK_E hs
 rcases (hv.pull 1).tForm with ⟨hv2, hp⟩ | ⟨g, off, cap, hv2⟩
 · rw [hp] at hi; simp at hi
 obtain ⟨n, hn⟩ : ∃ n, A.length = n := ⟨_, rfl⟩
 rw [hn] at hv2
 subst hv2
 have hB := (hv.alloc (.cells #[.int .i64 h.s, .int .i64 h.g] 56)).alloc (.cells #[.int .i64 0, .string ⟨#[]⟩, .int .i64 0, .bool false, .int .i64 0, .int .i64 0, .int .i64 0, .int .i64 0, .int .i64 0] 75)
 have kB := ((Kp.refl w).alloc (.cells #[.int .i64 h.s, .int .i64 h.g] 56)).alloc (.cells #[.int .i64 0, .string ⟨#[]⟩, .int .i64 0, .bool false, .int .i64 0, .int .i64 0, .int .i64 0, .int .i64 0, .int .i64 0] 75)
 simp only [World.size_alloc] at hB
 have HI := Lib.hid hi
 have HH := Lib.hid hh
 have HU := Lib.hid hu
 have HG := Lib.hid hg
 clear hi hh hu hg hn hs hv
 go_enter Tryz.func82, Tryz.ntmps82
 go_upto_region 1 with (fail)
 generalize World.alloc _ _ = w1 at hB kB ⊢
 generalize w.heap.size + 1 = R at hB ⊢
 generalize w.heap.size = B at hB ⊢
 have b0 := (hB.pull 1).cell 0
 have b1 := (hB.pull 1).cell 1
 simp at b0 b1
 have hfi := arenaK_find_yes ((hB.pull 2).pull 3 |>.swap) HI.out HH.out HU.out HG.out
 go_wp2_with fail
 refine hfi.mono ?_
 rintro e w2 ⟨rfl, h2, k2⟩
 have k2 := kB.trans k2
 clear hfi hB kB b0 b1
 have x2 := (h2.pull 1).tCell len_fKL i 2 HI.out rfl
 have x3 := (h2.pull 1).tCell len_fKL i 3 HI.out rfl
 have x4 := (h2.pull 1).tCell len_fKL i 4 HI.out rfl
 have x5 := (h2.pull 1).tCell len_fKL i 5 HI.out rfl
 have x6 := (h2.pull 1).tCell len_fKL i 6 HI.out rfl
 have x7 := (h2.pull 1).tCell len_fKL i 7 HI.out rfl
 have x8 := (h2.pull 1).tCell len_fKL i 8 HI.out rfl
 have x9 := (h2.pull 1).tCell len_fKL i 9 HI.out rfl
 have x10 := (h2.pull 1).tCell len_fKL i 10 HI.out rfl
 have hgl := (h2.pull 1).rowBlock
 have r0 := (h2.pull 2).cell 0
 have r1 := (h2.pull 2).cell 1
 have r2 := (h2.pull 2).cell 2
 have r3 := (h2.pull 2).cell 3
 have r4 := (h2.pull 2).cell 4
 have r5 := (h2.pull 2).cell 5
 have r6 := (h2.pull 2).cell 6
 have r7 := (h2.pull 2).cell 7
 have r8 := (h2.pull 2).cell 8
 have rf0 := (h2.pull 2).free 0
 have rf1 := (h2.pull 2).free 1
 have rf2 := (h2.pull 2).free 2
 have rf3 := (h2.pull 2).free 3
 have rf4 := (h2.pull 2).free 4
 have rf5 := (h2.pull 2).free 5
 have rf6 := (h2.pull 2).free 6
 have rf7 := (h2.pull 2).free 7
 have rf8 := (h2.pull 2).free 8
 simp at r0 r1 r2 r3 r4 r5 r6 r7 r8
 obtain ⟨c', hE⟩ := Sat.putB [.int .i64 s.k.up, .string s.k.name, .int .i64 s.k.node, .bool s.v, .int .i64 s.lh.s, .int .i64 s.lh.g, .int .i64 s.rh.s, .int .i64 s.rh.g, .int .i64 s.hi] 0 (h2.pull 2)
 have kE := Kp.putCells (g := R) [.int .i64 s.k.up, .string s.k.name, .int .i64 s.k.node, .bool s.v, .int .i64 s.lh.s, .int .i64 s.lh.g, .int .i64 s.rh.s, .int .i64 s.rh.g, .int .i64 s.hi] 0 k2
 simp only [World.putCells, Nat.zero_add, Nat.reduceAdd] at hE kE
 have HE := Lib.hid hE
 clear hE
 go_wp2_with fail
 exact bodyPost_ret (v := .tuple #[.agg #[.int .i64 s.k.up, .string s.k.name, .int .i64 s.k.node, .bool s.v, .int .i64 s.lh.s, .int .i64 s.lh.g, .int .i64 s.rh.s, .int .i64 s.rh.g, .int .i64 s.hi], .bool true]) (by simp [results, Tryz.results82, go_sem, r0, r1, r2, r3, r4, r5, r6, r7, r8, rf0, rf1, rf2, rf3, rf4, rf5, rf6, rf7, rf8]) rfl ⟨rfl, arenaK_I ((HE.out.tail.pull 2).tail), kE⟩
theorem arenaK_next_push {w : World} {l : List HProp} {a : Nat} {most : Int} {A : List SlotK} (hs : Sat w (arenaK a most A [] :: l)) (hA : A.length ≤ 1048576) :
   Calls Tryz.prog 210 #[.pointer (some ⟨a, 0, none⟩)] w fun e w' => e = .returned (.int .i64 ((A.length : Int) + 1)) ∧ Sat w' (arenaK a most (A ++ [zeroK]) [] :: l) ∧ Kp w w' := by
 obtain ⟨i1, hj, hy0, hy1, hy2⟩ := info_parts Tryz.infoSlotK
 obtain ⟨vs, vf, hv⟩ := arenaK_E hs
 obtain ⟨sao, scap, hsv⟩ := (hv.pull 1).tLen
 obtain ⟨fao, fcap, hfv⟩ := (hv.pull 2).tLen
 obtain ⟨n, hn⟩ : ∃ n, A.length = n := ⟨_, rfl⟩
 rw [hn] at hsv hA ⊢
 rw [List.length_nil] at hfv
 subst hsv hfv
 have HN := Lib.hid hn
 have c1 := hv.cell 1
 have c2 := hv.cell 2
 have f1 := hv.free 1
 simp at c1 c2
 have hal := hv.lt
 have e2 : rowT fKL (.slice sao n scap) 197 11 A = row (.slice sao n scap) 197 11 n (A.flatMap fKL) := by unfold rowT; rw [hn]
 have hv2 := hv
 rw [e2] at hv2
 clear e2 hn
 go_enter Tryz.func210, Tryz.ntmps210
 have hX := hv2.alloc (.cells #[.int .i64 0, .bool false, .int .i64 0, .string ⟨#[]⟩, .int .i64 0, .bool false, .int .i64 0, .int .i64 0, .int .i64 0, .int .i64 0, .int .i64 0] 197)
 have kX := (Kp.refl w).alloc (.cells #[.int .i64 0, .bool false, .int .i64 0, .string ⟨#[]⟩, .int .i64 0, .bool false, .int .i64 0, .int .i64 0, .int .i64 0, .int .i64 0, .int .i64 0] 197)
 go_wp2_with (at_builtin; refine wpList_append_lit rfl (.tmp 16) (.tmp 18) 210 rfl 197 i1 _ 11 96 Tryz.underlying210 hj hy0 hy1 hy2 rfl (by decide) _ _ _ _ _ _ _ rfl (hX.pull 2) 1 1 rfl rfl rfl ?c3 ?c4 ?c5)
 case c3 => unfold maxLen; omega
 case c4 => omega
 case c5 =>
   intro v' w5 hs5 hk5
   rw [show n + 1 = A.length + 1 by rw [HN.out]] at hs5
   have h7 := Sat.tSnoc (f := fKL) (x := zeroK) hs5 rfl
   have h8 := (h7.pull 1).tail
   obtain ⟨vao, vcap, hv'⟩ := h8.tLen
   rw [show (A ++ [zeroK]).length = n + 1 by rw [List.length_append, HN.out]; rfl] at hv'
   subst hv'
   have t1 := (h8.pull 1).cell 1
   have tf := (h8.pull 1).free 1
   simp at t1
   have h9 := (h8.pull 1).set 1 (.slice vao (n + 1) vcap)
   have k9 := (kX.trans hk5).setCell ⟨a, 1, none⟩ (.slice vao (n + 1) vcap)
   have H9 := Lib.hid (arenaK_I h9)
   clear hs5 h7 h8 h9 hX hv hv2 hs
   go_wp2_with fail
   go_ret
   exact ⟨rfl, H9.out, k9⟩
theorem len_flatU2 {α : Type} {f : α → List Value} {size : Nat} (hf : ∀ x, (f x).length = size) : ∀ xs : List α, (xs.flatMap f).length = xs.length * size
 | [] => by simp
 | x :: xs => by rw [List.flatMap_cons, List.length_append, len_flatU2 hf xs, hf, List.length_cons, Nat.add_mul]; omega
/-- A slice, without its last element. -/
theorem Sat.tShort2 {α : Type} {f : α → List Value} {w : World} {e : TypeId} {size : Nat} {xs : List α} {x : α} {l : List HProp} {g off n cap : Nat} (hf : ∀ x, (f x).length = size) (hs : Sat w (rowT f (.slice (some ⟨g, off, none⟩) n cap) e size (xs ++ [x]) :: l)) :
   Sat w (rowT f (.slice (some ⟨g, off, none⟩) xs.length cap) e size xs :: l) := by
 rcases (Sat.rowE hs).2 with ⟨h, _⟩ | ⟨g', off', cap', cur, h, h1, h2, h3, h4, h5⟩
 · simp at h
 simp only [Value.slice.injEq, Option.some.injEq, Addr.mk.injEq, and_true] at h
 obtain ⟨⟨rfl, rfl⟩, rfl, rfl⟩ := h
 have hl : (xs ++ [x]).length = xs.length + 1 := by simp
 have h6 := h5.rowI (off := off) (size := size) (n := xs.length) (cap := cap) (by omega) h2 h3
 refine h6.tOf xs rfl ?_
 have hlen : (xs.flatMap f).length = xs.length * size := len_flatU2 hf xs
 have h7 : (cur.toList.drop off).take (xs.length * size) = ((cur.toList.drop off).take ((xs ++ [x]).length * size)).take (xs.length * size) := by
   rw [List.take_take, Nat.min_eq_left]
   exact Nat.mul_le_mul_right _ (by omega)
 rw [h7, h4, List.flatMap_append, ← hlen]
 exact List.take_left
theorem Sat.tPut2 {α : Type} {f : α → List Value} {w : World} {e : TypeId} {size : Nat} {xs : List α} {l : List HProp} {g off n cap : Nat} (hf : ∀ x, (f x).length = size) (hs : Sat w (rowT f (.slice (some ⟨g, off, none⟩) n cap) e size xs :: l)) (i : Nat) (y : α) (hi : i < xs.length) :
   Sat (World.putCells w g (off + i * size) (f y)) (rowT f (.slice (some ⟨g, off, none⟩) n cap) e size (xs.set i y) :: l) := by
 obtain ⟨_, hn, _⟩ := hs.tCap
 rw [hn] at hs ⊢
 exact hs.tPut hf i y hi
theorem setAll_append (l : List Value) : ∀ (us vs : List Value) (j : Nat), setAll l j (us ++ vs) = setAll (setAll l j us) (j + us.length) vs := by
 intro us
 induction us generalizing l with
 | nil => intro vs j; rfl
 | cons u us ih =>
   intro vs j
   show setAll (l.set j u) (j + 1) (us ++ vs) = setAll (setAll (l.set j u) (j + 1) us) (j + (u :: us).length) vs
   rw [ih]
   congr 1
   simp
   omega
theorem setAll_same (l : List Value) : ∀ (us : List Value) (j : Nat), (∀ m u, us[m]? = some u → l[j + m]? = some u) → setAll l j us = l
 | [], j, _ => rfl
 | u :: us, j, h => by
   have h0 := h 0 u rfl
   rw [Nat.add_zero] at h0
   have e : l.set j u = l := by
     apply List.ext_getElem?
     intro i
     by_cases hi : j = i
     · subst hi
       rw [List.getElem?_set_self (List.getElem?_eq_some_iff.1 h0).1, h0]
     · rw [List.getElem?_set_ne hi]
   show setAll (l.set j u) (j + 1) us = l
   rw [e]
   exact setAll_same l us (j + 1) fun m v hm => by
     have := h (m + 1) v hm
     rwa [show j + (m + 1) = j + 1 + m by omega] at this
/-- The cells of an element from the k-th on: the first k are as they were. -/
theorem Sat.tPutFrom {α : Type} {f : α → List Value} {w : World} {e : TypeId} {size : Nat} {xs : List α} {x : α} {l : List HProp} {g off n cap : Nat} (hf : ∀ x, (f x).length = size) (hs : Sat w (rowT f (.slice (some ⟨g, off, none⟩) n cap) e size xs :: l)) (i k : Nat) (y : α) (hx : xs[i]? = some x) (hk : (f x).take k = (f y).take k) (hks : k ≤ size) :
   Sat (World.putCells w g (off + i * size + k) ((f y).drop k)) (rowT f (.slice (some ⟨g, off, none⟩) n cap) e size (xs.set i y) :: l) := by
 obtain ⟨_, hn, _⟩ := hs.tCap
 rw [hn] at hs ⊢
 have hi := (List.getElem?_eq_some_iff.1 hx).1
 have h := Sat.rowPut ((f y).drop k) (i * size + k) hs
 have e1 : setAll (xs.flatMap f) (i * size + k) ((f y).drop k) = (xs.set i y).flatMap f := by
   rw [← setAll_flat hf xs i y hi]
   conv => rhs; rw [← List.take_append_drop k (f y)]
   rw [setAll_append]
   have hl : ((f y).take k).length = k := by rw [List.length_take, hf]; omega
   have hsame : setAll (xs.flatMap f) (i * size) ((f y).take k) = xs.flatMap f := by
     refine setAll_same _ _ _ fun m u hm => ?_
     have hmk : m < k := by have := (List.getElem?_eq_some_iff.1 hm).1; omega
     rw [get_flat hf xs i m x hx (by omega)]
     rw [← hk, List.getElem?_take, if_pos hmk] at hm
     exact hm
   rw [hl, hsame]
 rw [e1] at h
 unfold rowT
 rw [List.length_set, Nat.add_assoc]
 exact h
theorem arenaK_next_pop {w : World} {l : List HProp} {a : Nat} {most : Int} {A : List SlotK} {F : List Int} {x : Int} (hs : Sat w (arenaK a most A (F ++ [x]) :: l)) (hF : F.length ≤ 1048576) :
   Calls Tryz.prog 210 #[.pointer (some ⟨a, 0, none⟩)] w fun e w' => e = .returned (.int .i64 x) ∧ Sat w' (arenaK a most A F :: l) ∧ Kp w w' := by
 obtain ⟨vs, vf, hv⟩ := arenaK_E hs
 rcases (hv.pull 2).tForm with ⟨_, hp⟩ | ⟨g, off, cap, hfv⟩
 · simp at hp
 obtain ⟨k, hk⟩ : ∃ k, k = F.length := ⟨_, rfl⟩
 have hll : (F ++ [x]).length = k + 1 := by simp [hk]
 rw [hll] at hfv
 obtain ⟨n, hnk⟩ : ∃ n, n = k + 1 := ⟨_, rfl⟩
 rw [← hnk] at hfv
 subst hfv
 have hcap := (hv.pull 2).tCap
 rw [hll] at hcap
 have hcap1 : n ≤ cap := by omega
 have hcap2 := hcap.2.2
 unfold maxLen at hcap2
 rw [← hk] at hF
 have HK := Lib.hid hk
 have x0 := (hv.pull 2).tCellI k x (by rw [hk]; simp)
 have c2 := hv.cell 2
 have f2 := hv.free 2
 simp at c2
 have hal := hv.lt
 have hne0 : ((n : Int) == 0) = false := by rw [beq_eq_false_iff_ne]; omega
 have i0' : (0 : Int) ≤ (k : Int) := by omega
 have i1' : (k : Int) < (n : Int) := by omega
 have i2' : (k : Int) ≤ (cap : Int) := by omega
 have hsub : IntKind.i64.wrap ((n : Int) - 1) = (k : Int) := by rw [hnk]; push_cast; rw [IntWalk.i64_in _ (by omega)]; omega
 have h1 := hv.set 2 (.slice (some ⟨g, off, none⟩) k cap)
 have k1 := (Kp.refl w).setCell ⟨a, 2, none⟩ (.slice (some ⟨g, off, none⟩) k cap)
 have h2 := Sat.tShort2 (f := fI) (fun _ => rfl) (h1.pull 2)
 rw [← hk] at h2
 have H3 := Lib.hid (arenaK_I (h2.push 2))
 clear h1 h2 hk hll hs hcap hnk hcap1 HK hv
 go_enter Tryz.func210, Tryz.ntmps210
 go_wp2_with fail
 go_ret
 exact ⟨rfl, H3.out, k1⟩
/-- What next comes to: slot j (number j + 1) is used next. -/
def NextAK (A : List SlotK) (F : List Int) (j : Nat) (s : SlotK) (A1 : List SlotK) (F1 : List Int) : Prop :=
 A1[j]? = some s ∧ ((F = [] ∧ A1 = A ++ [zeroK] ∧ j = A.length ∧ F1 = [] ∧ s = zeroK) ∨ (F = F1 ++ [(j + 1 : Int)] ∧ A1 = A))
theorem arenaK_next {w : World} {l : List HProp} {a : Nat} {most : Int} {A : List SlotK} {F : List Int} {G : Nat} (hs : Sat w (arenaK a most A F :: l)) (hW : WfA A F G) (hA : A.length ≤ 1048576) (hF : F.length ≤ 1048576) :
   Calls Tryz.prog 210 #[.pointer (some ⟨a, 0, none⟩)] w fun e w' => ∃ (j : Nat) (s : SlotK) (A1 : List SlotK) (F1 : List Int), e = .returned (.int .i64 ((j : Int) + 1)) ∧ NextAK A F j s A1 F1 ∧ Sat w' (arenaK a most A1 F1 :: l) ∧ Kp w w' := by
 rcases List.eq_nil_or_concat F with rfl | ⟨F', x, rfl⟩
 · exact (arenaK_next_push hs hA).mono fun e w' ⟨h1, h2, h3⟩ => ⟨A.length, zeroK, _, _, h1, ⟨by simp, .inl ⟨rfl, rfl, rfl, rfl, rfl⟩⟩, h2, h3⟩
 · rw [List.concat_eq_append] at *
   obtain ⟨j, rfl, s, hj, _⟩ := hW.free x (by simp)
   exact (arenaK_next_pop hs (by simp at hF; omega)).mono fun e w' ⟨h1, h2, h3⟩ => ⟨j, s, _, _, h1, ⟨hj, .inr ⟨rfl, rfl⟩⟩, h2, h3⟩
/-- What Put makes of that. -/
theorem next_putK {A : List SlotK} {F : List Int} {j : Nat} {s x : SlotK} {A1 : List SlotK} {F1 : List Int} {G : Nat} (most : Int) (hW : WfA A F G) (h : NextAK A F j s A1 F1) : WfA (A1.set j (usedS (s.gen + 1) x)) F1 (G + 1) ∧ PutA most A F x (A1.set j (usedS (s.gen + 1) x)) F1 ⟨j + 1, s.gen + 1⟩ := by
 obtain ⟨h1, ⟨rfl, rfl, rfl, rfl, rfl⟩ | ⟨rfl, rfl⟩⟩ := h
 · have e : (A ++ [zeroK]).set A.length (usedS (zeroK.gen + 1) x) = A ++ [usedS 1 x] := by simp [zeroK]
   rw [e]
   exact put_push most hW x
 · exact put_again most hW h1 x
theorem arenaK_put {w : World} {l : List HProp} {a : Nat} {most : Int} {A : List SlotK} {F : List Int} {G : Nat} (x : SlotK) (hs : Sat w (arenaK a most A F :: l)) (hW : WfA A F G) (h0 : 0 ≤ most) (h1 : most ≤ 1048576) (hA : A.length < 1048576) (hF : F.length ≤ 1048576) (hG : G < 1000000000000) (hroom : roomA most A F ≠ 0) :
   Calls Tryz.prog 187 #[.pointer (some ⟨a, 0, none⟩), .agg #[.int .i64 x.k.up, .string x.k.name, .int .i64 x.k.node, .bool x.v, .int .i64 x.lh.s, .int .i64 x.lh.g, .int .i64 x.rh.s, .int .i64 x.rh.g, .int .i64 x.hi]] w fun e w' => ∃ (h : Hd) (A' : List SlotK) (F' : List Int), e = .returned (.tuple #[.agg #[.int .i64 h.s, .int .i64 h.g], .bool true]) ∧ WfA A' F' (G + 1) ∧ PutA most A F x A' F' h ∧ Sat w' (arenaK a most A' F' :: l) ∧ Kp w w' := by
 have hB := (hs.alloc (.cells #[.int .i64 x.k.up, .string x.k.name, .int .i64 x.k.node, .bool x.v, .int .i64 x.lh.s, .int .i64 x.lh.g, .int .i64 x.rh.s, .int .i64 x.rh.g, .int .i64 x.hi] 75)).alloc (.cells #[.int .i64 0, .int .i64 0] 56)
 have kB := ((Kp.refl w).alloc (.cells #[.int .i64 x.k.up, .string x.k.name, .int .i64 x.k.node, .bool x.v, .int .i64 x.lh.s, .int .i64 x.lh.g, .int .i64 x.rh.s, .int .i64 x.rh.g, .int .i64 x.hi] 75)).alloc (.cells #[.int .i64 0, .int .i64 0] 56)
 simp only [World.size_alloc] at hB
 have HW := Lib.hid hW
 have hr0 : (roomA most A F == 0) = false := by rw [beq_eq_false_iff_ne]; exact hroom
 clear hW hroom
 go_enter Tryz.func187, Tryz.ntmps187
 go_upto_region 1 with (fail)
 generalize World.alloc _ _ = w1 at hB kB ⊢
 generalize w.heap.size + 1 = R at hB ⊢
 generalize w.heap.size = B at hB ⊢
 have hro := arenaK_room (hB.pull 2) h0 h1 (by omega) hF
 go_wp2_with fail
 refine hro.mono ?_
 rintro e w2 ⟨rfl, h2, k2⟩
 have k2 := kB.trans k2
 clear hro hB kB
 have hne := arenaK_next h2 HW.out (by omega) hF
 go_wp2_with fail
 refine hne.mono ?_
 rintro e w3 ⟨j, s, A1, F1, rfl, hN, h3, k3⟩
 have k3 := k2.trans k3
 clear hne h2 k2
 have HN := Lib.hid hN
 have hj := hN.1
 clear hN
 have hsg := (next_putK (x := x) most HW.out HN.out).1.gen (usedS (s.gen + 1) x) (List.mem_of_getElem? (i := j) (List.getElem?_set_self (List.getElem?_eq_some_iff.1 hj).1))
 have hsg1 : -1 ≤ s.gen := by have : (usedS (s.gen + 1) x).gen = s.gen + 1 := rfl; omega
 have hsg2 : s.gen ≤ G := by have : (usedS (s.gen + 1) x).gen = s.gen + 1 := rfl; push_cast at hsg; omega
 obtain ⟨vs, vf, hv⟩ := arenaK_E h3
 rcases (hv.pull 1).tForm with ⟨hv2, hp⟩ | ⟨g, off, cap, hv2⟩
 · rw [hp] at hj; simp at hj
 have hjl := (List.getElem?_eq_some_iff.1 hj).1
 have HJL := Lib.hid hjl
 obtain ⟨n, hn⟩ : ∃ n, A1.length = n := ⟨_, rfl⟩
 rw [hn] at hv2 hjl
 subst hv2
 have hcap := (hv.pull 1).tCap
 have hc2 := hcap.2.2
 have hnc : n ≤ cap := by rw [← hn]; exact hcap.1
 unfold maxLen at hc2
 have HJ := Lib.hid hj
 clear hn hcap
 have c1 := hv.cell 1
 simp at c1
 have hal := hv.lt
 have hgl := (hv.pull 1).rowBlock
 have hjs : IntKind.i64.wrap ((j : Int) + 1 - 1) = (j : Int) := by rw [IntWalk.i64_in _ (by omega)]; omega
 have j0' : (0 : Int) ≤ (j : Int) := by omega
 have j1' : (j : Int) < (n : Int) := by omega
 have hgw : IntKind.i64.wrap (s.gen + 1) = s.gen + 1 := by rw [IntWalk.i64_in _ (by omega)]
 have x0 := (hv.pull 1).tCell len_fKL j 0 HJ.out rfl
 have x1 := (hv.pull 1).tCell len_fKL j 1 HJ.out rfl
 have x2 := (hv.pull 1).tCell len_fKL j 2 HJ.out rfl
 have x3 := (hv.pull 1).tCell len_fKL j 3 HJ.out rfl
 have x4 := (hv.pull 1).tCell len_fKL j 4 HJ.out rfl
 have x5 := (hv.pull 1).tCell len_fKL j 5 HJ.out rfl
 have x6 := (hv.pull 1).tCell len_fKL j 6 HJ.out rfl
 have x7 := (hv.pull 1).tCell len_fKL j 7 HJ.out rfl
 have x8 := (hv.pull 1).tCell len_fKL j 8 HJ.out rfl
 have x9 := (hv.pull 1).tCell len_fKL j 9 HJ.out rfl
 have x10 := (hv.pull 1).tCell len_fKL j 10 HJ.out rfl
 rw [Nat.add_zero] at x0
 have z0 := (hv.pull 1).rowFree ((off + j * 11) + 0)
 have z1 := (hv.pull 1).rowFree ((off + j * 11) + 1)
 have z2 := (hv.pull 1).rowFree ((off + j * 11) + 2)
 have z3 := (hv.pull 1).rowFree ((off + j * 11) + 3)
 have z4 := (hv.pull 1).rowFree ((off + j * 11) + 4)
 have z5 := (hv.pull 1).rowFree ((off + j * 11) + 5)
 have z6 := (hv.pull 1).rowFree ((off + j * 11) + 6)
 have z7 := (hv.pull 1).rowFree ((off + j * 11) + 7)
 have z8 := (hv.pull 1).rowFree ((off + j * 11) + 8)
 have z9 := (hv.pull 1).rowFree ((off + j * 11) + 9)
 have z10 := (hv.pull 1).rowFree ((off + j * 11) + 10)
 rw [Nat.add_zero] at z0
 have b0 := (hv.pull 4).cell 0
 have b1 := (hv.pull 4).cell 1
 have b2 := (hv.pull 4).cell 2
 have b3 := (hv.pull 4).cell 3
 have b4 := (hv.pull 4).cell 4
 have b5 := (hv.pull 4).cell 5
 have b6 := (hv.pull 4).cell 6
 have b7 := (hv.pull 4).cell 7
 have b8 := (hv.pull 4).cell 8
 simp at b0 b1 b2 b3 b4 b5 b6 b7 b8
 have h5 := (hv.pull 1).tPut2 len_fKL j (usedS (s.gen + 1) x) HJL.out
 have k5 := Kp.putCells (g := g) (fKL (usedS (s.gen + 1) x)) (off + j * 11) k3
 have hgB := ((hv.pull 4).pull 2).rowNe
 have hBg : B ≠ g := hgB.symm
 go_upto_region 5 with (fail)
 go_region
 have h5 := h5.drew
 have k5 := k5.drew
 change Exit.then _ _ _ _ (World.drew (World.putCells w3 g (off + j * 11) (fKL (usedS (s.gen + 1) x))))
 generalize World.drew _ = w5 at h5 k5 ⊢
 have HP := Lib.hid (next_putK (x := x) most HW.out HN.out)
 clear hv h3 x0 x1 x2 x3 x4 x5 x6 x7 x8 x9 x10 z0 z1 z2 z3 z4 z5 z6 z7 z8 z9 z10 b0 b1 b2 b3 b4 b5 b6 b7 b8 k3 c1 hgB hBg hgl hal hj hsg
 have y0 := h5.tCell len_fKL j 0 (x := usedS (s.gen + 1) x) (by rw [List.getElem?_set_self HJL.out]) rfl
 rw [Nat.add_zero] at y0
 change _ = some (Value.int .i64 (s.gen + 1)) at y0
 have hgl := h5.rowBlock
 have r0 := (h5.pull 3).cell 0
 have r1 := (h5.pull 3).cell 1
 have rf0 := (h5.pull 3).free 0
 have rf1 := (h5.pull 3).free 1
 simp at r0 r1
 have h6 := ((h5.pull 3).set 0 (.int .i64 ((j : Int) + 1))).set 1 (.int .i64 (s.gen + 1))
 have k6 := (k5.setCell ⟨R, 0, none⟩ (.int .i64 ((j : Int) + 1))).setCell ⟨R, 1, none⟩ (.int .i64 (s.gen + 1))
 have H6 := Lib.hid (arenaK_I ((h6.tail.swap.pull 3).tail))
 go_wp2_with fail
 exact bodyPost_ret (v := .tuple #[.agg #[.int .i64 ((j : Int) + 1), .int .i64 (s.gen + 1)], .bool true]) (by simp [results, Tryz.results187, go_sem, r0, r1, rf0, rf1]) rfl ⟨⟨(j : Int) + 1, s.gen + 1⟩, _, _, rfl, HP.out.1, HP.out.2, H6.out, k6⟩
theorem arenaK_put_full {w : World} {l : List HProp} {a : Nat} {most : Int} {A : List SlotK} {F : List Int} (x : SlotK) (hs : Sat w (arenaK a most A F :: l)) (h0 : 0 ≤ most) (h1 : most ≤ 1048576) (hA : A.length ≤ 1048576) (hF : F.length ≤ 1048576) (hroom : roomA most A F = 0) :
   Calls Tryz.prog 187 #[.pointer (some ⟨a, 0, none⟩), .agg #[.int .i64 x.k.up, .string x.k.name, .int .i64 x.k.node, .bool x.v, .int .i64 x.lh.s, .int .i64 x.lh.g, .int .i64 x.rh.s, .int .i64 x.rh.g, .int .i64 x.hi]] w fun e w' => e = .returned (.tuple #[.agg #[.int .i64 0, .int .i64 0], .bool false]) ∧ Sat w' (arenaK a most A F :: l) ∧ Kp w w' := by
 have hB := (hs.alloc' (.cells #[.int .i64 x.k.up, .string x.k.name, .int .i64 x.k.node, .bool x.v, .int .i64 x.lh.s, .int .i64 x.lh.g, .int .i64 x.rh.s, .int .i64 x.rh.g, .int .i64 x.hi] 75)).alloc (.cells #[.int .i64 0, .int .i64 0] 56)
 have kB := ((Kp.refl w).alloc (.cells #[.int .i64 x.k.up, .string x.k.name, .int .i64 x.k.node, .bool x.v, .int .i64 x.lh.s, .int .i64 x.lh.g, .int .i64 x.rh.s, .int .i64 x.rh.g, .int .i64 x.hi] 75)).alloc (.cells #[.int .i64 0, .int .i64 0] 56)
 simp only [World.size_alloc] at hB
 have hr0 : (roomA most A F == 0) = true := by rw [beq_iff_eq]; exact hroom
 clear hroom
 go_enter Tryz.func187, Tryz.ntmps187
 go_upto_region 1 with (fail)
 generalize World.alloc _ _ = w1 at hB kB ⊢
 generalize w.heap.size + 1 = R at hB ⊢
 have hro := arenaK_room (hB.pull 1) h0 h1 hA hF
 go_wp2_with fail
 refine hro.mono ?_
 rintro e w2 ⟨rfl, h2, k2⟩
 have k2 := kB.trans k2
 clear hro hB kB
 have r0 := (h2.pull 1).cell 0
 have r1 := (h2.pull 1).cell 1
 have rf0 := (h2.pull 1).free 0
 have rf1 := (h2.pull 1).free 1
 simp at r0 r1
 have h6 := ((h2.pull 1).set 0 (.int .i64 0)).set 1 (.int .i64 0)
 have k6 := (k2.setCell ⟨R, 0, none⟩ (.int .i64 0)).setCell ⟨R, 1, none⟩ (.int .i64 0)
 have H6 := Lib.hid h6.tail
 clear h6
 go_wp2_with fail
 exact bodyPost_ret (v := .tuple #[.agg #[.int .i64 0, .int .i64 0], .bool false]) (by simp [results, Tryz.results187, go_sem, r0, r1, rf0, rf1]) rfl ⟨rfl, H6.out, k6⟩
theorem arenaK_free_no {w : World} {l : List HProp} {a : Nat} {most : Int} {A : List SlotK} {F : List Int} {h : Hd} (hs : Sat w (arenaK a most A F :: l)) (hno : ∀ s, ¬ InA A h s) :
   Calls Tryz.prog 183 #[.pointer (some ⟨a, 0, none⟩), .agg #[.int .i64 h.s, .int .i64 h.g]] w fun e w' => e = .returned (.bool false) ∧ Sat w' (arenaK a most A F :: l) ∧ Kp w w' := by
 have hB := hs.alloc (.cells #[.int .i64 h.s, .int .i64 h.g] 56)
 have kB := (Kp.refl w).alloc (.cells #[.int .i64 h.s, .int .i64 h.g] 56)
 go_enter Tryz.func183, Tryz.ntmps183
 go_upto_region 1 with (fail)
 generalize World.alloc _ _ = w1 at hB kB ⊢
 generalize w.heap.size = B at hB ⊢
 have b0 := hB.cell 0
 have b1 := hB.cell 1
 simp at b0 b1
 have hfi := arenaK_find_no (hB.pull 1) hno
 go_wp2_with fail
 refine hfi.mono ?_
 rintro e w2 ⟨rfl, h2, k2⟩
 have k2 := kB.trans k2
 clear hfi hB kB b0 b1
 go_wp2_with fail
 go_ret
 exact ⟨rfl, (h2.pull 1).tail, k2⟩
/-- A slot in which nothing lies any more. -/
def offK (s : SlotK) : SlotK := { zeroK with gen := s.gen }
theorem arenaK_free {w : World} {l : List HProp} {a : Nat} {most : Int} {A : List SlotK} {F : List Int} {G : Nat} {h : Hd} {s : SlotK} (hs : Sat w (arenaK a most A F :: l)) (hW : WfA A F G) (hin : InA A h s) (hF : F.length ≤ 1048576) :
   Calls Tryz.prog 183 #[.pointer (some ⟨a, 0, none⟩), .agg #[.int .i64 h.s, .int .i64 h.g]] w fun e w' => ∃ (A' : List SlotK) (F' : List Int), e = .returned (.bool true) ∧ WfA A' F' G ∧ FreeA most A F h A' F' ∧ A'.length = A.length ∧ Sat w' (arenaK a most A' F' :: l) ∧ Kp w w' := by
 obtain ⟨i2, hj2, hz0, hz1, hz2⟩ := info_parts Tryz.infoIntK
 obtain ⟨i, hh, hi, hu, hg⟩ := hin
 have HP := Lib.hid (free_slot (z := offK s) most hW hi hh hu hg rfl rfl)
 obtain ⟨vs, vf, hv⟩ := arenaK_E hs
 rcases (hv.pull 1).tForm with ⟨hv2, hp⟩ | ⟨g, off, cap, hv2⟩
 · rw [hp] at hi; simp at hi
 obtain ⟨n, hn⟩ : ∃ n, A.length = n := ⟨_, rfl⟩
 rw [hn] at hv2
 subst hv2
 have hB := hv.alloc (.cells #[.int .i64 h.s, .int .i64 h.g] 56)
 have kB := (Kp.refl w).alloc (.cells #[.int .i64 h.s, .int .i64 h.g] 56)
 have HI := Lib.hid hi
 have HH := Lib.hid hh
 have HU := Lib.hid hu
 have HG := Lib.hid hg
 clear hi hh hu hg hn hs hv hW
 go_enter Tryz.func183, Tryz.ntmps183
 go_upto_region 1 with (fail)
 generalize World.alloc _ _ = w1 at hB kB ⊢
 generalize w.heap.size = B at hB ⊢
 have b0 := hB.cell 0
 have b1 := hB.cell 1
 simp at b0 b1
 have hfi := arenaK_find_yes ((hB.pull 1).pull 2 |>.swap) HI.out HH.out HU.out HG.out
 go_wp2_with fail
 refine hfi.mono ?_
 rintro e w2 ⟨rfl, h2, k2⟩
 have k2 := kB.trans k2
 clear hfi hB kB b0 b1
 have hC := h2.alloc (.cells #[.int .i64 0, .string ⟨#[]⟩, .int .i64 0, .bool false, .int .i64 0, .int .i64 0, .int .i64 0, .int .i64 0, .int .i64 0] 75)
 have kC := k2.alloc (.cells #[.int .i64 0, .string ⟨#[]⟩, .int .i64 0, .bool false, .int .i64 0, .int .i64 0, .int .i64 0, .int .i64 0, .int .i64 0] 75)
 go_upto_region 5 with (fail)
 generalize World.alloc _ _ = w3 at hC kC ⊢
 generalize w2.heap.size = Q at hC ⊢
 clear h2 k2
 have hgl := (hC.pull 2).rowBlock
 have hgQ := (hC.pull 2).rowNe
 have hQg : Q ≠ g := hgQ.symm
 have x0 := (hC.pull 2).tCell len_fKL i 0 HI.out rfl
 have x1 := (hC.pull 2).tCell len_fKL i 1 HI.out rfl
 have x2 := (hC.pull 2).tCell len_fKL i 2 HI.out rfl
 have x3 := (hC.pull 2).tCell len_fKL i 3 HI.out rfl
 have x4 := (hC.pull 2).tCell len_fKL i 4 HI.out rfl
 have x5 := (hC.pull 2).tCell len_fKL i 5 HI.out rfl
 have x6 := (hC.pull 2).tCell len_fKL i 6 HI.out rfl
 have x7 := (hC.pull 2).tCell len_fKL i 7 HI.out rfl
 have x8 := (hC.pull 2).tCell len_fKL i 8 HI.out rfl
 have x9 := (hC.pull 2).tCell len_fKL i 9 HI.out rfl
 have x10 := (hC.pull 2).tCell len_fKL i 10 HI.out rfl
 rw [Nat.add_zero] at x0
 have z0 := (hC.pull 2).rowFree ((off + i * 11) + 0)
 have z1 := (hC.pull 2).rowFree ((off + i * 11) + 1)
 have z2 := (hC.pull 2).rowFree ((off + i * 11) + 2)
 have z3 := (hC.pull 2).rowFree ((off + i * 11) + 3)
 have z4 := (hC.pull 2).rowFree ((off + i * 11) + 4)
 have z5 := (hC.pull 2).rowFree ((off + i * 11) + 5)
 have z6 := (hC.pull 2).rowFree ((off + i * 11) + 6)
 have z7 := (hC.pull 2).rowFree ((off + i * 11) + 7)
 have z8 := (hC.pull 2).rowFree ((off + i * 11) + 8)
 have z9 := (hC.pull 2).rowFree ((off + i * 11) + 9)
 have z10 := (hC.pull 2).rowFree ((off + i * 11) + 10)
 rw [Nat.add_zero] at z0
 have q0 := (hC).cell 0
 have q1 := (hC).cell 1
 have q2 := (hC).cell 2
 have q3 := (hC).cell 3
 have q4 := (hC).cell 4
 have q5 := (hC).cell 5
 have q6 := (hC).cell 6
 have q7 := (hC).cell 7
 have q8 := (hC).cell 8
 simp at q0 q1 q2 q3 q4 q5 q6 q7 q8
 have h5 := ((hC.pull 2).tPutFrom len_fKL i 1 (offK s) HI.out rfl (by omega)).drew
 have k5 := (Kp.putCells (g := g) ((fKL (offK s)).drop 1) (off + i * 11 + 1) kC).drew
 go_region
 change Exit.then _ _ _ _ (World.drew (World.putCells w3 g (off + i * 11 + 1) ((fKL (offK s)).drop 1)))
 generalize World.drew _ = w5 at h5 k5 ⊢
 clear hC kC x0 x1 x2 x3 x4 x5 x6 x7 x8 x9 x10 z0 z1 z2 z3 z4 z5 z6 z7 z8 z9 z10 q0 q1 q2 q3 q4 q5 q6 q7 q8 hgl hgQ hQg
 obtain ⟨fao, fcap, hfv⟩ := (h5.pull 4).tLen
 obtain ⟨m, hm⟩ : ∃ m, F.length = m := ⟨_, rfl⟩
 rw [hm] at hfv hF
 subst hfv
 have HM := Lib.hid hm
 have e2 : rowT fI (.slice fao m fcap) 3 1 F = row (.slice fao m fcap) 3 1 m (F.flatMap fI) := by unfold rowT; rw [hm]
 rw [e2] at h5
 clear e2 hm
 have a2 := (h5.pull 2).cell 2
 have af2 := (h5.pull 2).free 2
 have b0 := (h5.pull 3).cell 0
 simp at a2 b0
 have hal := (h5.pull 2).lt
 have hBl := (h5.pull 3).lt
 go_upto_region 6 with (fail)
 go_cut [4] from 19 to 29 (fun v wx => v = .bool false ∧ Sat wx (arenaK a most (A.set i (offK s)) (F ++ [h.s]) :: l) ∧ Kp w wx)
 case first =>
   go_region_law ((refine step_append_lit (by rfl) (.tmp 23) (.tmp 26) 121 (by rfl) 3 i2 _ 1 8 Tryz.underlying121 hj2 hz0 hz1 hz2 (by rfl) (by omega) _ _ _ _ _ _ _ (by rfl) (Sat.pull 5 (h5.drew.alloc (.cells #[.int .i64 h.s] 3))) 0 1 (by rfl) (by rfl) (by rfl) (by unfold maxLen; omega) (by omega) ?_; intro g2 off2 q' cap' w6 h6 k6; have e1 := (h6.pull 4).cell 2; have e2 := (h6.pull 4).free 2; simp at e1))
   all_goals
     go_wp2_with fail
     go_meet
     case rel =>
       rw [show m + (0 + 1) = F.length + 1 by rw [HM.out]] at h6
       have h7 := Sat.tSnoc (f := fI) (x := h.s) h6 rfl
       have h8 := ((h7.pull 4).set 2 (.slice (some ⟨g2, off2, none⟩) q' cap'))
       exact ⟨rfl, arenaK_I ((((((h8.pull 2).tail.pull 3).tail.pull 3).tail.pull 2).swap)), ((k5.drew.alloc _).trans k6).setCell _ _⟩
 case rest =>
   obtain ⟨rfl, h9, k9⟩ := hcut
   go_wp2_with fail
   go_ret
   exact ⟨_, _, rfl, HP.out.1, HP.out.2, by simp, h9, k9⟩
end Go.Proofs.YtddglbjhhnipgaaGreatDoor

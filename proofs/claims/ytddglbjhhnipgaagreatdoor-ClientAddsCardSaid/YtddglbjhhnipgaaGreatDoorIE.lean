import Derived.Test.YtddglbjhhnipgaaGreatDoorHF
namespace Go.Proofs.YtddglbjhhnipgaaGreatDoor
open Go Go.RowKit
set_option linter.unusedVariables false
set_option linter.unusedSimpArgs false
set_option maxRecDepth 100000
set_option maxHeartbeats 8000000
/-! ### a map, and an edit of it -/
def cmpFS : Value := .func (.func 63) #[] #[]
abbrev HTS := HT Int SpD
/-- A map at block m: how many nodes there may be, the slots, and those that are free. -/
def mapS (m : Nat) (most : Int) (A : List SlotS) (F : List Int) : HProp :=
 ex fun a => all [own m (.cells #[.pointer (some ⟨a, 0, none⟩), cmpFS] 186 (0, 0)), arenaS a most A F]
theorem mapS_I {w : World} {l : List HProp} {m a : Nat} {most : Int} {A : List SlotS} {F : List Int}
   (hs : Sat w (own m (.cells #[.pointer (some ⟨a, 0, none⟩), cmpFS] 186 (0, 0)) :: arenaS a most A F :: l)) : Sat w (mapS m most A F :: l) := Sat.exI a (Sat.allI hs)
theorem mapS_E {w : World} {l : List HProp} {m : Nat} {most : Int} {A : List SlotS} {F : List Int} (hs : Sat w (mapS m most A F :: l)) :
   ∃ a, Sat w (own m (.cells #[.pointer (some ⟨a, 0, none⟩), cmpFS] 186 (0, 0)) :: arenaS a most A F :: l) := by
 obtain ⟨a, h⟩ := hs.exE
 exact ⟨a, h.allE⟩
/-- An edit at block e: of which map, and what is gone. -/
def editS (e m : Nat) (gone : List Hd) : HProp :=
 ex fun v => all [own e (.cells #[.pointer (some ⟨m, 0, none⟩), v] 241 (0, 0)), rowT fH v 56 2 gone]
theorem editS_I {w : World} {l : List HProp} {e m : Nat} {gone : List Hd} {v : Value} (hs : Sat w (own e (.cells #[.pointer (some ⟨m, 0, none⟩), v] 241 (0, 0)) :: rowT fH v 56 2 gone :: l)) : Sat w (editS e m gone :: l) := Sat.exI v (Sat.allI hs)
theorem editS_E {w : World} {l : List HProp} {e m : Nat} {gone : List Hd} (hs : Sat w (editS e m gone :: l)) :
   ∃ v, Sat w (own e (.cells #[.pointer (some ⟨m, 0, none⟩), v] 241 (0, 0)) :: rowT fH v 56 2 gone :: l) := by
 obtain ⟨v, h⟩ := hs.exE
 exact ⟨v, h.allE⟩
theorem Tryz.infoHdS : (Tryz.prog.info? 56).map (fun i => (i.zero, i.size, i.bytes)) = some (some (.agg #[.int .i64 0, .int .i64 0]), 2, 16) := by kernel_rfl
/-- An item's cells: opened, and not yet. -/
def itCS (h : Hd) (k : Int) (v : SpD) (pl pr : Value) (hi : Int) : Array Value := #[.int .i64 h.s, .int .i64 h.g, .bool true, .int .i64 k, .bool v.inn, .int .i64 v.up, .string v.nm, pl, pr, .int .i64 hi]
def lzCS (h : Hd) : Array Value := #[.int .i64 h.s, .int .i64 h.g, .bool false, .int .i64 0, .bool false, .int .i64 0, .string ⟨#[]⟩, .pointer none, .pointer none, .int .i64 0]
def itemS : HTS → Value → HProp
 | .leaf, p => lift (p = .pointer none)
 | .node oh k v l r hi, p => ex fun b : Nat => all [lift (p = .pointer (some ⟨b, 0, none⟩)), orH (ex fun hd : Hd => all [lift (oh = some hd), own b (.cells (lzCS hd) 273 (0, 0))])
     (ex fun pl => ex fun pr => all [own b (.cells (itCS (hdOf oh) k v pl pr hi) 273 (0, 0)), itemS l pl, itemS r pr])]
theorem itemS_leaf {w : World} {l : List HProp} (hs : Sat w l) : Sat w (itemS .leaf (.pointer none) :: l) := hs.liftI rfl
theorem itemS_leafE {w : World} {l : List HProp} {p : Value} (hs : Sat w (itemS .leaf p :: l)) : p = .pointer none ∧ Sat w l := hs.liftE
theorem itemS_I {w : World} {fr : List HProp} {b : Nat} {oh : Option Hd} {k : Int} {v : SpD} {l r : HTS} {hi : Int} {pl pr : Value}
   (hs : Sat w (own b (.cells (itCS (hdOf oh) k v pl pr hi) 273 (0, 0)) :: itemS l pl :: itemS r pr :: fr)) : Sat w (itemS (.node oh k v l r hi) (.pointer (some ⟨b, 0, none⟩)) :: fr) :=
 Sat.exI b (Sat.allI (Sat.liftI rfl (Sat.orR (Sat.exI pl (Sat.exI pr (Sat.allI hs))))))
theorem itemS_lz {w : World} {fr : List HProp} {b : Nat} {hd : Hd} {k : Int} {v : SpD} {l r : HTS} {hi : Int} (hs : Sat w (own b (.cells (lzCS hd) 273 (0, 0)) :: fr)) : Sat w (itemS (.node (some hd) k v l r hi) (.pointer (some ⟨b, 0, none⟩)) :: fr) :=
 Sat.exI b (Sat.allI (Sat.liftI rfl (Sat.orL (Sat.exI hd (Sat.allI (Sat.liftI rfl hs))))))
theorem itemS_E {w : World} {fr : List HProp} {p : Value} {oh : Option Hd} {k : Int} {v : SpD} {l r : HTS} {hi : Int} (hs : Sat w (itemS (.node oh k v l r hi) p :: fr)) :
   ∃ b : Nat, p = .pointer (some ⟨b, 0, none⟩) ∧ ((∃ hd, oh = some hd ∧ Sat w (own b (.cells (lzCS hd) 273 (0, 0)) :: fr)) ∨ ∃ pl pr, Sat w (own b (.cells (itCS (hdOf oh) k v pl pr hi) 273 (0, 0)) :: itemS l pl :: itemS r pr :: fr)) := by
 obtain ⟨b, h⟩ := hs.exE
 obtain ⟨e, h⟩ := h.allE.liftE
 refine ⟨b, e, ?_⟩
 rcases h.orE with h | h
 · obtain ⟨hd, h⟩ := h.exE
   obtain ⟨e2, h⟩ := h.allE.liftE
   exact .inl ⟨hd, e2, h⟩
 · obtain ⟨pl, h⟩ := h.exE
   obtain ⟨pr, h⟩ := h.exE
   exact .inr ⟨pl, pr, h.allE⟩
theorem itemS_form {w : World} {fr : List HProp} {p : Value} {t : HTS} (hs : Sat w (itemS t p :: fr)) : ∃ q, p = .pointer q := by
 cases t with
 | leaf => exact ⟨_, (itemS_leafE hs).1⟩
 | node oh k v l r hi => obtain ⟨b, e, _⟩ := itemS_E hs; exact ⟨_, e⟩
theorem mapS_load {w : World} {l : List HProp} {m : Nat} {most : Int} {A : List SlotS} {F : List Int} {h : Hd} {s : SlotS} (hs : Sat w (mapS m most A F :: l)) (hin : InA A h s) :
   Calls Tryz.prog 119 #[.pointer (some ⟨m, 0, none⟩), .agg #[.int .i64 h.s, .int .i64 h.g]] w fun e w' => e = .returned (.tuple #[.agg #[.int .i64 s.k, .bool s.v.inn, .int .i64 s.v.up, .string s.v.nm, .int .i64 s.lh.s, .int .i64 s.lh.g, .int .i64 s.rh.s, .int .i64 s.rh.g, .int .i64 s.hi], .bool true]) ∧ Sat w' (mapS m most A F :: l) ∧ Kp w w' := by
 obtain ⟨a, hv⟩ := mapS_E hs
 have hB := (hv.alloc (.cells #[.int .i64 h.s, .int .i64 h.g] 56)).alloc (.cells #[.int .i64 0, .bool false, .int .i64 0, .string ⟨#[]⟩, .int .i64 0, .int .i64 0, .int .i64 0, .int .i64 0, .int .i64 0] 184)
 have kB := ((Kp.refl w).alloc (.cells #[.int .i64 h.s, .int .i64 h.g] 56)).alloc (.cells #[.int .i64 0, .bool false, .int .i64 0, .string ⟨#[]⟩, .int .i64 0, .int .i64 0, .int .i64 0, .int .i64 0, .int .i64 0] 184)
 simp only [World.size_alloc] at hB
 have HI := Lib.hid hin
 clear hin hs hv
 go_enter Tryz.func119, Tryz.ntmps119
 go_upto_region 1 with (fail)
 generalize World.alloc _ _ = w1 at hB kB ⊢
 generalize w.heap.size + 1 = R at hB ⊢
 generalize w.heap.size = B at hB ⊢
 have b0 := (hB.pull 1).cell 0
 have b1 := (hB.pull 1).cell 1
 have m0 := (hB.pull 2).cell 0
 simp at b0 b1 m0
 have hml := (hB.pull 2).lt
 have hge := arenaS_get ((hB.pull 3).drewN 1) HI.out
 go_region_with ((go_at_call 146; refine hge.mono ?_; rintro e w2 ⟨rfl, h2, k2⟩; have r0 := (h2.pull 1).cell 0; have r1 := (h2.pull 1).cell 1; have r2 := (h2.pull 1).cell 2; have r3 := (h2.pull 1).cell 3; have r4 := (h2.pull 1).cell 4; have r5 := (h2.pull 1).cell 5; have r6 := (h2.pull 1).cell 6; have r7 := (h2.pull 1).cell 7; have r8 := (h2.pull 1).cell 8; have rf0 := (h2.pull 1).free 0; have rf1 := (h2.pull 1).free 1; have rf2 := (h2.pull 1).free 2; have rf3 := (h2.pull 1).free 3; have rf4 := (h2.pull 1).free 4; have rf5 := (h2.pull 1).free 5; have rf6 := (h2.pull 1).free 6; have rf7 := (h2.pull 1).free 7; have rf8 := (h2.pull 1).free 8; simp at r0 r1 r2 r3 r4 r5 r6 r7 r8))
 all_goals
   obtain ⟨c', hE⟩ := Sat.putB [.int .i64 s.k, .bool s.v.inn, .int .i64 s.v.up, .string s.v.nm, .int .i64 s.lh.s, .int .i64 s.lh.g, .int .i64 s.rh.s, .int .i64 s.rh.g, .int .i64 s.hi] 0 (h2.pull 1)
   have kE := Kp.putCells (g := R) [.int .i64 s.k, .bool s.v.inn, .int .i64 s.v.up, .string s.v.nm, .int .i64 s.lh.s, .int .i64 s.lh.g, .int .i64 s.rh.s, .int .i64 s.rh.g, .int .i64 s.hi] 0 ((kB.drewN 1).trans k2)
   simp only [World.putCells, Nat.zero_add, Nat.reduceAdd] at hE kE
   have HE := Lib.hid hE
   clear hE
   go_wp2_with fail
   exact bodyPost_ret (v := .tuple #[.agg #[.int .i64 s.k, .bool s.v.inn, .int .i64 s.v.up, .string s.v.nm, .int .i64 s.lh.s, .int .i64 s.lh.g, .int .i64 s.rh.s, .int .i64 s.rh.g, .int .i64 s.hi], .bool true]) (by simp [results, Tryz.results119, go_sem, r0, r1, r2, r3, r4, r5, r6, r7, r8, rf0, rf1, rf2, rf3, rf4, rf5, rf6, rf7, rf8]) rfl ⟨rfl, mapS_I ((HE.out.tail.pull 1).tail.swap), kE⟩
theorem mapS_load_no {w : World} {l : List HProp} {m : Nat} {most : Int} {A : List SlotS} {F : List Int} {h : Hd} (hs : Sat w (mapS m most A F :: l)) (hno : ∀ s, ¬ InA A h s) :
   Calls Tryz.prog 119 #[.pointer (some ⟨m, 0, none⟩), .agg #[.int .i64 h.s, .int .i64 h.g]] w fun e w' => e = .returned (.tuple #[.agg #[.int .i64 0, .bool false, .int .i64 0, .string ⟨#[]⟩, .int .i64 0, .int .i64 0, .int .i64 0, .int .i64 0, .int .i64 0], .bool false]) ∧ Sat w' (mapS m most A F :: l) ∧ Kp w w' := by
 obtain ⟨a, hv⟩ := mapS_E hs
 have hB := (hv.alloc (.cells #[.int .i64 h.s, .int .i64 h.g] 56)).alloc (.cells #[.int .i64 0, .bool false, .int .i64 0, .string ⟨#[]⟩, .int .i64 0, .int .i64 0, .int .i64 0, .int .i64 0, .int .i64 0] 184)
 have kB := ((Kp.refl w).alloc (.cells #[.int .i64 h.s, .int .i64 h.g] 56)).alloc (.cells #[.int .i64 0, .bool false, .int .i64 0, .string ⟨#[]⟩, .int .i64 0, .int .i64 0, .int .i64 0, .int .i64 0, .int .i64 0] 184)
 simp only [World.size_alloc] at hB
 have HI := Lib.hid hno
 clear hno hs hv
 go_enter Tryz.func119, Tryz.ntmps119
 go_upto_region 1 with (fail)
 generalize World.alloc _ _ = w1 at hB kB ⊢
 generalize w.heap.size + 1 = R at hB ⊢
 generalize w.heap.size = B at hB ⊢
 have b0 := (hB.pull 1).cell 0
 have b1 := (hB.pull 1).cell 1
 have m0 := (hB.pull 2).cell 0
 simp at b0 b1 m0
 have hml := (hB.pull 2).lt
 have hge := arenaS_get_no ((hB.pull 3).drewN 1) HI.out
 go_region_with ((go_at_call 146; refine hge.mono ?_; rintro e w2 ⟨rfl, h2, k2⟩; have r0 := (h2.pull 1).cell 0; have r1 := (h2.pull 1).cell 1; have r2 := (h2.pull 1).cell 2; have r3 := (h2.pull 1).cell 3; have r4 := (h2.pull 1).cell 4; have r5 := (h2.pull 1).cell 5; have r6 := (h2.pull 1).cell 6; have r7 := (h2.pull 1).cell 7; have r8 := (h2.pull 1).cell 8; have rf0 := (h2.pull 1).free 0; have rf1 := (h2.pull 1).free 1; have rf2 := (h2.pull 1).free 2; have rf3 := (h2.pull 1).free 3; have rf4 := (h2.pull 1).free 4; have rf5 := (h2.pull 1).free 5; have rf6 := (h2.pull 1).free 6; have rf7 := (h2.pull 1).free 7; have rf8 := (h2.pull 1).free 8; simp at r0 r1 r2 r3 r4 r5 r6 r7 r8))
 all_goals
   obtain ⟨c', hE⟩ := Sat.putB [.int .i64 0, .bool false, .int .i64 0, .string ⟨#[]⟩, .int .i64 0, .int .i64 0, .int .i64 0, .int .i64 0, .int .i64 0] 0 (h2.pull 1)
   have kE := Kp.putCells (g := R) [.int .i64 0, .bool false, .int .i64 0, .string ⟨#[]⟩, .int .i64 0, .int .i64 0, .int .i64 0, .int .i64 0, .int .i64 0] 0 ((kB.drewN 1).trans k2)
   simp only [World.putCells, Nat.zero_add, Nat.reduceAdd] at hE kE
   have HE := Lib.hid hE
   clear hE
   go_wp2_with fail
   exact bodyPost_ret (v := .tuple #[.agg #[.int .i64 0, .bool false, .int .i64 0, .string ⟨#[]⟩, .int .i64 0, .int .i64 0, .int .i64 0, .int .i64 0, .int .i64 0], .bool false]) (by simp [results, Tryz.results119, go_sem, r0, r1, r2, r3, r4, r5, r6, r7, r8, rf0, rf1, rf2, rf3, rf4, rf5, rf6, rf7, rf8]) rfl ⟨rfl, mapS_I ((HE.out.tail.pull 1).tail.swap), kE⟩
theorem mapS_room {w : World} {l : List HProp} {m : Nat} {most : Int} {A : List SlotS} {F : List Int} (hs : Sat w (mapS m most A F :: l)) (h0 : 0 ≤ most) (h1 : most ≤ 1048576) (hA : A.length ≤ 1048576) (hF : F.length ≤ 1048576) :
   Calls Tryz.prog 168 #[.pointer (some ⟨m, 0, none⟩)] w fun e w' => e = .returned (.int .i64 (roomA most A F)) ∧ Sat w' (mapS m most A F :: l) ∧ Kp w w' := by
 obtain ⟨a, hv⟩ := mapS_E hs
 have m0 := hv.cell 0
 simp at m0
 have hro := arenaS_room (hv.pull 1) h0 h1 hA hF
 go_enter Tryz.func168, Tryz.ntmps168
 go_wp2_with fail
 refine hro.mono ?_
 rintro e w2 ⟨rfl, h2, k2⟩
 go_wp2_with fail
 go_ret
 exact ⟨rfl, mapS_I h2.swap, k2⟩
theorem mapS_free {w : World} {l : List HProp} {m : Nat} {most : Int} {A : List SlotS} {F : List Int} {G : Nat} {h : Hd} {s : SlotS} (hs : Sat w (mapS m most A F :: l)) (hW : WfA A F G) (hin : InA A h s) (hF : F.length ≤ 1048576) :
   Calls Tryz.prog 158 #[.pointer (some ⟨m, 0, none⟩), .agg #[.int .i64 h.s, .int .i64 h.g]] w fun e w' => ∃ (A' : List SlotS) (F' : List Int), e = .returned (.bool true) ∧ WfA A' F' G ∧ FreeA most A F h A' F' ∧ A'.length = A.length ∧ Sat w' (mapS m most A' F' :: l) ∧ Kp w w' := by
 obtain ⟨a, hv⟩ := mapS_E hs
 have hB := hv.alloc (.cells #[.int .i64 h.s, .int .i64 h.g] 56)
 have kB := (Kp.refl w).alloc (.cells #[.int .i64 h.s, .int .i64 h.g] 56)
 go_enter Tryz.func158, Tryz.ntmps158
 go_upto_region 1 with (fail)
 generalize World.alloc _ _ = w1 at hB kB ⊢
 generalize w.heap.size = B at hB ⊢
 have b0 := hB.cell 0
 have b1 := hB.cell 1
 have m0 := (hB.pull 1).cell 0
 simp at b0 b1 m0
 have hml := (hB.pull 1).lt
 have hge := arenaS_free ((hB.pull 2).drewN 1) hW hin hF
 have HGE := Lib.hid hge
 clear hge hW hin
 go_region_with ((go_at_call 184; refine HGE.out.mono ?_; rintro e w2 ⟨A', F', rfl, p1, p2, p3, h2, k2⟩))
 all_goals
   go_wp2_with fail
   go_ret
   exact ⟨A', F', rfl, p1, p2, p3, mapS_I ((h2.pull 1).tail.swap), (kB.drewN 1).trans k2⟩
theorem mapS_free_no {w : World} {l : List HProp} {m : Nat} {most : Int} {A : List SlotS} {F : List Int} {h : Hd} (hs : Sat w (mapS m most A F :: l)) (hno : ∀ s, ¬ InA A h s) :
   Calls Tryz.prog 158 #[.pointer (some ⟨m, 0, none⟩), .agg #[.int .i64 h.s, .int .i64 h.g]] w fun e w' => e = .returned (.bool false) ∧ Sat w' (mapS m most A F :: l) ∧ Kp w w' := by
 obtain ⟨a, hv⟩ := mapS_E hs
 have hB := hv.alloc (.cells #[.int .i64 h.s, .int .i64 h.g] 56)
 have kB := (Kp.refl w).alloc (.cells #[.int .i64 h.s, .int .i64 h.g] 56)
 go_enter Tryz.func158, Tryz.ntmps158
 go_upto_region 1 with (fail)
 generalize World.alloc _ _ = w1 at hB kB ⊢
 generalize w.heap.size = B at hB ⊢
 have b0 := hB.cell 0
 have b1 := hB.cell 1
 have m0 := (hB.pull 1).cell 0
 simp at b0 b1 m0
 have hml := (hB.pull 1).lt
 have hge := arenaS_free_no ((hB.pull 2).drewN 1) hno
 have HGE := Lib.hid hge
 clear hge hno
 go_region_with ((go_at_call 184; refine HGE.out.mono ?_; rintro e w2 ⟨rfl, h2, k2⟩))
 all_goals
   go_wp2_with fail
   go_ret
   exact ⟨rfl, mapS_I ((h2.pull 1).tail.swap), (kB.drewN 1).trans k2⟩
theorem itemS_item0 {w : World} {e : Nat} {l : List HProp} (hs : Sat w l) :
   Calls Tryz.prog 143 #[.pointer (some ⟨e, 0, none⟩), .agg #[.int .i64 0, .int .i64 0]] w fun x w' => x = .returned (.pointer none) ∧ Sat w' l ∧ Kp w w' := by
 have hB := hs.alloc' (.cells #[.int .i64 0, .int .i64 0] 56)
 have kB := (Kp.refl w).alloc (.cells #[.int .i64 0, .int .i64 0] 56)
 go_enter Tryz.func143, Tryz.ntmps143
 go_wp2_with fail
 go_ret
 exact ⟨rfl, hB, kB⟩
theorem itemS_item1 {w : World} {e : Nat} {l : List HProp} {h : Hd} (hs : Sat w l) (hp : 1 ≤ h.s) :
   Calls Tryz.prog 143 #[.pointer (some ⟨e, 0, none⟩), .agg #[.int .i64 h.s, .int .i64 h.g]] w fun x w' => ∃ b : Nat, x = .returned (.pointer (some ⟨b, 0, none⟩)) ∧ Sat w' (own b (.cells (lzCS h) 273 (0, 0)) :: l) ∧ Kp w w' := by
 have hB := hs.alloc (.cells #[.int .i64 h.s, .int .i64 h.g] 56)
 have kB := (Kp.refl w).alloc (.cells #[.int .i64 h.s, .int .i64 h.g] 56)
 have hne : (h.s == 0) = false := by rw [beq_eq_false_iff_ne]; omega
 go_enter Tryz.func143, Tryz.ntmps143
 go_upto_region 1 with (fail)
 generalize World.alloc _ _ = w1 at hB kB ⊢
 generalize w.heap.size = B at hB ⊢
 have b0 := (hB).cell 0
 have b1 := (hB).cell 1
 simp at b0 b1
 have hC := hB.alloc (.cells (lzCS h) 273)
 have kC := kB.alloc (.cells (lzCS h) 273)
 go_wp2_with fail
 go_ret
 exact ⟨_, rfl, (hC.pull 1).tail, kC⟩
/-- item of a tree's root. -/
theorem itemS_item {w : World} {e : Nat} {l : List HProp} {t : HTS} {A : List SlotS} (hs : Sat w l) (hR : RepO A t) :
   Calls Tryz.prog 143 #[.pointer (some ⟨e, 0, none⟩), .agg #[.int .i64 t.root.s, .int .i64 t.root.g]] w fun x w' => ∃ p, x = .returned p ∧ Sat w' (itemS t p :: l) ∧ Kp w w' := by
 cases t with
 | leaf => exact (itemS_item0 hs).mono fun x w' ⟨h1, h2, h3⟩ => ⟨_, h1, itemS_leaf h2, h3⟩
 | node oh k v l' r hi =>
   obtain ⟨⟨hd, rfl, s, ⟨i, hi1, _⟩, _⟩, _, _⟩ := hR
   exact (itemS_item1 (h := hd) hs (by omega)).mono fun x w' ⟨b, h1, h2, h3⟩ => ⟨_, h1, itemS_lz h2, h3⟩
theorem editS_ptr {w : World} {l : List HProp} {e m : Nat} {gone : List Hd} (hs : Sat w (editS e m gone :: l)) : w.cell? ⟨e, 0, none⟩ = some (.pointer (some ⟨m, 0, none⟩)) := by
 obtain ⟨v, h⟩ := editS_E hs
 have := h.cell 0
 simpa using this
theorem editS_lt {w : World} {l : List HProp} {e m : Nat} {gone : List Hd} (hs : Sat w (editS e m gone :: l)) : e < w.heap.size := by
 obtain ⟨v, h⟩ := editS_E hs
 exact h.lt
theorem lz0S {w : World} {l : List HProp} {b : Nat} {h : Hd} {ty : TypeId} (hs : Sat w (own b (.cells (lzCS h) ty (0, 0)) :: l)) : w.cell? ⟨b, 0, none⟩ = some (.int .i64 h.s) := hs.cell 0
theorem lz1S {w : World} {l : List HProp} {b : Nat} {h : Hd} {ty : TypeId} (hs : Sat w (own b (.cells (lzCS h) ty (0, 0)) :: l)) : w.cell? ⟨b, 1, none⟩ = some (.int .i64 h.g) := hs.cell 1
theorem itemS_fill {w : World} {b : Nat} {hd : Hd} {fr : List HProp} {s : SlotS} (h : Sat w (own b (.cells (lzCS hd) 273 (0, 0)) :: fr)) :
   Sat (((((((w).setCell ⟨b, 2, none⟩ (.bool true)).setCell ⟨b, 3, none⟩ (.int .i64 s.k)).setCell ⟨b, 4, none⟩ (.bool s.v.inn)).setCell ⟨b, 5, none⟩ (.int .i64 s.v.up)).setCell ⟨b, 6, none⟩ (.string s.v.nm)).setCell ⟨b, 9, none⟩ (.int .i64 s.hi)).drew (own b (.cells (itCS hd s.k s.v (.pointer none) (.pointer none) s.hi) 273 (0, 0)) :: fr) := by
 have h2 := ((((((h.set 2 (.bool true)).set 3 (.int .i64 s.k)).set 4 (.bool s.v.inn)).set 5 (.int .i64 s.v.up)).set 6 (.string s.v.nm)).set 9 (.int .i64 s.hi)).drew
 exact h2
theorem itemS_kfill {w0 w : World} {b : Nat} {s : SlotS} (k : Kp w0 w) : Kp w0 (((((((w).setCell ⟨b, 2, none⟩ (.bool true)).setCell ⟨b, 3, none⟩ (.int .i64 s.k)).setCell ⟨b, 4, none⟩ (.bool s.v.inn)).setCell ⟨b, 5, none⟩ (.int .i64 s.v.up)).setCell ⟨b, 6, none⟩ (.string s.v.nm)).setCell ⟨b, 9, none⟩ (.int .i64 s.hi)).drew := ((((((k.setCell ⟨b, 2, none⟩ (.bool true)).setCell ⟨b, 3, none⟩ (.int .i64 s.k)).setCell ⟨b, 4, none⟩ (.bool s.v.inn)).setCell ⟨b, 5, none⟩ (.int .i64 s.v.up)).setCell ⟨b, 6, none⟩ (.string s.v.nm)).setCell ⟨b, 9, none⟩ (.int .i64 s.hi)).drew
theorem nodeQS {w : World} {Q : Nat} {fr : List HProp} {s : SlotS} {l r : HTS} (el : s.lh = l.root) (er : s.rh = r.root) (h : Sat w (own Q (.cells #[.int .i64 s.k, .bool s.v.inn, .int .i64 s.v.up, .string s.v.nm, .int .i64 s.lh.s, .int .i64 s.lh.g, .int .i64 s.rh.s, .int .i64 s.rh.g, .int .i64 s.hi] 184 (0, 0)) :: fr)) : w.cell? ⟨Q, 4, none⟩ = some (.int .i64 l.root.s) ∧ w.cell? ⟨Q, 5, none⟩ = some (.int .i64 l.root.g) ∧ w.cell? ⟨Q, 6, none⟩ = some (.int .i64 r.root.s) ∧ w.cell? ⟨Q, 7, none⟩ = some (.int .i64 r.root.g) := by
 rw [← el, ← er]
 exact ⟨h.cell 4, h.cell 5, h.cell 6, h.cell 7⟩
theorem open1S {w2 : World} {b e m : Nat} {hd : Hd} {gone : List Hd} {most : Int} {A : List SlotS} {F : List Int} {fr : List HProp} {s : SlotS} (h3 : Sat w2 (mapS m most A F :: own b (.cells (lzCS hd) 273 (0, 0)) :: editS e m gone :: fr)) :
   Sat (w2.alloc (.cells #[.int .i64 s.k, .bool s.v.inn, .int .i64 s.v.up, .string s.v.nm, .int .i64 s.lh.s, .int .i64 s.lh.g, .int .i64 s.rh.s, .int .i64 s.rh.g, .int .i64 s.hi] 184)) (own w2.heap.size (.cells #[.int .i64 s.k, .bool s.v.inn, .int .i64 s.v.up, .string s.v.nm, .int .i64 s.lh.s, .int .i64 s.lh.g, .int .i64 s.rh.s, .int .i64 s.rh.g, .int .i64 s.hi] 184 (0, 0)) :: own b (.cells (lzCS hd) 273 (0, 0)) :: editS e m gone :: mapS m most A F :: fr) := (h3.alloc (.cells #[.int .i64 s.k, .bool s.v.inn, .int .i64 s.v.up, .string s.v.nm, .int .i64 s.lh.s, .int .i64 s.lh.g, .int .i64 s.rh.s, .int .i64 s.rh.g, .int .i64 s.hi] 184)).swap.push 3
theorem open2S {w2 : World} {b e m Q : Nat} {hd : Hd} {gone : List Hd} {most : Int} {A : List SlotS} {F : List Int} {fr : List HProp} {s : SlotS} (h3 : Sat w2 (mapS m most A F :: own b (.cells (lzCS hd) 273 (0, 0)) :: editS e m gone :: own Q (.cells #[.int .i64 0, .bool false, .int .i64 0, .string ⟨#[]⟩, .int .i64 0, .int .i64 0, .int .i64 0, .int .i64 0, .int .i64 0] 184 (0, 0)) :: fr)) :
   Sat ((((((((((w2).setCell ⟨Q, 0, none⟩ (.int .i64 s.k)).setCell ⟨Q, 1, none⟩ (.bool s.v.inn)).setCell ⟨Q, 2, none⟩ (.int .i64 s.v.up)).setCell ⟨Q, 3, none⟩ (.string s.v.nm)).setCell ⟨Q, 4, none⟩ (.int .i64 s.lh.s)).setCell ⟨Q, 5, none⟩ (.int .i64 s.lh.g)).setCell ⟨Q, 6, none⟩ (.int .i64 s.rh.s)).setCell ⟨Q, 7, none⟩ (.int .i64 s.rh.g)).setCell ⟨Q, 8, none⟩ (.int .i64 s.hi)) (own Q (.cells #[.int .i64 s.k, .bool s.v.inn, .int .i64 s.v.up, .string s.v.nm, .int .i64 s.lh.s, .int .i64 s.lh.g, .int .i64 s.rh.s, .int .i64 s.rh.g, .int .i64 s.hi] 184 (0, 0)) :: own b (.cells (lzCS hd) 273 (0, 0)) :: editS e m gone :: mapS m most A F :: fr) := by
 have h5 := Sat.putAll (c := #[.int .i64 0, .bool false, .int .i64 0, .string ⟨#[]⟩, .int .i64 0, .int .i64 0, .int .i64 0, .int .i64 0, .int .i64 0]) [.int .i64 s.k, .bool s.v.inn, .int .i64 s.v.up, .string s.v.nm, .int .i64 s.lh.s, .int .i64 s.lh.g, .int .i64 s.rh.s, .int .i64 s.rh.g, .int .i64 s.hi] rfl (h3.pull 3)
 exact h5.swap.push 3
theorem kopen1S {w w2 : World} {s : SlotS} (k3 : Kp w.drew w2) : Kp w (w2.alloc (.cells #[.int .i64 s.k, .bool s.v.inn, .int .i64 s.v.up, .string s.v.nm, .int .i64 s.lh.s, .int .i64 s.lh.g, .int .i64 s.rh.s, .int .i64 s.rh.g, .int .i64 s.hi] 184)) := (((Kp.refl w).drew).trans k3).alloc _
theorem kopen2S {w w2 : World} {s : SlotS} {Q : Nat} {o : Obj} (k3 : Kp (w.alloc o).drew w2) : Kp w ((((((((((w2).setCell ⟨Q, 0, none⟩ (.int .i64 s.k)).setCell ⟨Q, 1, none⟩ (.bool s.v.inn)).setCell ⟨Q, 2, none⟩ (.int .i64 s.v.up)).setCell ⟨Q, 3, none⟩ (.string s.v.nm)).setCell ⟨Q, 4, none⟩ (.int .i64 s.lh.s)).setCell ⟨Q, 5, none⟩ (.int .i64 s.lh.g)).setCell ⟨Q, 6, none⟩ (.int .i64 s.rh.s)).setCell ⟨Q, 7, none⟩ (.int .i64 s.rh.g)).setCell ⟨Q, 8, none⟩ (.int .i64 s.hi)) := Kp.putCells (g := Q) [.int .i64 s.k, .bool s.v.inn, .int .i64 s.v.up, .string s.v.nm, .int .i64 s.lh.s, .int .i64 s.lh.g, .int .i64 s.rh.s, .int .i64 s.rh.g, .int .i64 s.hi] 0 ((((Kp.refl w).alloc o).drew).trans k3)
theorem itemS_opened {w : World} {e m : Nat} {fr : List HProp} {p : Value} {oh : Option Hd} {k : Int} {v : SpD} {l r : HTS} {hi : Int} {gone : List Hd} {most : Int} {A : List SlotS} {F : List Int} (hs : Sat w (itemS (.node oh k v l r hi) p :: editS e m gone :: mapS m most A F :: fr)) (hR : RepF A (.node oh k v l r hi)) :
   Calls Tryz.prog 170 #[.pointer (some ⟨e, 0, none⟩), p] w fun x w' => x = .returned p ∧ ∃ (b : Nat) (pl pr : Value), p = .pointer (some ⟨b, 0, none⟩) ∧ Sat w' (own b (.cells (itCS (hdOf oh) k v pl pr hi) 273 (0, 0)) :: itemS l pl :: itemS r pr :: editS e m gone :: mapS m most A F :: fr) ∧ Kp w w' := by
 obtain ⟨b, rfl, ⟨hd, rfl, h1⟩ | ⟨pl, pr, h1⟩⟩ := itemS_E hs
 · obtain ⟨⟨hd', e', s, hin, rfl, rfl, el, er, rfl⟩, hrl, hrr⟩ := hR
   cases e'
   have HIN := Lib.hid hin
   have HRL := Lib.hid hrl
   have HRR := Lib.hid hrr
   have HEL := Lib.hid el
   have HER := Lib.hid er
   clear hin hrl hrr el er hs
   obtain ⟨vg, h2⟩ := editS_E (h1.pull 1)
   have e0 := h2.cell 0
   simp at e0
   have hel := h2.lt
   have hbl := h1.lt
   have i0 := h1.cell 0
   have i1 := h1.cell 1
   have i2 := h1.cell 2
   simp [lzCS] at i0 i1 i2
   go_enter Tryz.func170, Tryz.ntmps170
   go_wp2_with fail
   have hlo := fun (W : World) (fr' : List HProp) (hW : Sat W (mapS m most A F :: fr')) => mapS_load hW HIN.out
   have HLO := Lib.hid hlo
   clear hlo
   go_upto_region 3 with (fail)
   go_cut [5, 6] from 13 to 23 (fun v v6 wx => ∃ Q : Nat, v = .pointer (some ⟨Q, 0, none⟩) ∧ Sat wx (own Q (.cells #[.int .i64 s.k, .bool s.v.inn, .int .i64 s.v.up, .string s.v.nm, .int .i64 s.lh.s, .int .i64 s.lh.g, .int .i64 s.rh.s, .int .i64 s.rh.g, .int .i64 s.hi] 184 (0, 0)) :: own b (.cells (lzCS hd) 273 (0, 0)) :: editS e m gone :: mapS m most A F :: fr) ∧ Kp w wx)
   case first =>
     have hL1 := HLO.out _ _ ((h1.pull 2).drew)
     have hL2 := HLO.out _ _ (((h1.alloc (.cells #[.int .i64 0, .bool false, .int .i64 0, .string ⟨#[]⟩, .int .i64 0, .int .i64 0, .int .i64 0, .int .i64 0, .int .i64 0] 184)).push 3).pull 2).drew
     go_region_with ((first | (go_at_call 119; (with_reducible refine hL1.mono ?_); rintro x w2 ⟨rfl, h3, k3⟩) | (go_at_call 119; (with_reducible refine hL2.mono ?_); rintro x w2 ⟨rfl, h3, k3⟩; have q0 := (h3.pull 3).cell 0; have q1 := (h3.pull 3).cell 1; have q2 := (h3.pull 3).cell 2; have q3 := (h3.pull 3).cell 3; have q4 := (h3.pull 3).cell 4; have q5 := (h3.pull 3).cell 5; have q6 := (h3.pull 3).cell 6; have q7 := (h3.pull 3).cell 7; have q8 := (h3.pull 3).cell 8; have qf0 := (h3.pull 3).free 0; have qf1 := (h3.pull 3).free 1; have qf2 := (h3.pull 3).free 2; have qf3 := (h3.pull 3).free 3; have qf4 := (h3.pull 3).free 4; have qf5 := (h3.pull 3).free 5; have qf6 := (h3.pull 3).free 6; have qf7 := (h3.pull 3).free 7; have qf8 := (h3.pull 3).free 8; simp at q0 q1 q2 q3 q4 q5 q6 q7 q8)))
     all_goals
       go_wp2_with fail
       go_meet
       case rel =>
         refine ⟨_, rfl, ?_, ?_⟩
         · first
           | (have hq := qf8
              exact open2S h3)
           | exact open1S h3
         · first
           | (have hq := qf8
              exact kopen2S k3)
           | exact kopen1S k3
   case rest =>
     clear e0 hel hbl i0 i1 i2 h2 h1
     obtain ⟨Q, rfl, h5, k5⟩ := hcut
     have q0 := (h5).cell 0
     have q1 := (h5).cell 1
     have q2 := (h5).cell 2
     have q3 := (h5).cell 3
     have q4 := (h5).cell 4
     have q5 := (h5).cell 5
     have q6 := (h5).cell 6
     have q7 := (h5).cell 7
     have q8 := (h5).cell 8
     simp at q0 q1 q2 q3 q4 q5 q6 q7 q8
     have hQl := h5.lt
     have hbl := (h5.pull 1).lt
     have hne := h5.ne
     have hne2 : b ≠ Q := hne.symm
     have i0 := (h5.pull 1).cell 0
     have i1 := (h5.pull 1).cell 1
     have i2 := (h5.pull 1).cell 2
     have i3 := (h5.pull 1).cell 3
     have i4 := (h5.pull 1).cell 4
     have i5 := (h5.pull 1).cell 5
     have i6 := (h5.pull 1).cell 6
     have i7 := (h5.pull 1).cell 7
     have i8 := (h5.pull 1).cell 8
     have i9 := (h5.pull 1).cell 9
     have if0 := (h5.pull 1).free 0
     have if1 := (h5.pull 1).free 1
     have if2 := (h5.pull 1).free 2
     have if3 := (h5.pull 1).free 3
     have if4 := (h5.pull 1).free 4
     have if5 := (h5.pull 1).free 5
     have if6 := (h5.pull 1).free 6
     have if7 := (h5.pull 1).free 7
     have if8 := (h5.pull 1).free 8
     have if9 := (h5.pull 1).free 9
     simp [lzCS] at i0 i1 i2 i3 i4 i5 i6 i7 i8 i9
     have h6 := itemS_fill (s := s) (h5.pull 1)
     have k6 := itemS_kfill (s := s) (b := b) k5
     go_upto_region 4 with (fail)
     go_region
     generalize World.drew _ = w7 at h6 k6 ⊢
     clear h5 k5 q0 q1 q2 q3 q4 q5 q6 q7 q8 i0 i1 i2 i3 i4 i5 i6 i7 i8 i9 if0 if1 if2 if3 if4 if5 if6 if7 if8 if9 hQl hbl hne hne2
     go_wp2_with fail
     have q4 := (h6.pull 1).cell 4
     have q5 := (h6.pull 1).cell 5
     have q6 := (h6.pull 1).cell 6
     have q7 := (h6.pull 1).cell 7
     simp [HEL.out, HER.out] at q4 q5 q6 q7
     have hi1 := itemS_item (e := e) h6.drew HRL.out
     have hi2 := fun (W : World) (fr' : List HProp) (hW : Sat W fr') => itemS_item (e := e) hW HRR.out
     have HI2 := Lib.hid hi2
     clear hi2
     go_upto_region 5 with (fail)
     go_region_held3 (fun w' => w'.cell? ⟨Q, 4, none⟩ = some (.int .i64 l.root.s) ∧ w'.cell? ⟨Q, 5, none⟩ = some (.int .i64 l.root.g) ∧ w'.cell? ⟨Q, 6, none⟩ = some (.int .i64 r.root.s) ∧ w'.cell? ⟨Q, 7, none⟩ = some (.int .i64 r.root.g)) (first | go_keep | exact ⟨q4, q5, q6, q7⟩ | exact nodeQS HEL.out HER.out (h9.pull 3) | exact nodeQS HEL.out HER.out (h8.pull 2))
       ((first | (go_at_call 143; (with_reducible refine hi1.mono ?_); rintro x w8 ⟨pl, rfl, h8, k8⟩; (obtain ⟨ql, rfl⟩ := itemS_form h8); have hi3 := HI2.out _ _ h8) | (go_at_call 143; (with_reducible refine hi3.mono ?_); rintro x w9 ⟨pr, rfl, h9, k9⟩; (obtain ⟨qr, rfl⟩ := itemS_form h9); have j7 := (h9.pull 2).cell 7; have j8 := (h9.pull 2).cell 8; have jf7 := (h9.pull 2).free 7; have jf8 := (h9.pull 2).free 8; simp [itCS] at j7 j8; have n1 := h9.tail.tail.ne; have n2 := n1.symm)))
     all_goals
       have hA := ((h9.pull 2).set 7 (.pointer ql)).set 8 (.pointer qr)
       have kA := (((k6.drew.trans k8).trans k9).setCell ⟨b, 7, none⟩ (.pointer ql)).setCell ⟨b, 8, none⟩ (.pointer qr)
       go_wp2_with fail
       go_ret
       exact ⟨rfl, b, .pointer ql, .pointer qr, rfl, ((hA.pull 3).tail.pull 2).swap, kA⟩
 · have i2 := h1.cell 2
   simp [itCS] at i2
   go_enter Tryz.func170, Tryz.ntmps170
   go_wp2_with fail
   go_ret
   exact ⟨rfl, b, pl, pr, rfl, h1, Kp.refl w⟩
/-- item_opened, with what it comes to behind a word. -/
def OpenedS (w : World) (e m : Nat) (fr : List HProp) (p : Value) (oh : Option Hd) (k : Int) (v : SpD) (l r : HTS) (hi : Int) (gone : List Hd) (most : Int) (A : List SlotS) (F : List Int) (x : Ending) (w' : World) : Prop :=
 x = .returned p ∧ ∃ (b : Nat) (pl pr : Value), p = .pointer (some ⟨b, 0, none⟩) ∧ Sat w' (own b (.cells (itCS (hdOf oh) k v pl pr hi) 273 (0, 0)) :: itemS l pl :: itemS r pr :: editS e m gone :: mapS m most A F :: fr) ∧ Kp w w'
theorem itemS_high {w : World} {e m : Nat} {fr : List HProp} {p : Value} {t : HTS} {gone : List Hd} {most : Int} {A : List SlotS} {F : List Int} (hs : Sat w (itemS t p :: editS e m gone :: mapS m most A F :: fr)) (hR : RepF A t) :
   Calls Tryz.prog 194 #[.pointer (some ⟨e, 0, none⟩), p] w fun x w' => x = .returned (.int .i64 t.high) ∧ Sat w' (itemS t p :: editS e m gone :: mapS m most A F :: fr) ∧ Kp w w' := by
 cases t with
 | leaf =>
   obtain ⟨rfl, _⟩ := itemS_leafE hs
   go_enter Tryz.func194, Tryz.ntmps194
   go_wp2_with fail
   go_ret
   exact ⟨rfl, hs, Kp.refl w⟩
 | node oh k v l r hi =>
   obtain ⟨b0, rfl, _⟩ := itemS_E hs
   have hop := itemS_opened hs hR
   have HOP := Lib.hid hop
   clear hop hR
   go_enter Tryz.func194, Tryz.ntmps194
   go_wp2_with fail
   refine HOP.out.mono ?_
   rintro x w1 ⟨rfl, b, pl, pr, he, h1, k1⟩
   simp only [Value.pointer.injEq, Option.some.injEq, Addr.mk.injEq, and_true] at he
   subst he
   have b9 := h1.cell 9
   simp [itCS] at b9
   go_wp2_with fail
   go_ret
   exact ⟨rfl, itemS_I h1, k1⟩
theorem itemS_leave {w : World} {e m b : Nat} {fr : List HProp} {oh : Option Hd} {k : Int} {v : SpD} {pl pr : Value} {hi : Int} {gone : List Hd} (hs : Sat w (own b (.cells (itCS (hdOf oh) k v pl pr hi) 273 (0, 0)) :: editS e m gone :: fr)) (hp : ∀ h, oh = some h → 1 ≤ h.s) (hg : gone.length ≤ 100000000) :
   Calls Tryz.prog 172 #[.pointer (some ⟨e, 0, none⟩), .pointer (some ⟨b, 0, none⟩)] w fun x w' => x = .returned (.tuple #[]) ∧ Sat w' (own b (.cells (itCS (hdOf oh) k v pl pr hi) 273 (0, 0)) :: editS e m (gone ++ lv oh) :: fr) ∧ Kp w w' := by
 obtain ⟨i1, hj, hy0, hy1, hy2⟩ := info_parts Tryz.infoHdS
 have b0 := hs.cell 0
 have b1 := hs.cell 1
 cases oh with
 | none =>
   simp [itCS, hdOf, Hd.nil] at b0 b1
   go_enter Tryz.func172, Tryz.ntmps172
   go_wp2_with fail
   go_end0
   refine ⟨rfl, ?_, Kp.refl w⟩
   simpa [lv] using hs
 | some h =>
   simp [itCS, hdOf] at b0 b1
   have hs1 := hp h rfl
   have hne : (h.s != 0) = true := by simp; omega
   have hne2 : (h.s == 0) = false := by rw [beq_eq_false_iff_ne]; omega
   obtain ⟨v0, h1⟩ := editS_E (hs.pull 1)
   obtain ⟨vao, vcap, hv0⟩ := (h1.pull 1).tLen
   obtain ⟨n, hn⟩ : ∃ n, gone.length = n := ⟨_, rfl⟩
   rw [hn] at hv0 hg
   subst hv0
   have HN := Lib.hid hn
   have e2 : rowT fH (.slice vao n vcap) 56 2 gone = row (.slice vao n vcap) 56 2 n (gone.flatMap fH) := by unfold rowT; rw [hn]
   rw [e2] at h1
   have e0 := h1.cell 1
   have ef := h1.free 1
   simp at e0
   have hel := h1.lt
   have hbl := hs.lt
   clear e2 hn hs hp
   go_enter Tryz.func172, Tryz.ntmps172
   go_upto_region 1 with (fail)
   go_region_law ((refine step_append_lit (by rfl) (.tmp 18) (.tmp 23) 92 (by rfl) 56 i1 _ 2 16 Tryz.underlying92 hj hy0 hy1 hy2 (by rfl) (by omega) _ _ _ _ _ _ _ (by rfl) (Sat.pull 2 (h1.drew.alloc (.cells #[.int .i64 h.s, .int .i64 h.g] 56))) 0 1 (by rfl) (by rfl) (by rfl) (by unfold maxLen; omega) (by omega) ?_; intro g2 off2 q' cap' w6 h6 k6; have e1 := (h6.pull 2).cell 1; have e2 := (h6.pull 2).free 1; simp at e1))
   all_goals
     rw [show n + (0 + 1) = gone.length + 1 by rw [HN.out]] at h6
     have h7 := Sat.tSnoc (f := fH) (x := h) h6 rfl
     have h8 := (h7.pull 2).set 1 (.slice (some ⟨g2, off2, none⟩) q' cap')
     go_wp2_with fail
     go_end0
     exact ⟨rfl, (editS_I ((h8.pull 2).tail)).swap, (((Kp.refl w).drew.alloc _).trans k6).setCell _ _⟩
theorem keyCS {w : World} {b : Nat} {fr : List HProp} {h : Hd} {k : Int} {v : SpD} {pl pr : Value} {hi : Int} {ty : TypeId} (hs : Sat w (own b (.cells (itCS h k v pl pr hi) ty (0, 0)) :: fr)) : w.cell? ⟨b, 3, none⟩ = some (.int .i64 k) ∧ w.cell? ⟨b, 4, none⟩ = some (.bool v.inn) ∧ w.cell? ⟨b, 5, none⟩ = some (.int .i64 v.up) ∧ w.cell? ⟨b, 6, none⟩ = some (.string v.nm) :=
 ⟨hs.cell 3, hs.cell 4, hs.cell 5, hs.cell 6⟩
theorem itemS_node {w : World} {e m b : Nat} {fr : List HProp} {oh : Option Hd} {k : Int} {v : SpD} {x y : Value} {z : Int} {L R : HTS} {pl pr : Value} {gone : List Hd} {most : Int} {A : List SlotS} {F : List Int}
   (hs : Sat w (own b (.cells (itCS (hdOf oh) k v x y z) 273 (0, 0)) :: itemS L pl :: itemS R pr :: editS e m gone :: mapS m most A F :: fr))
   (hp : ∀ h, oh = some h → 1 ≤ h.s) (hg : gone.length ≤ 100000000) (hL : RepF A L) (hR : RepF A R) (hl : 0 ≤ L.high ∧ L.high ≤ 1000000000) (hr : 0 ≤ R.high ∧ R.high ≤ 1000000000) :
   Calls Tryz.prog 197 #[.pointer (some ⟨e, 0, none⟩), .pointer (some ⟨b, 0, none⟩), pl, pr] w fun x' w' => ∃ q, x' = .returned (.pointer q) ∧ Sat w' (itemS (nodeT k v L R) (.pointer q) :: editS e m (gone ++ lv oh) :: mapS m most A F :: own b (.cells (itCS (hdOf oh) k v x y z) 273 (0, 0)) :: fr) ∧ Kp w w' := by
 obtain ⟨ql, rfl⟩ := itemS_form (hs.pull 1)
 obtain ⟨qr, rfl⟩ := itemS_form (hs.pull 2)
 have hle := itemS_leave ((hs.pull 3).swap) hp hg
 have HLE := Lib.hid hle
 have HL := Lib.hid hL
 have HR := Lib.hid hR
 clear hle hs hp hL hR
 obtain ⟨hl1, hl2⟩ := hl
 obtain ⟨hr1, hr2⟩ := hr
 go_enter Tryz.func197, Tryz.ntmps197
 go_wp2_with fail
 refine HLE.out.mono ?_
 rintro x' w1 ⟨rfl, h1, k1⟩
 clear HLE
 have hh1 := itemS_high (((h1.push 3).pull 4).swap.pull 2).drew HL.out
 have hh2 := fun (W : World) hW => itemS_high (w := W) (e := e) (m := m) (t := R) (p := .pointer qr) (gone := gone ++ lv oh) (most := most) (A := A) (F := F) (fr := itemS L (.pointer ql) :: own b (.cells (itCS (hdOf oh) k v x y z) 273 (0, 0)) :: fr) hW HR.out
 obtain ⟨c3, c4, c5, c6⟩ := keyCS h1
 have hbl := h1.lt
 obtain ⟨lh, hlh⟩ : ∃ lh, L.high = lh := ⟨_, rfl⟩
 obtain ⟨rh, hrh⟩ : ∃ rh, R.high = rh := ⟨_, rfl⟩
 rw [hlh] at hh1 hl1 hl2
 rw [hrh] at hh2 hr1 hr2
 have HH2 := Lib.hid hh2
 have HEN := Lib.hid (show nodeT k v L R = .node none k v L R (1 + max lh rh) by rw [← hlh, ← hrh]; rfl)
 clear hh2 hlh hrh
 have hw1 : IntKind.i64.wrap (1 + lh) = 1 + lh := by rw [IntWalk.i64_in _ (by omega)]
 have hw2 : IntKind.i64.wrap (1 + rh) = 1 + rh := by rw [IntWalk.i64_in _ (by omega)]
 go_upto_region 2 with (fail)
 go_region_held3 (fun w' => w'.cell? ⟨b, 3, none⟩ = some (.int .i64 k) ∧ w'.cell? ⟨b, 4, none⟩ = some (.bool v.inn) ∧ w'.cell? ⟨b, 5, none⟩ = some (.int .i64 v.up) ∧ w'.cell? ⟨b, 6, none⟩ = some (.string v.nm)) (first | go_keep | exact ⟨c3, c4, c5, c6⟩ | exact keyCS (h3.pull 4) | exact keyCS (h2.pull 4))
   ((first | (go_at_call 194; (with_reducible refine hh1.mono ?_); rintro x1 w2 ⟨rfl, h2, k2⟩; have hh3 := HH2.out _ ((h2.pull 3).swap.push 3)) | (go_at_call 194; (with_reducible refine hh3.mono ?_); rintro x2 w3 ⟨rfl, h3, k3⟩)))
 all_goals
   clear hh1
   go_wp2_with fail
   all_goals
    go_ret
    try simp only [hw1, hw2]
    refine ⟨_, rfl, ?_, ((k1.drew.trans k2).trans k3).alloc _⟩
    rw [HEN.out]
    first
    | (rw [show max lh rh = rh by omega]
       exact itemS_I (oh := none) ((h3.alloc (.cells #[.int .i64 0, .int .i64 0, .bool true, .int .i64 k, .bool v.inn, .int .i64 v.up, .string v.nm, .pointer ql, .pointer qr, .int .i64 (1 + rh)] 273)).pull 4).swap)
    | (rw [show max lh rh = lh by omega]
       exact itemS_I (oh := none) ((h3.alloc (.cells #[.int .i64 0, .int .i64 0, .bool true, .int .i64 k, .bool v.inn, .int .i64 v.up, .string v.nm, .pointer ql, .pointer qr, .int .i64 (1 + lh)] 273)).pull 4).swap)
end Go.Proofs.YtddglbjhhnipgaaGreatDoor

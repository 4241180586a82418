import Derived.Test.YtddglbjhhnipgaaGreatDoorHF
namespace Go.Proofs.YtddglbjhhnipgaaGreatDoor
open Go Go.RowKit
set_option linter.unusedVariables false
set_option linter.unusedSimpArgs false

/-! ### a map, and an edit of it -/
def cmpFS : Value := .func (.func 63) #[] #[]
abbrev HTS := HT Int SpD
/-- A map at block m: how many nodes there may be, the slots, and those that are free. -/
def mapS (m : Nat) (most : Int) (A : List SlotS) (F : List Int) : HProp :=
  ex fun a => all [own m (.cells #[.pointer (some ⟨a, 0, none⟩), cmpFS] 186 (0, 0)), arenaS a most A F]
theorem mapS_I {w : World} {l : List HProp} {m a : Nat} {most : Int} {A : List SlotS} {F : List Int}
    (hs : Sat w (own m (.cells #[.pointer (some ⟨a, 0, none⟩), cmpFS] 186 (0, 0)) :: arenaS a most A F :: l)) : Sat w (mapS m most A F :: l) := Sat.exI a (Sat.allI hs)
theorem mapS_E {w : World} {l : List HProp} {m : Nat} {most : Int} {A : List SlotS} {F : List Int} (hs : Sat w (mapS m most A F :: l)) :
    ∃ a, Sat w (own m (.cells #[.pointer (some ⟨a, 0, none⟩), cmpFS] 186 (0, 0)) :: arenaS a most A F :: l) := by
  obtain ⟨a, h⟩ := hs.exE
  exact ⟨a, h.allE⟩
/-- An edit at block e: of which map, and what is gone. -/
def editS (e m : Nat) (gone : List Hd) : HProp :=
  ex fun v => all [own e (.cells #[.pointer (some ⟨m, 0, none⟩), v] 241 (0, 0)), rowT fH v 56 2 gone]
theorem editS_I {w : World} {l : List HProp} {e m : Nat} {gone : List Hd} {v : Value} (hs : Sat w (own e (.cells #[.pointer (some ⟨m, 0, none⟩), v] 241 (0, 0)) :: rowT fH v 56 2 gone :: l)) : Sat w (editS e m gone :: l) := Sat.exI v (Sat.allI hs)
theorem editS_E {w : World} {l : List HProp} {e m : Nat} {gone : List Hd} (hs : Sat w (editS e m gone :: l)) :
    ∃ v, Sat w (own e (.cells #[.pointer (some ⟨m, 0, none⟩), v] 241 (0, 0)) :: rowT fH v 56 2 gone :: l) := by
  obtain ⟨v, h⟩ := hs.exE
  exact ⟨v, h.allE⟩
theorem Tryz.infoHdS : (Tryz.prog.info? 56).map (fun i => (i.zero, i.size, i.bytes)) = some (some (.agg #[.int .i64 0, .int .i64 0]), 2, 16) := by kernel_rfl


/-- An item's cells: opened, and not yet. -/
def itCS (h : Hd) (k : Int) (v : SpD) (pl pr : Value) (hi : Int) : Array Value := #[.int .i64 h.s, .int .i64 h.g, .bool true, .int .i64 k, .bool v.inn, .int .i64 v.up, .string v.nm, pl, pr, .int .i64 hi]
def lzCS (h : Hd) : Array Value := #[.int .i64 h.s, .int .i64 h.g, .bool false, .int .i64 0, .bool false, .int .i64 0, .string ⟨#[]⟩, .pointer none, .pointer none, .int .i64 0]
def itemS : HTS → Value → HProp
  | .leaf, p => lift (p = .pointer none)
  | .node oh k v l r hi, p => ex fun b : Nat => all [lift (p = .pointer (some ⟨b, 0, none⟩)), orH (ex fun hd : Hd => all [lift (oh = some hd), own b (.cells (lzCS hd) 273 (0, 0))])
      (ex fun pl => ex fun pr => all [own b (.cells (itCS (hdOf oh) k v pl pr hi) 273 (0, 0)), itemS l pl, itemS r pr])]
theorem itemS_leaf {w : World} {l : List HProp} (hs : Sat w l) : Sat w (itemS .leaf (.pointer none) :: l) := hs.liftI rfl
theorem itemS_leafE {w : World} {l : List HProp} {p : Value} (hs : Sat w (itemS .leaf p :: l)) : p = .pointer none ∧ Sat w l := hs.liftE
theorem itemS_I {w : World} {fr : List HProp} {b : Nat} {oh : Option Hd} {k : Int} {v : SpD} {l r : HTS} {hi : Int} {pl pr : Value}
    (hs : Sat w (own b (.cells (itCS (hdOf oh) k v pl pr hi) 273 (0, 0)) :: itemS l pl :: itemS r pr :: fr)) : Sat w (itemS (.node oh k v l r hi) (.pointer (some ⟨b, 0, none⟩)) :: fr) :=
  Sat.exI b (Sat.allI (Sat.liftI rfl (Sat.orR (Sat.exI pl (Sat.exI pr (Sat.allI hs))))))
theorem itemS_lz {w : World} {fr : List HProp} {b : Nat} {hd : Hd} {k : Int} {v : SpD} {l r : HTS} {hi : Int} (hs : Sat w (own b (.cells (lzCS hd) 273 (0, 0)) :: fr)) : Sat w (itemS (.node (some hd) k v l r hi) (.pointer (some ⟨b, 0, none⟩)) :: fr) :=
  Sat.exI b (Sat.allI (Sat.liftI rfl (Sat.orL (Sat.exI hd (Sat.allI (Sat.liftI rfl hs))))))
theorem itemS_E {w : World} {fr : List HProp} {p : Value} {oh : Option Hd} {k : Int} {v : SpD} {l r : HTS} {hi : Int} (hs : Sat w (itemS (.node oh k v l r hi) p :: fr)) :
    ∃ b : Nat, p = .pointer (some ⟨b, 0, none⟩) ∧ ((∃ hd, oh = some hd ∧ Sat w (own b (.cells (lzCS hd) 273 (0, 0)) :: fr)) ∨ ∃ pl pr, Sat w (own b (.cells (itCS (hdOf oh) k v pl pr hi) 273 (0, 0)) :: itemS l pl :: itemS r pr :: fr)) := by
  obtain ⟨b, h⟩ := hs.exE
  obtain ⟨e, h⟩ := h.allE.liftE
  refine ⟨b, e, ?_⟩
  rcases h.orE with h | h
  · obtain ⟨hd, h⟩ := h.exE
    obtain ⟨e2, h⟩ := h.allE.liftE
    exact .inl ⟨hd, e2, h⟩
  · obtain ⟨pl, h⟩ := h.exE
    obtain ⟨pr, h⟩ := h.exE
    exact .inr ⟨pl, pr, h.allE⟩
theorem itemS_form {w : World} {fr : List HProp} {p : Value} {t : HTS} (hs : Sat w (itemS t p :: fr)) : ∃ q, p = .pointer q := by
  cases t with
  | leaf => exact ⟨_, (itemS_leafE hs).1⟩
  | node oh k v l r hi => obtain ⟨b, e, _⟩ := itemS_E hs; exact ⟨_, e⟩

set_option maxRecDepth 100000 in
set_option maxHeartbeats 1000000 in
theorem mapS_load {w : World} {l : List HProp} {m : Nat} {most : Int} {A : List SlotS} {F : List Int} {h : Hd} {s : SlotS} (hs : Sat w (mapS m most A F :: l)) (hin : InA A h s) :
    Calls Tryz.prog 119 #[.pointer (some ⟨m, 0, none⟩), .agg #[.int .i64 h.s, .int .i64 h.g]] w fun e w' => e = .returned (.tuple #[.agg #[.int .i64 s.k, .bool s.v.inn, .int .i64 s.v.up, .string s.v.nm, .int .i64 s.lh.s, .int .i64 s.lh.g, .int .i64 s.rh.s, .int .i64 s.rh.g, .int .i64 s.hi], .bool true]) ∧ Sat w' (mapS m most A F :: l) ∧ Kp w w' := by
  obtain ⟨a, hv⟩ := mapS_E hs
  have hB := (hv.alloc (.cells #[.int .i64 h.s, .int .i64 h.g] 56)).alloc (.cells #[.int .i64 0, .bool false, .int .i64 0, .string ⟨#[]⟩, .int .i64 0, .int .i64 0, .int .i64 0, .int .i64 0, .int .i64 0] 184)
  have kB := ((Kp.refl w).alloc (.cells #[.int .i64 h.s, .int .i64 h.g] 56)).alloc (.cells #[.int .i64 0, .bool false, .int .i64 0, .string ⟨#[]⟩, .int .i64 0, .int .i64 0, .int .i64 0, .int .i64 0, .int .i64 0] 184)
  simp only [World.size_alloc] at hB
  have HI := Lib.hid hin
  clear hin hs hv
  go_enter Tryz.func119, Tryz.ntmps119
  go_upto_region 1 with (fail)
  generalize World.alloc _ _ = w1 at hB kB ⊢
  generalize w.heap.size + 1 = R at hB ⊢
  generalize w.heap.size = B at hB ⊢
  have b0 := (hB.pull 1).cell 0
  have b1 := (hB.pull 1).cell 1
  have m0 := (hB.pull 2).cell 0
  simp at b0 b1 m0
  have hml := (hB.pull 2).lt
  have hge := arenaS_get ((hB.pull 3).drewN 1) HI.out
  go_region_with ((go_at_call 146; refine hge.mono ?_; rintro e w2 ⟨rfl, h2, k2⟩; have r0 := (h2.pull 1).cell 0; have r1 := (h2.pull 1).cell 1; have r2 := (h2.pull 1).cell 2; have r3 := (h2.pull 1).cell 3; have r4 := (h2.pull 1).cell 4; have r5 := (h2.pull 1).cell 5; have r6 := (h2.pull 1).cell 6; have r7 := (h2.pull 1).cell 7; have r8 := (h2.pull 1).cell 8; have rf0 := (h2.pull 1).free 0; have rf1 := (h2.pull 1).free 1; have rf2 := (h2.pull 1).free 2; have rf3 := (h2.pull 1).free 3; have rf4 := (h2.pull 1).free 4; have rf5 := (h2.pull 1).free 5; have rf6 := (h2.pull 1).free 6; have rf7 := (h2.pull 1).free 7; have rf8 := (h2.pull 1).free 8; simp at r0 r1 r2 r3 r4 r5 r6 r7 r8))
  all_goals
    obtain ⟨c', hE⟩ := Sat.putB [.int .i64 s.k, .bool s.v.inn, .int .i64 s.v.up, .string s.v.nm, .int .i64 s.lh.s, .int .i64 s.lh.g, .int .i64 s.rh.s, .int .i64 s.rh.g, .int .i64 s.hi] 0 (h2.pull 1)
    have kE := Kp.putCells (g := R) [.int .i64 s.k, .bool s.v.inn, .int .i64 s.v.up, .string s.v.nm, .int .i64 s.lh.s, .int .i64 s.lh.g, .int .i64 s.rh.s, .int .i64 s.rh.g, .int .i64 s.hi] 0 ((kB.drewN 1).trans k2)
    simp only [World.putCells, Nat.zero_add, Nat.reduceAdd] at hE kE
    have HE := Lib.hid hE
    clear hE
    go_wp2_with fail
    exact bodyPost_ret (v := .tuple #[.agg #[.int .i64 s.k, .bool s.v.inn, .int .i64 s.v.up, .string s.v.nm, .int .i64 s.lh.s, .int .i64 s.lh.g, .int .i64 s.rh.s, .int .i64 s.rh.g, .int .i64 s.hi], .bool true]) (by simp [results, Tryz.results119, go_sem, r0, r1, r2, r3, r4, r5, r6, r7, r8, rf0, rf1, rf2, rf3, rf4, rf5, rf6, rf7, rf8]) rfl ⟨rfl, mapS_I ((HE.out.tail.pull 1).tail.swap), kE⟩

set_option maxRecDepth 100000 in
set_option maxHeartbeats 1000000 in
theorem mapS_load_no {w : World} {l : List HProp} {m : Nat} {most : Int} {A : List SlotS} {F : List Int} {h : Hd} (hs : Sat w (mapS m most A F :: l)) (hno : ∀ s, ¬ InA A h s) :
    Calls Tryz.prog 119 #[.pointer (some ⟨m, 0, none⟩), .agg #[.int .i64 h.s, .int .i64 h.g]] w fun e w' => e = .returned (.tuple #[.agg #[.int .i64 0, .bool false, .int .i64 0, .string ⟨#[]⟩, .int .i64 0, .int .i64 0, .int .i64 0, .int .i64 0, .int .i64 0], .bool false]) ∧ Sat w' (mapS m most A F :: l) ∧ Kp w w' := by
  obtain ⟨a, hv⟩ := mapS_E hs
  have hB := (hv.alloc (.cells #[.int .i64 h.s, .int .i64 h.g] 56)).alloc (.cells #[.int .i64 0, .bool false, .int .i64 0, .string ⟨#[]⟩, .int .i64 0, .int .i64 0, .int .i64 0, .int .i64 0, .int .i64 0] 184)
  have kB := ((Kp.refl w).alloc (.cells #[.int .i64 h.s, .int .i64 h.g] 56)).alloc (.cells #[.int .i64 0, .bool false, .int .i64 0, .string ⟨#[]⟩, .int .i64 0, .int .i64 0, .int .i64 0, .int .i64 0, .int .i64 0] 184)
  simp only [World.size_alloc] at hB
  have HI := Lib.hid hno
  clear hno hs hv
  go_enter Tryz.func119, Tryz.ntmps119
  go_upto_region 1 with (fail)
  generalize World.alloc _ _ = w1 at hB kB ⊢
  generalize w.heap.size + 1 = R at hB ⊢
  generalize w.heap.size = B at hB ⊢
  have b0 := (hB.pull 1).cell 0
  have b1 := (hB.pull 1).cell 1
  have m0 := (hB.pull 2).cell 0
  simp at b0 b1 m0
  have hml := (hB.pull 2).lt
  have hge := arenaS_get_no ((hB.pull 3).drewN 1) HI.out
  go_region_with ((go_at_call 146; refine hge.mono ?_; rintro e w2 ⟨rfl, h2, k2⟩; have r0 := (h2.pull 1).cell 0; have r1 := (h2.pull 1).cell 1; have r2 := (h2.pull 1).cell 2; have r3 := (h2.pull 1).cell 3; have r4 := (h2.pull 1).cell 4; have r5 := (h2.pull 1).cell 5; have r6 := (h2.pull 1).cell 6; have r7 := (h2.pull 1).cell 7; have r8 := (h2.pull 1).cell 8; have rf0 := (h2.pull 1).free 0; have rf1 := (h2.pull 1).free 1; have rf2 := (h2.pull 1).free 2; have rf3 := (h2.pull 1).free 3; have rf4 := (h2.pull 1).free 4; have rf5 := (h2.pull 1).free 5; have rf6 := (h2.pull 1).free 6; have rf7 := (h2.pull 1).free 7; have rf8 := (h2.pull 1).free 8; simp at r0 r1 r2 r3 r4 r5 r6 r7 r8))
  all_goals
    obtain ⟨c', hE⟩ := Sat.putB [.int .i64 0, .bool false, .int .i64 0, .string ⟨#[]⟩, .int .i64 0, .int .i64 0, .int .i64 0, .int .i64 0, .int .i64 0] 0 (h2.pull 1)
    have kE := Kp.putCells (g := R) [.int .i64 0, .bool false, .int .i64 0, .string ⟨#[]⟩, .int .i64 0, .int .i64 0, .int .i64 0, .int .i64 0, .int .i64 0] 0 ((kB.drewN 1).trans k2)
    simp only [World.putCells, Nat.zero_add, Nat.reduceAdd] at hE kE
    have HE := Lib.hid hE
    clear hE
    go_wp2_with fail
    exact bodyPost_ret (v := .tuple #[.agg #[.int .i64 0, .bool false, .int .i64 0, .string ⟨#[]⟩, .int .i64 0, .int .i64 0, .int .i64 0, .int .i64 0, .int .i64 0], .bool false]) (by simp [results, Tryz.results119, go_sem, r0, r1, r2, r3, r4, r5, r6, r7, r8, rf0, rf1, rf2, rf3, rf4, rf5, rf6, rf7, rf8]) rfl ⟨rfl, mapS_I ((HE.out.tail.pull 1).tail.swap), kE⟩

theorem mapS_room {w : World} {l : List HProp} {m : Nat} {most : Int} {A : List SlotS} {F : List Int} (hs : Sat w (mapS m most A F :: l)) (h0 : 0 ≤ most) (h1 : most ≤ 1048576) (hA : A.length ≤ 1048576) (hF : F.length ≤ 1048576) :
    Calls Tryz.prog 168 #[.pointer (some ⟨m, 0, none⟩)] w fun e w' => e = .returned (.int .i64 (roomA most A F)) ∧ Sat w' (mapS m most A F :: l) ∧ Kp w w' := by
  obtain ⟨a, hv⟩ := mapS_E hs
  have m0 := hv.cell 0
  simp at m0
  have hro := arenaS_room (hv.pull 1) h0 h1 hA hF
  go_enter Tryz.func168, Tryz.ntmps168
  go_wp2_with fail
  refine hro.mono ?_
  rintro e w2 ⟨rfl, h2, k2⟩
  go_wp2_with fail
  go_ret
  exact ⟨rfl, mapS_I h2.swap, k2⟩

set_option maxRecDepth 100000 in
theorem mapS_free {w : World} {l : List HProp} {m : Nat} {most : Int} {A : List SlotS} {F : List Int} {G : Nat} {h : Hd} {s : SlotS} (hs : Sat w (mapS m most A F :: l)) (hW : WfA A F G) (hin : InA A h s) (hF : F.length ≤ 1048576) :
    Calls Tryz.prog 158 #[.pointer (some ⟨m, 0, none⟩), .agg #[.int .i64 h.s, .int .i64 h.g]] w fun e w' => ∃ (A' : List SlotS) (F' : List Int), e = .returned (.bool true) ∧ WfA A' F' G ∧ FreeA most A F h A' F' ∧ A'.length = A.length ∧ Sat w' (mapS m most A' F' :: l) ∧ Kp w w' := by
  obtain ⟨a, hv⟩ := mapS_E hs
  have hB := hv.alloc (.cells #[.int .i64 h.s, .int .i64 h.g] 56)
  have kB := (Kp.refl w).alloc (.cells #[.int .i64 h.s, .int .i64 h.g] 56)
  go_enter Tryz.func158, Tryz.ntmps158
  go_upto_region 1 with (fail)
  generalize World.alloc _ _ = w1 at hB kB ⊢
  generalize w.heap.size = B at hB ⊢
  have b0 := hB.cell 0
  have b1 := hB.cell 1
  have m0 := (hB.pull 1).cell 0
  simp at b0 b1 m0
  have hml := (hB.pull 1).lt
  have hge := arenaS_free ((hB.pull 2).drewN 1) hW hin hF
  have HGE := Lib.hid hge
  clear hge hW hin
  go_region_with ((go_at_call 184; refine HGE.out.mono ?_; rintro e w2 ⟨A', F', rfl, p1, p2, p3, h2, k2⟩))
  all_goals
    go_wp2_with fail
    go_ret
    exact ⟨A', F', rfl, p1, p2, p3, mapS_I ((h2.pull 1).tail.swap), (kB.drewN 1).trans k2⟩
set_option maxRecDepth 100000 in
theorem mapS_free_no {w : World} {l : List HProp} {m : Nat} {most : Int} {A : List SlotS} {F : List Int} {h : Hd} (hs : Sat w (mapS m most A F :: l)) (hno : ∀ s, ¬ InA A h s) :
    Calls Tryz.prog 158 #[.pointer (some ⟨m, 0, none⟩), .agg #[.int .i64 h.s, .int .i64 h.g]] w fun e w' => e = .returned (.bool false) ∧ Sat w' (mapS m most A F :: l) ∧ Kp w w' := by
  obtain ⟨a, hv⟩ := mapS_E hs
  have hB := hv.alloc (.cells #[.int .i64 h.s, .int .i64 h.g] 56)
  have kB := (Kp.refl w).alloc (.cells #[.int .i64 h.s, .int .i64 h.g] 56)
  go_enter Tryz.func158, Tryz.ntmps158
  go_upto_region 1 with (fail)
  generalize World.alloc _ _ = w1 at hB kB ⊢
  generalize w.heap.size = B at hB ⊢
  have b0 := hB.cell 0
  have b1 := hB.cell 1
  have m0 := (hB.pull 1).cell 0
  simp at b0 b1 m0
  have hml := (hB.pull 1).lt
  have hge := arenaS_free_no ((hB.pull 2).drewN 1) hno
  have HGE := Lib.hid hge
  clear hge hno
  go_region_with ((go_at_call 184; refine HGE.out.mono ?_; rintro e w2 ⟨rfl, h2, k2⟩))
  all_goals
    go_wp2_with fail
    go_ret
    exact ⟨rfl, mapS_I ((h2.pull 1).tail.swap), (kB.drewN 1).trans k2⟩

end Go.Proofs.YtddglbjhhnipgaaGreatDoor

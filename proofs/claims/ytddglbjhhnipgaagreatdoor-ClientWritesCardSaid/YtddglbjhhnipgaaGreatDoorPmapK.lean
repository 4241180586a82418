import Derived.Test.YtddglbjhhnipgaaGreatDoorHE
namespace Go.Proofs.YtddglbjhhnipgaaGreatDoor
open Go Go.RowKit
set_option linter.unusedVariables false
set_option linter.unusedSimpArgs false

/-! ### a map, and an edit of it -/
def cmpFK : Value := .func (.func 61) #[] #[]
abbrev HTK := HT KidD Bool
/-- A map at block m: how many nodes there may be, the slots, and those that are free. -/
def mapK (m : Nat) (most : Int) (A : List SlotK) (F : List Int) : HProp :=
  ex fun a => all [own m (.cells #[.pointer (some ⟨a, 0, none⟩), cmpFK] 164 (0, 0)), arenaK a most A F]
theorem mapK_I {w : World} {l : List HProp} {m a : Nat} {most : Int} {A : List SlotK} {F : List Int}
    (hs : Sat w (own m (.cells #[.pointer (some ⟨a, 0, none⟩), cmpFK] 164 (0, 0)) :: arenaK a most A F :: l)) : Sat w (mapK m most A F :: l) := Sat.exI a (Sat.allI hs)
theorem mapK_E {w : World} {l : List HProp} {m : Nat} {most : Int} {A : List SlotK} {F : List Int} (hs : Sat w (mapK m most A F :: l)) :
    ∃ a, Sat w (own m (.cells #[.pointer (some ⟨a, 0, none⟩), cmpFK] 164 (0, 0)) :: arenaK a most A F :: l) := by
  obtain ⟨a, h⟩ := hs.exE
  exact ⟨a, h.allE⟩
/-- An edit at block e: of which map, and what is gone. -/
def editK (e m : Nat) (gone : List Hd) : HProp :=
  ex fun v => all [own e (.cells #[.pointer (some ⟨m, 0, none⟩), v] 234 (0, 0)), rowT fH v 56 2 gone]
theorem editK_I {w : World} {l : List HProp} {e m : Nat} {gone : List Hd} {v : Value} (hs : Sat w (own e (.cells #[.pointer (some ⟨m, 0, none⟩), v] 234 (0, 0)) :: rowT fH v 56 2 gone :: l)) : Sat w (editK e m gone :: l) := Sat.exI v (Sat.allI hs)
theorem editK_E {w : World} {l : List HProp} {e m : Nat} {gone : List Hd} (hs : Sat w (editK e m gone :: l)) :
    ∃ v, Sat w (own e (.cells #[.pointer (some ⟨m, 0, none⟩), v] 234 (0, 0)) :: rowT fH v 56 2 gone :: l) := by
  obtain ⟨v, h⟩ := hs.exE
  exact ⟨v, h.allE⟩
theorem Tryz.infoHdK : (Tryz.prog.info? 56).map (fun i => (i.zero, i.size, i.bytes)) = some (some (.agg #[.int .i64 0, .int .i64 0]), 2, 16) := by kernel_rfl


/-- An item's cells: opened, and not yet. -/
def itCK (h : Hd) (k : KidD) (v : Bool) (pl pr : Value) (hi : Int) : Array Value := #[.int .i64 h.s, .int .i64 h.g, .bool true, .int .i64 k.up, .string k.name, .int .i64 k.node, .bool v, pl, pr, .int .i64 hi]
def lzCK (h : Hd) : Array Value := #[.int .i64 h.s, .int .i64 h.g, .bool false, .int .i64 0, .string ⟨#[]⟩, .int .i64 0, .bool false, .pointer none, .pointer none, .int .i64 0]
def itemK : HTK → Value → HProp
  | .leaf, p => lift (p = .pointer none)
  | .node oh k v l r hi, p => ex fun b : Nat => all [lift (p = .pointer (some ⟨b, 0, none⟩)), orH (ex fun hd : Hd => all [lift (oh = some hd), own b (.cells (lzCK hd) 264 (0, 0))])
      (ex fun pl => ex fun pr => all [own b (.cells (itCK (hdOf oh) k v pl pr hi) 264 (0, 0)), itemK l pl, itemK r pr])]
theorem itemK_leaf {w : World} {l : List HProp} (hs : Sat w l) : Sat w (itemK .leaf (.pointer none) :: l) := hs.liftI rfl
theorem itemK_leafE {w : World} {l : List HProp} {p : Value} (hs : Sat w (itemK .leaf p :: l)) : p = .pointer none ∧ Sat w l := hs.liftE
theorem itemK_I {w : World} {fr : List HProp} {b : Nat} {oh : Option Hd} {k : KidD} {v : Bool} {l r : HTK} {hi : Int} {pl pr : Value}
    (hs : Sat w (own b (.cells (itCK (hdOf oh) k v pl pr hi) 264 (0, 0)) :: itemK l pl :: itemK r pr :: fr)) : Sat w (itemK (.node oh k v l r hi) (.pointer (some ⟨b, 0, none⟩)) :: fr) :=
  Sat.exI b (Sat.allI (Sat.liftI rfl (Sat.orR (Sat.exI pl (Sat.exI pr (Sat.allI hs))))))
theorem itemK_lz {w : World} {fr : List HProp} {b : Nat} {hd : Hd} {k : KidD} {v : Bool} {l r : HTK} {hi : Int} (hs : Sat w (own b (.cells (lzCK hd) 264 (0, 0)) :: fr)) : Sat w (itemK (.node (some hd) k v l r hi) (.pointer (some ⟨b, 0, none⟩)) :: fr) :=
  Sat.exI b (Sat.allI (Sat.liftI rfl (Sat.orL (Sat.exI hd (Sat.allI (Sat.liftI rfl hs))))))
theorem itemK_E {w : World} {fr : List HProp} {p : Value} {oh : Option Hd} {k : KidD} {v : Bool} {l r : HTK} {hi : Int} (hs : Sat w (itemK (.node oh k v l r hi) p :: fr)) :
    ∃ b : Nat, p = .pointer (some ⟨b, 0, none⟩) ∧ ((∃ hd, oh = some hd ∧ Sat w (own b (.cells (lzCK hd) 264 (0, 0)) :: fr)) ∨ ∃ pl pr, Sat w (own b (.cells (itCK (hdOf oh) k v pl pr hi) 264 (0, 0)) :: itemK l pl :: itemK r pr :: fr)) := by
  obtain ⟨b, h⟩ := hs.exE
  obtain ⟨e, h⟩ := h.allE.liftE
  refine ⟨b, e, ?_⟩
  rcases h.orE with h | h
  · obtain ⟨hd, h⟩ := h.exE
    obtain ⟨e2, h⟩ := h.allE.liftE
    exact .inl ⟨hd, e2, h⟩
  · obtain ⟨pl, h⟩ := h.exE
    obtain ⟨pr, h⟩ := h.exE
    exact .inr ⟨pl, pr, h.allE⟩
theorem itemK_form {w : World} {fr : List HProp} {p : Value} {t : HTK} (hs : Sat w (itemK t p :: fr)) : ∃ q, p = .pointer q := by
  cases t with
  | leaf => exact ⟨_, (itemK_leafE hs).1⟩
  | node oh k v l r hi => obtain ⟨b, e, _⟩ := itemK_E hs; exact ⟨_, e⟩

set_option maxRecDepth 100000 in
set_option maxHeartbeats 1000000 in
theorem mapK_load {w : World} {l : List HProp} {m : Nat} {most : Int} {A : List SlotK} {F : List Int} {h : Hd} {s : SlotK} (hs : Sat w (mapK m most A F :: l)) (hin : InA A h s) :
    Calls Tryz.prog 40 #[.pointer (some ⟨m, 0, none⟩), .agg #[.int .i64 h.s, .int .i64 h.g]] w fun e w' => e = .returned (.tuple #[.agg #[.int .i64 s.k.up, .string s.k.name, .int .i64 s.k.node, .bool s.v, .int .i64 s.lh.s, .int .i64 s.lh.g, .int .i64 s.rh.s, .int .i64 s.rh.g, .int .i64 s.hi], .bool true]) ∧ Sat w' (mapK m most A F :: l) ∧ Kp w w' := by
  obtain ⟨a, hv⟩ := mapK_E hs
  have hB := (hv.alloc (.cells #[.int .i64 h.s, .int .i64 h.g] 56)).alloc (.cells #[.int .i64 0, .string ⟨#[]⟩, .int .i64 0, .bool false, .int .i64 0, .int .i64 0, .int .i64 0, .int .i64 0, .int .i64 0] 75)
  have kB := ((Kp.refl w).alloc (.cells #[.int .i64 h.s, .int .i64 h.g] 56)).alloc (.cells #[.int .i64 0, .string ⟨#[]⟩, .int .i64 0, .bool false, .int .i64 0, .int .i64 0, .int .i64 0, .int .i64 0, .int .i64 0] 75)
  simp only [World.size_alloc] at hB
  have HI := Lib.hid hin
  clear hin hs hv
  go_enter Tryz.func40, Tryz.ntmps40
  go_upto_region 1 with (fail)
  generalize World.alloc _ _ = w1 at hB kB ⊢
  generalize w.heap.size + 1 = R at hB ⊢
  generalize w.heap.size = B at hB ⊢
  have b0 := (hB.pull 1).cell 0
  have b1 := (hB.pull 1).cell 1
  have m0 := (hB.pull 2).cell 0
  simp at b0 b1 m0
  have hml := (hB.pull 2).lt
  have hge := arenaK_get ((hB.pull 3).drewN 1) HI.out
  go_region_with ((go_at_call 82; refine hge.mono ?_; rintro e w2 ⟨rfl, h2, k2⟩; have r0 := (h2.pull 1).cell 0; have r1 := (h2.pull 1).cell 1; have r2 := (h2.pull 1).cell 2; have r3 := (h2.pull 1).cell 3; have r4 := (h2.pull 1).cell 4; have r5 := (h2.pull 1).cell 5; have r6 := (h2.pull 1).cell 6; have r7 := (h2.pull 1).cell 7; have r8 := (h2.pull 1).cell 8; have rf0 := (h2.pull 1).free 0; have rf1 := (h2.pull 1).free 1; have rf2 := (h2.pull 1).free 2; have rf3 := (h2.pull 1).free 3; have rf4 := (h2.pull 1).free 4; have rf5 := (h2.pull 1).free 5; have rf6 := (h2.pull 1).free 6; have rf7 := (h2.pull 1).free 7; have rf8 := (h2.pull 1).free 8; simp at r0 r1 r2 r3 r4 r5 r6 r7 r8))
  all_goals
    obtain ⟨c', hE⟩ := Sat.putB [.int .i64 s.k.up, .string s.k.name, .int .i64 s.k.node, .bool s.v, .int .i64 s.lh.s, .int .i64 s.lh.g, .int .i64 s.rh.s, .int .i64 s.rh.g, .int .i64 s.hi] 0 (h2.pull 1)
    have kE := Kp.putCells (g := R) [.int .i64 s.k.up, .string s.k.name, .int .i64 s.k.node, .bool s.v, .int .i64 s.lh.s, .int .i64 s.lh.g, .int .i64 s.rh.s, .int .i64 s.rh.g, .int .i64 s.hi] 0 ((kB.drewN 1).trans k2)
    simp only [World.putCells, Nat.zero_add, Nat.reduceAdd] at hE kE
    have HE := Lib.hid hE
    clear hE
    go_wp2_with fail
    exact bodyPost_ret (v := .tuple #[.agg #[.int .i64 s.k.up, .string s.k.name, .int .i64 s.k.node, .bool s.v, .int .i64 s.lh.s, .int .i64 s.lh.g, .int .i64 s.rh.s, .int .i64 s.rh.g, .int .i64 s.hi], .bool true]) (by simp [results, Tryz.results40, go_sem, r0, r1, r2, r3, r4, r5, r6, r7, r8, rf0, rf1, rf2, rf3, rf4, rf5, rf6, rf7, rf8]) rfl ⟨rfl, mapK_I ((HE.out.tail.pull 1).tail.swap), kE⟩

set_option maxRecDepth 100000 in
set_option maxHeartbeats 1000000 in
theorem mapK_load_no {w : World} {l : List HProp} {m : Nat} {most : Int} {A : List SlotK} {F : List Int} {h : Hd} (hs : Sat w (mapK m most A F :: l)) (hno : ∀ s, ¬ InA A h s) :
    Calls Tryz.prog 40 #[.pointer (some ⟨m, 0, none⟩), .agg #[.int .i64 h.s, .int .i64 h.g]] w fun e w' => e = .returned (.tuple #[.agg #[.int .i64 0, .string ⟨#[]⟩, .int .i64 0, .bool false, .int .i64 0, .int .i64 0, .int .i64 0, .int .i64 0, .int .i64 0], .bool false]) ∧ Sat w' (mapK m most A F :: l) ∧ Kp w w' := by
  obtain ⟨a, hv⟩ := mapK_E hs
  have hB := (hv.alloc (.cells #[.int .i64 h.s, .int .i64 h.g] 56)).alloc (.cells #[.int .i64 0, .string ⟨#[]⟩, .int .i64 0, .bool false, .int .i64 0, .int .i64 0, .int .i64 0, .int .i64 0, .int .i64 0] 75)
  have kB := ((Kp.refl w).alloc (.cells #[.int .i64 h.s, .int .i64 h.g] 56)).alloc (.cells #[.int .i64 0, .string ⟨#[]⟩, .int .i64 0, .bool false, .int .i64 0, .int .i64 0, .int .i64 0, .int .i64 0, .int .i64 0] 75)
  simp only [World.size_alloc] at hB
  have HI := Lib.hid hno
  clear hno hs hv
  go_enter Tryz.func40, Tryz.ntmps40
  go_upto_region 1 with (fail)
  generalize World.alloc _ _ = w1 at hB kB ⊢
  generalize w.heap.size + 1 = R at hB ⊢
  generalize w.heap.size = B at hB ⊢
  have b0 := (hB.pull 1).cell 0
  have b1 := (hB.pull 1).cell 1
  have m0 := (hB.pull 2).cell 0
  simp at b0 b1 m0
  have hml := (hB.pull 2).lt
  have hge := arenaK_get_no ((hB.pull 3).drewN 1) HI.out
  go_region_with ((go_at_call 82; refine hge.mono ?_; rintro e w2 ⟨rfl, h2, k2⟩; have r0 := (h2.pull 1).cell 0; have r1 := (h2.pull 1).cell 1; have r2 := (h2.pull 1).cell 2; have r3 := (h2.pull 1).cell 3; have r4 := (h2.pull 1).cell 4; have r5 := (h2.pull 1).cell 5; have r6 := (h2.pull 1).cell 6; have r7 := (h2.pull 1).cell 7; have r8 := (h2.pull 1).cell 8; have rf0 := (h2.pull 1).free 0; have rf1 := (h2.pull 1).free 1; have rf2 := (h2.pull 1).free 2; have rf3 := (h2.pull 1).free 3; have rf4 := (h2.pull 1).free 4; have rf5 := (h2.pull 1).free 5; have rf6 := (h2.pull 1).free 6; have rf7 := (h2.pull 1).free 7; have rf8 := (h2.pull 1).free 8; simp at r0 r1 r2 r3 r4 r5 r6 r7 r8))
  all_goals
    obtain ⟨c', hE⟩ := Sat.putB [.int .i64 0, .string ⟨#[]⟩, .int .i64 0, .bool false, .int .i64 0, .int .i64 0, .int .i64 0, .int .i64 0, .int .i64 0] 0 (h2.pull 1)
    have kE := Kp.putCells (g := R) [.int .i64 0, .string ⟨#[]⟩, .int .i64 0, .bool false, .int .i64 0, .int .i64 0, .int .i64 0, .int .i64 0, .int .i64 0] 0 ((kB.drewN 1).trans k2)
    simp only [World.putCells, Nat.zero_add, Nat.reduceAdd] at hE kE
    have HE := Lib.hid hE
    clear hE
    go_wp2_with fail
    exact bodyPost_ret (v := .tuple #[.agg #[.int .i64 0, .string ⟨#[]⟩, .int .i64 0, .bool false, .int .i64 0, .int .i64 0, .int .i64 0, .int .i64 0, .int .i64 0], .bool false]) (by simp [results, Tryz.results40, go_sem, r0, r1, r2, r3, r4, r5, r6, r7, r8, rf0, rf1, rf2, rf3, rf4, rf5, rf6, rf7, rf8]) rfl ⟨rfl, mapK_I ((HE.out.tail.pull 1).tail.swap), kE⟩

theorem mapK_room {w : World} {l : List HProp} {m : Nat} {most : Int} {A : List SlotK} {F : List Int} (hs : Sat w (mapK m most A F :: l)) (h0 : 0 ≤ most) (h1 : most ≤ 1048576) (hA : A.length ≤ 1048576) (hF : F.length ≤ 1048576) :
    Calls Tryz.prog 161 #[.pointer (some ⟨m, 0, none⟩)] w fun e w' => e = .returned (.int .i64 (roomA most A F)) ∧ Sat w' (mapK m most A F :: l) ∧ Kp w w' := by
  obtain ⟨a, hv⟩ := mapK_E hs
  have m0 := hv.cell 0
  simp at m0
  have hro := arenaK_room (hv.pull 1) h0 h1 hA hF
  go_enter Tryz.func161, Tryz.ntmps161
  go_wp2_with fail
  refine hro.mono ?_
  rintro e w2 ⟨rfl, h2, k2⟩
  go_wp2_with fail
  go_ret
  exact ⟨rfl, mapK_I h2.swap, k2⟩

set_option maxRecDepth 100000 in
theorem mapK_free {w : World} {l : List HProp} {m : Nat} {most : Int} {A : List SlotK} {F : List Int} {G : Nat} {h : Hd} {s : SlotK} (hs : Sat w (mapK m most A F :: l)) (hW : WfA A F G) (hin : InA A h s) (hF : F.length ≤ 1048576) :
    Calls Tryz.prog 157 #[.pointer (some ⟨m, 0, none⟩), .agg #[.int .i64 h.s, .int .i64 h.g]] w fun e w' => ∃ (A' : List SlotK) (F' : List Int), e = .returned (.bool true) ∧ WfA A' F' G ∧ FreeA most A F h A' F' ∧ A'.length = A.length ∧ Sat w' (mapK m most A' F' :: l) ∧ Kp w w' := by
  obtain ⟨a, hv⟩ := mapK_E hs
  have hB := hv.alloc (.cells #[.int .i64 h.s, .int .i64 h.g] 56)
  have kB := (Kp.refl w).alloc (.cells #[.int .i64 h.s, .int .i64 h.g] 56)
  go_enter Tryz.func157, Tryz.ntmps157
  go_upto_region 1 with (fail)
  generalize World.alloc _ _ = w1 at hB kB ⊢
  generalize w.heap.size = B at hB ⊢
  have b0 := hB.cell 0
  have b1 := hB.cell 1
  have m0 := (hB.pull 1).cell 0
  simp at b0 b1 m0
  have hml := (hB.pull 1).lt
  have hge := arenaK_free ((hB.pull 2).drewN 1) hW hin hF
  have HGE := Lib.hid hge
  clear hge hW hin
  go_region_with ((go_at_call 183; refine HGE.out.mono ?_; rintro e w2 ⟨A', F', rfl, p1, p2, p3, h2, k2⟩))
  all_goals
    go_wp2_with fail
    go_ret
    exact ⟨A', F', rfl, p1, p2, p3, mapK_I ((h2.pull 1).tail.swap), (kB.drewN 1).trans k2⟩
set_option maxRecDepth 100000 in
theorem mapK_free_no {w : World} {l : List HProp} {m : Nat} {most : Int} {A : List SlotK} {F : List Int} {h : Hd} (hs : Sat w (mapK m most A F :: l)) (hno : ∀ s, ¬ InA A h s) :
    Calls Tryz.prog 157 #[.pointer (some ⟨m, 0, none⟩), .agg #[.int .i64 h.s, .int .i64 h.g]] w fun e w' => e = .returned (.bool false) ∧ Sat w' (mapK m most A F :: l) ∧ Kp w w' := by
  obtain ⟨a, hv⟩ := mapK_E hs
  have hB := hv.alloc (.cells #[.int .i64 h.s, .int .i64 h.g] 56)
  have kB := (Kp.refl w).alloc (.cells #[.int .i64 h.s, .int .i64 h.g] 56)
  go_enter Tryz.func157, Tryz.ntmps157
  go_upto_region 1 with (fail)
  generalize World.alloc _ _ = w1 at hB kB ⊢
  generalize w.heap.size = B at hB ⊢
  have b0 := hB.cell 0
  have b1 := hB.cell 1
  have m0 := (hB.pull 1).cell 0
  simp at b0 b1 m0
  have hml := (hB.pull 1).lt
  have hge := arenaK_free_no ((hB.pull 2).drewN 1) hno
  have HGE := Lib.hid hge
  clear hge hno
  go_region_with ((go_at_call 183; refine HGE.out.mono ?_; rintro e w2 ⟨rfl, h2, k2⟩))
  all_goals
    go_wp2_with fail
    go_ret
    exact ⟨rfl, mapK_I ((h2.pull 1).tail.swap), (kB.drewN 1).trans k2⟩

end Go.Proofs.YtddglbjhhnipgaaGreatDoor

import Derived.Test.YtddglbjhhnipgaaGreatDoorIC
import Derived.Test.YtddglbjhhnipgaaGreatDoorIP
import Derived.Deep.LoopGhost
import Derived.Handy
namespace Go.Proofs.YtddglbjhhnipgaaGreatDoor
open Go Go.RowKit
set_option linter.unusedVariables false
set_option linter.unusedSimpArgs false
set_option maxRecDepth 100000
set_option maxHeartbeats 8000000
theorem RepF.monoK {A A' : List SlotK} (hA : ALe A A') : ∀ {t : HTK}, RepF A t → RepF A' t
 | .leaf, _ => trivial
 | .node none k v l r hi, h => ⟨RepF.monoK hA h.1, RepF.monoK hA h.2⟩
 | .node (some hd) k v l r hi, h => RepO.mono (t := .node (some hd) k v l r hi) hA h
/-- An edit whose slice of what is gone is told. -/
def ed1K (e m : Nat) (ev : Value) (gone : List Hd) : HProp := all [own e (.cells #[.pointer (some ⟨m, 0, none⟩), ev] 234 (0, 0)), rowT fH ev 56 2 gone]
theorem ed1K_E {w : World} {l : List HProp} {e m : Nat} {ev : Value} {gone : List Hd} (hs : Sat w (ed1K e m ev gone :: l)) : Sat w (own e (.cells #[.pointer (some ⟨m, 0, none⟩), ev] 234 (0, 0)) :: rowT fH ev 56 2 gone :: l) := hs.allE
theorem editK_E1 {w : World} {l : List HProp} {e m : Nat} {gone : List Hd} (hs : Sat w (editK e m gone :: l)) : ∃ ev, Sat w (ed1K e m ev gone :: l) := by
 obtain ⟨v, h⟩ := editK_E hs
 exact ⟨v, Sat.allI h⟩
theorem ed1K_cell {w : World} {l : List HProp} {e m : Nat} {ev : Value} {gone : List Hd} (hs : Sat w (ed1K e m ev gone :: l)) : w.cell? ⟨e, 0, none⟩ = some (.pointer (some ⟨m, 0, none⟩)) := (ed1K_E hs).cell 0
/-- A node as it is built. -/
def newK (k : KidD) (v : Bool) (a b : Hd) (hi : Int) : SlotK := ⟨0, false, k, v, a, b, hi⟩
theorem st8K {w : World} {e m a C : Nat} {x : SlotK} {ev : Value} {gone : List Hd} {fr : List HProp} (hs : Sat w (own m (.cells #[.pointer (some ⟨a, 0, none⟩), cmpFK] 164 (0, 0)) :: own C (.cells #[.int .i64 x.k.up, .string x.k.name, .int .i64 x.k.node, .bool x.v, .int .i64 x.lh.s, .int .i64 x.lh.g, .int .i64 x.rh.s, .int .i64 x.rh.g, .int .i64 x.hi] 75 (0, 0)) :: ed1K e m ev gone :: fr)) :
   w.cell? ⟨e, 0, none⟩ = some (.pointer (some ⟨m, 0, none⟩)) ∧ w.cell? ⟨m, 0, none⟩ = some (.pointer (some ⟨a, 0, none⟩)) ∧ (w.cell? ⟨C, 0, none⟩ = some (.int .i64 x.k.up) ∧ w.cell? ⟨C, 1, none⟩ = some (.string x.k.name) ∧ w.cell? ⟨C, 2, none⟩ = some (.int .i64 x.k.node) ∧ w.cell? ⟨C, 3, none⟩ = some (.bool x.v) ∧ w.cell? ⟨C, 4, none⟩ = some (.int .i64 x.lh.s) ∧ w.cell? ⟨C, 5, none⟩ = some (.int .i64 x.lh.g) ∧ w.cell? ⟨C, 6, none⟩ = some (.int .i64 x.rh.s) ∧ w.cell? ⟨C, 7, none⟩ = some (.int .i64 x.rh.g) ∧ w.cell? ⟨C, 8, none⟩ = some (.int .i64 x.hi)) := by
 have h1 := hs.pull 1
 exact ⟨ed1K_cell (hs.pull 2), hs.cell 0, h1.cell 0, h1.cell 1, h1.cell 2, h1.cell 3, h1.cell 4, h1.cell 5, h1.cell 6, h1.cell 7, h1.cell 8⟩
theorem st8AK {w : World} {e m a B C o : Nat} {x : SlotK} {h rt : Hd} {made : List Hd} {vg : Value} {ev : Value} {gone : List Hd} {most : Int} {A : List SlotK} {F : List Int} {fr : List HProp} (hs : Sat w (arenaK a most A F :: own m (.cells #[.pointer (some ⟨a, 0, none⟩), cmpFK] 164 (0, 0)) :: own C (.cells #[.int .i64 x.k.up, .string x.k.name, .int .i64 x.k.node, .bool x.v, .int .i64 x.lh.s, .int .i64 x.lh.g, .int .i64 x.rh.s, .int .i64 x.rh.g, .int .i64 x.hi] 75 (0, 0)) :: ed1K e m ev gone :: outK o rt made vg :: own B (.cells #[.int .i64 0, .int .i64 0] 56 (0, 0)) :: fr)) :
   Sat (w.alloc (.cells #[.int .i64 h.s, .int .i64 h.g] 56)) (own w.heap.size (.cells #[.int .i64 h.s, .int .i64 h.g] 56 (0, 0)) :: own B (.cells #[.int .i64 0, .int .i64 0] 56 (0, 0)) :: ed1K e m ev gone :: mapK m most A F :: outK o rt made vg :: fr) := by
 have g := mapK_I hs.swap
 exact (((g.pull 1).tail.swap).pull 3).alloc _
theorem st8BK {w : World} {e m a B C D o : Nat} {x : SlotK} {h rt : Hd} {made : List Hd} {vg : Value} {ev : Value} {gone : List Hd} {most : Int} {A : List SlotK} {F : List Int} {fr : List HProp} (hs : Sat w (arenaK a most A F :: own D (.cells #[.int .i64 0, .int .i64 0] 56 (0, 0)) :: own m (.cells #[.pointer (some ⟨a, 0, none⟩), cmpFK] 164 (0, 0)) :: own C (.cells #[.int .i64 x.k.up, .string x.k.name, .int .i64 x.k.node, .bool x.v, .int .i64 x.lh.s, .int .i64 x.lh.g, .int .i64 x.rh.s, .int .i64 x.rh.g, .int .i64 x.hi] 75 (0, 0)) :: ed1K e m ev gone :: outK o rt made vg :: own B (.cells #[.int .i64 0, .int .i64 0] 56 (0, 0)) :: fr)) :
   Sat ((w.setCell ⟨D, 0, none⟩ (.int .i64 h.s)).setCell ⟨D, 1, none⟩ (.int .i64 h.g)) (own D (.cells #[.int .i64 h.s, .int .i64 h.g] 56 (0, 0)) :: own B (.cells #[.int .i64 0, .int .i64 0] 56 (0, 0)) :: ed1K e m ev gone :: mapK m most A F :: outK o rt made vg :: fr) := by
 have g1 := ((hs.pull 1).set 0 (.int .i64 h.s)).set 1 (.int .i64 h.g)
 have g2 := mapK_I (g1.push 2).swap
 have g3 := ((g2.pull 2).tail.pull 1).pull 4
 exact (g3.swap.pull 3).push 2
/-- What store comes to, in memory. -/
def StoreQK (e m o : Nat) (ev : Value) (gone : List Hd) (most : Int) (A : List SlotK) (F : List Int) (G : Nat) (t : HTK) (rt : Hd) (made : List Hd) (vg : Value) (fr : List HProp) (w : World) (x : Ending) (w' : World) : Prop :=
 ∃ (A' : List SlotK) (F' : List Int) (T' : HTK) (news : List Hd), x = .returned (.agg #[.int .i64 T'.root.s, .int .i64 T'.root.g]) ∧ Laid most A F G t A' F' T' news ∧ Sat w' (ed1K e m ev gone :: mapK m most A' F' :: outK o rt (made ++ news) vg :: fr) ∧ Kp w w'
theorem itemK_store_new {w : World} {e m o : Nat} {fr : List HProp} {p : Value} {k : KidD} {v : Bool} {l r : HTK} {hi : Int} {ev : Value} {gone : List Hd} {most : Int} {A : List SlotK} {F : List Int} {G : Nat} {rt : Hd} {made : List Hd} {vg : Value}
   (hs : Sat w (itemK (.node none k v l r hi) p :: ed1K e m ev gone :: mapK m most A F :: outK o rt made vg :: fr))
   (hm0 : 0 ≤ most) (hm1 : most ≤ 1000000) (hA : (A.length : Int) ≤ most) (hG : G + (freshT l + freshT r + 1) < 1000000000000) (hroom : ((1 + freshT l + freshT r : Nat) : Int) ≤ roomA most A F) (hn : made.length + (1 + freshT l + freshT r) ≤ 100000000)
   (IHL : Hid (∀ (W : World) (q : Option Addr) (fr' : List HProp), Sat W (itemK l (.pointer q) :: ed1K e m ev gone :: mapK m most A F :: outK o rt made vg :: fr') → Calls Tryz.prog 162 #[.pointer (some ⟨e, 0, none⟩), .pointer q, .pointer (some ⟨o, 0, none⟩)] W (StoreQK e m o ev gone most A F G l rt made vg fr' W)))
   (IHR : Hid (∀ (W : World) (q : Option Addr) (fr' : List HProp) (A1 : List SlotK) (F1 : List Int) (L : HTK) (n1 : List Hd), Laid most A F G l A1 F1 L n1 → Sat W (itemK r (.pointer q) :: ed1K e m ev gone :: mapK m most A1 F1 :: outK o rt (made ++ n1) vg :: fr') → Calls Tryz.prog 162 #[.pointer (some ⟨e, 0, none⟩), .pointer q, .pointer (some ⟨o, 0, none⟩)] W (StoreQK e m o ev gone most A1 F1 (G + freshT l) r rt (made ++ n1) vg fr' W))) :
   Calls Tryz.prog 162 #[.pointer (some ⟨e, 0, none⟩), p, .pointer (some ⟨o, 0, none⟩)] w (StoreQK e m o ev gone most A F G (.node none k v l r hi) rt made vg fr w) := by
 obtain ⟨b, rfl, ⟨hd, e, h1⟩ | ⟨pl, pr, h1⟩⟩ := itemK_E hs
 · cases e
 obtain ⟨ql, rfl⟩ := itemK_form (h1.pull 1)
 obtain ⟨qr, rfl⟩ := itemK_form (h1.pull 2)
 have hB := h1.alloc (.cells #[.int .i64 0, .int .i64 0] 56)
 have kB := (Kp.refl w).alloc (.cells #[.int .i64 0, .int .i64 0] 56)
 clear hs h1
 go_enter Tryz.func162, Tryz.ntmps162
 go_upto_region 1 with (fail)
 generalize World.alloc _ _ = w1 at hB kB ⊢
 generalize w.heap.size = B at hB ⊢
 obtain ⟨c3, c4, c5, c6⟩ := allCK (hB.pull 1)
 have c0 := (hB.pull 1).cell 0
 have c1 := (hB.pull 1).cell 1
 have c9 := (hB.pull 1).cell 9
 simp [itCK, hdOf, Hd.nil] at c0 c1 c9
 have hbl := (hB.pull 1).lt
 go_upto_region 5 with (fail)
 go_cut [7] from 23 to 36 (fun cv wx => ∃ Q : Nat, cv = .pointer (some ⟨Q, 0, none⟩) ∧ Sat wx (own Q (.cells #[.int .i64 (newK k v Hd.nil Hd.nil hi).k.up, .string (newK k v Hd.nil Hd.nil hi).k.name, .int .i64 (newK k v Hd.nil Hd.nil hi).k.node, .bool (newK k v Hd.nil Hd.nil hi).v, .int .i64 (newK k v Hd.nil Hd.nil hi).lh.s, .int .i64 (newK k v Hd.nil Hd.nil hi).lh.g, .int .i64 (newK k v Hd.nil Hd.nil hi).rh.s, .int .i64 (newK k v Hd.nil Hd.nil hi).rh.g, .int .i64 (newK k v Hd.nil Hd.nil hi).hi] 75 (0, 0)) :: own B (.cells #[.int .i64 0, .int .i64 0] 56 (0, 0)) :: own b (.cells (itCK (hdOf none) k v (.pointer ql) (.pointer qr) hi) 264 (0, 0)) :: itemK l (.pointer ql) :: itemK r (.pointer qr) :: ed1K e m ev gone :: mapK m most A F :: outK o rt made vg :: fr) ∧ Kp w wx)
 case first =>
   go_region
   go_wp2_with fail
   go_meet
   case rel =>
     exact ⟨_, rfl, (hB.alloc (.cells #[.int .i64 (newK k v Hd.nil Hd.nil hi).k.up, .string (newK k v Hd.nil Hd.nil hi).k.name, .int .i64 (newK k v Hd.nil Hd.nil hi).k.node, .bool (newK k v Hd.nil Hd.nil hi).v, .int .i64 (newK k v Hd.nil Hd.nil hi).lh.s, .int .i64 (newK k v Hd.nil Hd.nil hi).lh.g, .int .i64 (newK k v Hd.nil Hd.nil hi).rh.s, .int .i64 (newK k v Hd.nil Hd.nil hi).rh.g, .int .i64 (newK k v Hd.nil Hd.nil hi).hi] 75)).drew, (kB.alloc _).drew⟩
 case rest =>
   obtain ⟨C, rfl, h2, k2⟩ := hcut
   clear hB kB c3 c4 c5 c6 c0 c1 c9 hbl
   have hbc : b ≠ C := (h2.pull 2).ne
   have hbc2 : C ≠ b := hbc.symm
   obtain ⟨c7, c8⟩ := linkCK (h2.pull 2)
   have hbl := (h2.pull 2).lt
   have hi1 := IHL.out _ _ _ ((((h2.pull 7).pull 7).pull 7).pull 6)
   go_wp2_with fail
   refine hi1.mono ?_
   rintro x w3 ⟨A1, F1, L, n1, rfl, hL1, h3, k3⟩
   have k3 := k2.trans k3
   have HL1 := Lib.hid hL1
   clear hi1 IHL hL1 h2 k2 c7 c8 hbl
   have c0 := (h3.pull 3).cell 0
   have c1 := (h3.pull 3).cell 1
   have c2 := (h3.pull 3).cell 2
   have c3 := (h3.pull 3).cell 3
   have c4 := (h3.pull 3).cell 4
   have c5 := (h3.pull 3).cell 5
   have c6 := (h3.pull 3).cell 6
   have c7 := (h3.pull 3).cell 7
   have c8 := (h3.pull 3).cell 8
   have cf0 := (h3.pull 3).free 0
   have cf1 := (h3.pull 3).free 1
   have cf2 := (h3.pull 3).free 2
   have cf3 := (h3.pull 3).free 3
   have cf4 := (h3.pull 3).free 4
   have cf5 := (h3.pull 3).free 5
   have cf6 := (h3.pull 3).free 6
   have cf7 := (h3.pull 3).free 7
   have cf8 := (h3.pull 3).free 8
   simp at c0 c1 c2 c3 c4 c5 c6 c7 c8
   obtain ⟨e7, e8⟩ := linkCK (h3.pull 5)
   have hbl := (h3.pull 5).lt
   have hcl := (h3.pull 3).lt
   have h4 := ((h3.pull 3).set 4 (.int .i64 L.root.s)).set 5 (.int .i64 L.root.g)
   have k4 := (k3.setCell ⟨C, 4, none⟩ (.int .i64 L.root.s)).setCell ⟨C, 5, none⟩ (.int .i64 L.root.g)
   go_upto_region 7 with (fail)
   generalize World.setCell _ _ _ = w4 at h4 k4 ⊢
   clear h3 k3 hbl hcl e7 e8 c0 c1 c2 c3 c4 c5 c6 c7 c8 cf0 cf1 cf2 cf3 cf4 cf5 cf6 cf7 cf8
   obtain ⟨e7, e8⟩ := linkCK (h4.pull 5)
   have hbl := (h4.pull 5).lt
   have hi2 := IHR.out _ _ _ _ _ _ _ HL1.out ((h4.push 3).pull 6)
   go_wp2_with fail
   refine hi2.mono ?_
   rintro x w5 ⟨A2, F2, R, n2, rfl, hL2, h5, k5⟩
   have k5 := k4.trans k5
   have HL2 := Lib.hid hL2
   clear hi2 IHR hL2 h4 k4 e7 e8 hbl
   have c0 := (h5.pull 3).cell 0
   have c1 := (h5.pull 3).cell 1
   have c2 := (h5.pull 3).cell 2
   have c3 := (h5.pull 3).cell 3
   have c4 := (h5.pull 3).cell 4
   have c5 := (h5.pull 3).cell 5
   have c6 := (h5.pull 3).cell 6
   have c7 := (h5.pull 3).cell 7
   have c8 := (h5.pull 3).cell 8
   have cf0 := (h5.pull 3).free 0
   have cf1 := (h5.pull 3).free 1
   have cf2 := (h5.pull 3).free 2
   have cf3 := (h5.pull 3).free 3
   have cf4 := (h5.pull 3).free 4
   have cf5 := (h5.pull 3).free 5
   have cf6 := (h5.pull 3).free 6
   have cf7 := (h5.pull 3).free 7
   have cf8 := (h5.pull 3).free 8
   simp at c0 c1 c2 c3 c4 c5 c6 c7 c8
   have hcl := (h5.pull 3).lt
   have h6 := ((h5.pull 3).set 6 (.int .i64 R.root.s)).set 7 (.int .i64 R.root.g)
   have k6 := (k5.setCell ⟨C, 6, none⟩ (.int .i64 R.root.s)).setCell ⟨C, 7, none⟩ (.int .i64 R.root.g)
   go_upto_region 8 with (fail)
   generalize World.setCell _ _ _ = w6 at h6 k6 ⊢
   have hlen1 := HL1.out.most (by push_cast at hroom; omega) hA
   have hroom1 := HL1.out.room
   have hlen2 := HL2.out.most (by push_cast at hroom; omega) hlen1
   have hroom2 := HL2.out.room
   have hfew := HL2.out.wf.few
   have hrm : roomA most A2 F2 ≠ 0 := by push_cast at hroom; omega
   have h7 : Sat w6 (own C (.cells #[.int .i64 (newK k v L.root R.root hi).k.up, .string (newK k v L.root R.root hi).k.name, .int .i64 (newK k v L.root R.root hi).k.node, .bool (newK k v L.root R.root hi).v, .int .i64 (newK k v L.root R.root hi).lh.s, .int .i64 (newK k v L.root R.root hi).lh.g, .int .i64 (newK k v L.root R.root hi).rh.s, .int .i64 (newK k v L.root R.root hi).rh.g, .int .i64 (newK k v L.root R.root hi).hi] 75 (0, 0)) :: ed1K e m ev gone :: mapK m most A2 F2 :: outK o rt (made ++ n1 ++ n2) vg :: own B (.cells #[.int .i64 0, .int .i64 0] 56 (0, 0)) :: fr) := by
     have h8 := (h6.pull 5).tail
     exact h8
   clear h6 h5 k5 hcl c0 c1 c2 c3 c4 c5 c6 c7 c8 cf0 cf1 cf2 cf3 cf4 cf5 cf6 cf7 cf8
   have hput := fun (W : World) (a : Nat) (l' : List HProp) (hW : Sat W (arenaK a most A2 F2 :: l')) => arenaK_put (newK k v L.root R.root hi) hW HL2.out.wf hm0 (by omega) (by omega) (by omega) (by omega) hrm
   have HPUT := Lib.hid hput
   clear hput
   go_cut [8, 9] from 52 to 64 (fun dv ov wx => ∃ (D : Nat) (h : Hd) (A3 : List SlotK) (F3 : List Int), dv = .pointer (some ⟨D, 0, none⟩) ∧ ov = .bool true ∧ WfA A3 F3 (G + freshT l + freshT r + 1) ∧ PutA most A2 F2 (newK k v L.root R.root hi) A3 F3 h ∧ Sat wx (own D (.cells #[.int .i64 h.s, .int .i64 h.g] 56 (0, 0)) :: own B (.cells #[.int .i64 0, .int .i64 0] 56 (0, 0)) :: ed1K e m ev gone :: mapK m most A3 F3 :: outK o rt (made ++ n1 ++ n2) vg :: fr) ∧ Kp w wx)
   case first =>
     obtain ⟨a, h8⟩ := mapK_E (h7.pull 2)
     have hA := h8.swap
     have hcl := (hA.pull 2).lt
     have hel := (ed1K_E (hA.pull 3)).lt
     have hml := (hA.pull 1).lt
     have S0 := st8K hA.tail
     have hp1 := HPUT.out _ _ _ hA.drew
     have hp2 := HPUT.out _ _ _ ((hA.alloc (.cells #[.int .i64 0, .int .i64 0] 56)).swap.drew)
     have HS0 := Lib.hid S0
     obtain ⟨s0, s1, s2, s3, s4, s5, s6, s7, s8, s9, s10⟩ := S0
     go_region_held3 (fun w' => w'.cell? ⟨e, 0, none⟩ = some (.pointer (some ⟨m, 0, none⟩)) ∧ w'.cell? ⟨m, 0, none⟩ = some (.pointer (some ⟨a, 0, none⟩)) ∧ (w'.cell? ⟨C, 0, none⟩ = some (.int .i64 (newK k v L.root R.root hi).k.up) ∧ w'.cell? ⟨C, 1, none⟩ = some (.string (newK k v L.root R.root hi).k.name) ∧ w'.cell? ⟨C, 2, none⟩ = some (.int .i64 (newK k v L.root R.root hi).k.node) ∧ w'.cell? ⟨C, 3, none⟩ = some (.bool (newK k v L.root R.root hi).v) ∧ w'.cell? ⟨C, 4, none⟩ = some (.int .i64 (newK k v L.root R.root hi).lh.s) ∧ w'.cell? ⟨C, 5, none⟩ = some (.int .i64 (newK k v L.root R.root hi).lh.g) ∧ w'.cell? ⟨C, 6, none⟩ = some (.int .i64 (newK k v L.root R.root hi).rh.s) ∧ w'.cell? ⟨C, 7, none⟩ = some (.int .i64 (newK k v L.root R.root hi).rh.g) ∧ w'.cell? ⟨C, 8, none⟩ = some (.int .i64 (newK k v L.root R.root hi).hi))) (first | go_keep | exact HS0.out | exact st8K h9.tail | exact st8K h9.tail.tail | exact st8K (h9.alloc _).tail.tail | exact st8K (((h9.pull 1).set 0 _).set 1 _).tail.tail)
       ((first | (go_at_call 187; (with_reducible refine hp1.mono ?_); rintro x w7 ⟨h, A3, F3, rfl, hw3, hpa, h9, k9⟩) | (go_at_call 187; (with_reducible refine hp2.mono ?_); rintro x w7 ⟨h, A3, F3, rfl, hw3, hpa, h9, k9⟩; have q0 := (h9.pull 1).cell 0; have q1 := (h9.pull 1).cell 1; have qf0 := (h9.pull 1).free 0; have qf1 := (h9.pull 1).free 1; simp at q0 q1)))
     all_goals
       go_wp2_with fail
       go_meet
       case rel =>
         first
         | exact ⟨_, h, A3, F3, rfl, rfl, hw3, hpa, st8AK h9, (k6.drew.trans k9).alloc _⟩
         | exact ⟨_, h, A3, F3, rfl, rfl, hw3, hpa, st8BK h9, (((k6.alloc _).drew.trans k9).setCell _ _).setCell _ _⟩
   case rest =>
     obtain ⟨D, h, A3, F3, rfl, rfl, hw3, hpa, h9, k9⟩ := hcut
     clear HPUT h7 k6 hfew hrm
     have HLD := Lib.hid (Laid.node HL1.out HL2.out hpa hw3 rfl rfl rfl rfl rfl : Laid most A F G (.node none k v l r hi) A3 F3 (.node (some h) k v L R hi) (n1 ++ n2 ++ [h]))
     have hlm : (made ++ n1 ++ n2).length ≤ 100000000 := by
       have a1 := HL1.out.len
       have a2 := HL2.out.len
       simp only [List.length_append]
       omega
     clear hpa hw3 HL1 HL2 hlen1 hroom1 hlen2 hroom2
     generalize hmm : made ++ n1 ++ n2 = mm at h9 hlm
     have HMM := Lib.hid hmm
     clear hmm
     obtain ⟨i1, hj, hy0, hy1, hy2⟩ := info_parts Tryz.infoHdK
     obtain ⟨mv, ho⟩ := outK_E (h9.pull 4)
     obtain ⟨vao, vcap, hv0⟩ := (ho.pull 1).tLen
     obtain ⟨n, hnn⟩ : ∃ n, mm.length = n := ⟨_, rfl⟩
     rw [hnn] at hv0 hlm
     subst hv0
     have HN := Lib.hid hnn
     have e2 : rowT fH (.slice vao n vcap) 56 2 mm = row (.slice vao n vcap) 56 2 n (mm.flatMap fH) := by unfold rowT; rw [hnn]
     rw [e2] at ho
     have e0 := ho.cell 2
     have ef := ho.free 2
     simp at e0
     have hol := ho.lt
     have d0 := (ho.pull 2).cell 0
     have d1 := (ho.pull 2).cell 1
     simp at d0 d1
     have hdl := (ho.pull 2).lt
     clear e2 hnn h9
     go_upto_region 9 with (fail)
     go_region_law ((refine step_append_lit (by rfl) (.tmp 68) (.tmp 70) 92 (by rfl) 56 i1 _ 2 16 Tryz.underlying92 hj hy0 hy1 hy2 (by rfl) (by omega) _ _ _ _ _ _ _ (by rfl) (Sat.pull 2 (ho.drew.alloc (.cells #[.int .i64 h.s, .int .i64 h.g] 56))) 0 1 (by rfl) (by rfl) (by rfl) (by unfold maxLen; omega) (by omega) ?_; intro g2 off2 q' cap' w6 h6 k6; have e1 := (h6.pull 2).cell 2; have e3 := (h6.pull 2).free 2; simp at e1))
     all_goals
       rw [show n + (0 + 1) = mm.length + 1 by rw [HN.out]] at h6
       have h7 := Sat.tSnoc (f := fH) (x := h) h6 rfl
       have h8 := (h7.pull 2).set 2 (.slice (some ⟨g2, off2, none⟩) q' cap')
       have k8 := ((k9.drew.alloc (.cells #[.int .i64 h.s, .int .i64 h.g] 56)).trans k6).setCell ⟨o, 2, none⟩ (.slice (some ⟨g2, off2, none⟩) q' cap')
       go_upto_region 10 with (fail)
       generalize World.setCell _ _ _ = w9 at h8 k8 ⊢
       clear h7 h6 k6 ho e0 ef hol d0 d1 hdl e1 e3
       have d0 := (h8.pull 3).cell 0
       have d1 := (h8.pull 3).cell 1
       have df0 := (h8.pull 3).free 0
       have df1 := (h8.pull 3).free 1
       simp at d0 d1
       have b0 := (h8.pull 4).cell 0
       have b1 := (h8.pull 4).cell 1
       have bf0 := (h8.pull 4).free 0
       have bf1 := (h8.pull 4).free 1
       simp at b0 b1
       have h10 := ((h8.pull 4).set 0 (.int .i64 h.s)).set 1 (.int .i64 h.g)
       have k10 := (k8.setCell ⟨B, 0, none⟩ (.int .i64 h.s)).setCell ⟨B, 1, none⟩ (.int .i64 h.g)
       go_wp2_with fail
       refine bodyPost_ret (v := .agg #[.int .i64 h.s, .int .i64 h.g]) (by simp [results, Tryz.results162, go_sem, b0, b1, bf0, bf1]) rfl ⟨A3, F3, .node (some h) k v L R hi, n1 ++ n2 ++ [h], rfl, HLD.out, ?_, k10⟩
       rw [show made ++ (n1 ++ n2 ++ [h]) = mm ++ [h] by rw [← HMM.out]; simp]
       have h11 := outK_I h10.tail
       exact ((h11.pull 1).tail.pull 1).tail.push 2
/-- store, of any tree. -/
theorem itemK_store : ∀ (t : HTK) {w : World} {e m o : Nat} {fr : List HProp} {p : Value} {ev : Value} {gone : List Hd} {most : Int} {A : List SlotK} {F : List Int} {G : Nat} {rt : Hd} {made : List Hd} {vg : Value}
   (hs : Sat w (itemK t p :: ed1K e m ev gone :: mapK m most A F :: outK o rt made vg :: fr)) (hR : RepF A t) (hW : WfA A F G)
   (hm0 : 0 ≤ most) (hm1 : most ≤ 1000000) (hA : (A.length : Int) ≤ most) (hG : G + freshT t < 1000000000000) (hroom : (freshT t : Int) ≤ roomA most A F) (hn : made.length + freshT t ≤ 100000000),
   Calls Tryz.prog 162 #[.pointer (some ⟨e, 0, none⟩), p, .pointer (some ⟨o, 0, none⟩)] w (StoreQK e m o ev gone most A F G t rt made vg fr w)
 | .leaf, w, e, m, o, fr, p, ev, gone, most, A, F, G, rt, made, vg, hs, hR, hW, hm0, hm1, hA, hG, hroom, hn => by
   refine (itemK_store_leaf hs).mono ?_
   rintro x w' ⟨rfl, h1, k1⟩
   exact ⟨A, F, .leaf, [], rfl, Laid.leaf hW, by rw [List.append_nil]; exact h1, k1⟩
 | .node (some h) k v l r hi, w, e, m, o, fr, p, ev, gone, most, A, F, G, rt, made, vg, hs, hR, hW, hm0, hm1, hA, hG, hroom, hn => by
   refine (itemK_store_old hs hR.pos).mono ?_
   rintro x w' ⟨rfl, h1, k1⟩
   exact ⟨A, F, .node (some h) k v l r hi, [], rfl, Laid.old hR hW, by rw [List.append_nil]; exact h1, k1⟩
 | .node none k v l r hi, w, e, m, o, fr, p, ev, gone, most, A, F, G, rt, made, vg, hs, hR, hW, hm0, hm1, hA, hG, hroom, hn => by
   simp only [freshT] at hG hroom hn
   refine itemK_store_new hs hm0 hm1 hA (by omega) hroom hn (Lib.hid fun W q fr' hW' => itemK_store l hW' hR.1 hW hm0 hm1 hA (by omega) (by push_cast at hroom; omega) (by omega)) (Lib.hid fun W q fr' A1 F1 L n1 hL hW' => itemK_store r hW' (RepF.monoK hL.le hR.2) hL.wf hm0 hm1 (hL.most (by push_cast at hroom; omega) hA) (by omega) (by have := hL.room; push_cast at hroom; omega) (by have := hL.len; rw [List.length_append]; omega))
/-- What a finished version comes to, in memory. -/
def FinQK (m : Nat) (gone : List Hd) (most : Int) (A : List SlotK) (F : List Int) (G : Nat) (t : HTK) (fr : List HProp) (w : World) (x : Ending) (w' : World) : Prop :=
 ∃ (mv gv : Value) (A' : List SlotK) (F' : List Int) (T' : HTK) (news : List Hd), x = .returned (.tuple #[.agg #[.int .i64 T'.root.s, .int .i64 T'.root.g, mv, gv], .bool true]) ∧ Laid most A F G t A' F' T' news ∧ Sat w' (rowT fH mv 56 2 news :: rowT fH gv 56 2 gone :: mapK m most A' F' :: fr) ∧ Kp w w'
theorem mapK_finish {t : HTK} {w : World} {e m : Nat} {fr : List HProp} {p : Value} {gone : List Hd} {most : Int} {A : List SlotK} {F : List Int} {G : Nat}
   (hs : Sat w (itemK t p :: editK e m gone :: mapK m most A F :: fr)) (hR : RepF A t) (hW : WfA A F G) (hz : t.size ≤ 500000)
   (hm0 : 0 ≤ most) (hm1 : most ≤ 1000000) (hA : (A.length : Int) ≤ most) (hG : G + freshT t < 1000000000000) (hroom : (freshT t : Int) ≤ roomA most A F) :
   Calls Tryz.prog 138 #[.pointer (some ⟨m, 0, none⟩), .pointer (some ⟨e, 0, none⟩), p] w (FinQK m gone most A F G t fr w) := by
 obtain ⟨q, rfl⟩ := itemK_form hs
 have hB := hs.alloc (.cells #[.int .i64 0, .int .i64 0, .slice none 0 0, .slice none 0 0] 200)
 have kB := (Kp.refl w).alloc (.cells #[.int .i64 0, .int .i64 0, .slice none 0 0, .slice none 0 0] 200)
 have hfew := hW.few
 have hfs := freshT_size t
 have hle : ¬ (roomA most A F < (freshT t : Int)) := by omega
 have HR := Lib.hid hR
 have HW := Lib.hid hW
 clear hs hR hW
 go_enter Tryz.func138, Tryz.ntmps138
 go_upto_region 1 with (fail)
 generalize World.alloc _ _ = w1 at hB kB ⊢
 generalize w.heap.size = R at hB ⊢
 have hfr := itemK_fresh t (e := e) (hB.pull 1) HR.out (by omega)
 go_wp2_with fail
 refine hfr.mono ?_
 rintro x w2 ⟨rfl, h2, k2⟩
 have hro := mapK_room (h2.pull 3) hm0 (by omega) (by omega) (by omega)
 have k2 := kB.trans k2
 clear hfr hB kB
 go_wp2_with fail
 refine hro.mono ?_
 rintro x w3 ⟨rfl, h3, k3⟩
 have k3 := k2.trans k3
 clear hro h2 k2
 obtain ⟨ev, h4⟩ := editK_E1 (h3.pull 3)
 have h5 := ed1K_E h4
 obtain ⟨eao, ecap, rfl⟩ := (h5.pull 1).tLen
 have e1 := h5.cell 1
 simp at e1
 have hO := (h4.tNil fH 56 2).alloc (.cells #[.int .i64 0, .int .i64 0, .slice none 0 0, .slice eao gone.length ecap] 200)
 have kO := k3.alloc (.cells #[.int .i64 0, .int .i64 0, .slice none 0 0, .slice eao gone.length ecap] 200)
 have hel := h5.lt
 clear h3
 go_upto_region 4 with (fail)
 generalize World.alloc _ _ = w4 at hO kO ⊢
 generalize w3.heap.size = O at hO ⊢
 clear h5 e1 hel h4 k3
 have h6 := outK_I (rt := Hd.nil) hO
 have hst := itemK_store t (((h6.pull 3).pull 1).push 3) HR.out HW.out hm0 hm1 hA hG hroom (by show 0 + freshT t ≤ 100000000; omega)
 clear h6 hO
 go_wp2_with fail
 refine hst.mono ?_
 rintro x w5 ⟨A', F', T', news, rfl, hL, h7, k7⟩
 have k7 := kO.trans k7
 have HL := Lib.hid hL
 clear hst kO hL
 obtain ⟨mv, h8⟩ := outK_E (h7.pull 2)
 rw [List.nil_append] at h8
 obtain ⟨mao, mcap, rfl⟩ := (h8.pull 1).tLen
 obtain ⟨n, hn⟩ : ∃ n, news.length = n := ⟨_, rfl⟩
 obtain ⟨n2, hn2⟩ : ∃ n2, gone.length = n2 := ⟨_, rfl⟩
 rw [hn, hn2] at h8
 have o0 := (h8).cell 0
 have o1 := (h8).cell 1
 have o2 := (h8).cell 2
 have o3 := (h8).cell 3
 have of0 := (h8).free 0
 have of1 := (h8).free 1
 have of2 := (h8).free 2
 have of3 := (h8).free 3
 simp at o0 o1 o2 o3
 have hol := h8.lt
 have h9 := (h8.set 0 (.int .i64 T'.root.s)).set 1 (.int .i64 T'.root.g)
 have k9 := (k7.setCell ⟨O, 0, none⟩ (.int .i64 T'.root.s)).setCell ⟨O, 1, none⟩ (.int .i64 T'.root.g)
 go_upto_region 5 with (fail)
 generalize World.setCell _ _ _ = w6 at h9 k9 ⊢
 clear h8 h7 k7 hol o0 o1 o2 o3 of0 of1 of2 of3
 have o0 := (h9).cell 0
 have o1 := (h9).cell 1
 have o2 := (h9).cell 2
 have o3 := (h9).cell 3
 simp at o0 o1 o2 o3
 have r0 := (h9.pull 4).cell 0
 have r1 := (h9.pull 4).cell 1
 have r2 := (h9.pull 4).cell 2
 have r3 := (h9.pull 4).cell 3
 have rf0 := (h9.pull 4).free 0
 have rf1 := (h9.pull 4).free 1
 have rf2 := (h9.pull 4).free 2
 have rf3 := (h9.pull 4).free 3
 simp at r0 r1 r2 r3
 have h10 := ((((h9.pull 4).set 0 (.int .i64 T'.root.s)).set 1 (.int .i64 T'.root.g)).set 2 (.slice mao n mcap)).set 3 (.slice eao n2 ecap)
 have k10 := (((k9.setCell ⟨R, 0, none⟩ (.int .i64 T'.root.s)).setCell ⟨R, 1, none⟩ (.int .i64 T'.root.g)).setCell ⟨R, 2, none⟩ (.slice mao n mcap)).setCell ⟨R, 3, none⟩ (.slice eao n2 ecap)
 go_wp2_with fail
 refine bodyPost_ret (v := .tuple #[.agg #[.int .i64 T'.root.s, .int .i64 T'.root.g, .slice mao n mcap, .slice eao n2 ecap], .bool true]) (by simp [results, Tryz.results138, go_sem, r0, r1, r2, r3, rf0, rf1, rf2, rf3]) rfl ⟨.slice mao n mcap, .slice eao n2 ecap, A', F', T', news, rfl, HL.out, ?_, k10⟩
 exact (ed1K_E (h10.tail.tail.pull 1)).tail.swap
theorem boxSK {w : World} {B K : Nat} {h : Hd} {k : KidD} {v : Bool} {fr : List HProp} (hs : Sat w (own B (.cells #[.int .i64 h.s, .int .i64 h.g] 56 (0, 0)) :: own K (.cells #[.int .i64 k.up, .string k.name, .int .i64 k.node] 73 (0, 0)) :: fr)) :
   w.cell? ⟨B, 0, none⟩ = some (.int .i64 h.s) ∧ w.cell? ⟨B, 1, none⟩ = some (.int .i64 h.g) ∧ w.cell? ⟨K, 0, none⟩ = some (.int .i64 k.up) ∧ w.cell? ⟨K, 1, none⟩ = some (.string k.name) ∧ w.cell? ⟨K, 2, none⟩ = some (.int .i64 k.node) :=
 ⟨hs.cell 0, hs.cell 1, (hs.pull 1).cell 0, (hs.pull 1).cell 1, (hs.pull 1).cell 2⟩
theorem mapK_put {C : KidD → KidD → Int} (hC : CmpOkK C) (k : KidD) (v : Bool) {t : HTK} {w : World} {m : Nat} {fr : List HProp} {most : Int} {A : List SlotK} {F : List Int} {G : Nat}
   (hs : Sat w (mapK m most A F :: fr)) (hR : RepO A t) (hH : HiOk t) (hW : WfA A F G) (hz : t.size < 100000)
   (hm0 : 0 ≤ most) (hm1 : most ≤ 1000000) (hA : (A.length : Int) ≤ most) (hG : G + 200000 < 1000000000000) (hroom : (t.size + 1 : Int) ≤ roomA most A F) :
   Calls Tryz.prog 117 #[.pointer (some ⟨m, 0, none⟩), .agg #[.int .i64 t.root.s, .int .i64 t.root.g], .agg #[.int .i64 k.up, .string k.name, .int .i64 k.node], .bool v] w (FinQK m (putT C k v t).2 most A F G (putT C k v t).1 fr w) := by
 have hgood : GoodK A t := ⟨hR.repF, hH, by omega⟩
 have hsz := putT_size C k v t
 have hfs := freshT_size (putT C k v t).1
 have hgp := hgood.put C k v (by omega)
 have hB := hs.alloc (.cells #[.int .i64 t.root.s, .int .i64 t.root.g] 56)
 have kB := (Kp.refl w).alloc (.cells #[.int .i64 t.root.s, .int .i64 t.root.g] 56)
 have hK := hB.alloc (.cells #[.int .i64 k.up, .string k.name, .int .i64 k.node] 73)
 have kK := kB.alloc (.cells #[.int .i64 k.up, .string k.name, .int .i64 k.node] 73)
 have hE := hK.alloc (.cells #[.int .i64 0, .int .i64 0, .slice none 0 0, .slice none 0 0] 200)
 have kE := kK.alloc (.cells #[.int .i64 0, .int .i64 0, .slice none 0 0, .slice none 0 0] 200)
 simp only [World.size_alloc] at hE
 clear hs hB kB hK kK
 have it := fun (W : World) (e : Nat) (l : List HProp) (hW : Sat W l) => itemK_item (e := e) hW hR
 have pu := fun (W : World) (e : Nat) (p : Value) (l : List HProp) (hW' : Sat W (itemK t p :: editK e m [] :: mapK m most A F :: l)) => itemK_put hC k v t hW' hgood (by omega) (by simp; omega)
 have fi := fun (W : World) (e : Nat) (p : Value) (l : List HProp) (hW' : Sat W (itemK (putT C k v t).1 p :: editK e m ([] ++ (putT C k v t).2) :: mapK m most A F :: l)) => mapK_finish hW' hgp.rep hW (by omega) hm0 hm1 hA (by omega) (by omega)
 have IT := Lib.hid it
 have PU := Lib.hid pu
 have FI := Lib.hid fi
 clear it pu fi hgood hgp hR hW hroom hG
 go_enter Tryz.func117, Tryz.ntmps117
 go_upto_region 1 with (fail)
 generalize World.alloc _ _ = w1 at hE kE ⊢
 generalize w.heap.size + 1 + 1 = R at hE ⊢
 generalize w.heap.size + 1 = K at hE ⊢
 generalize w.heap.size = B at hE ⊢
 have h2 := (hE.tNil fH 56 2).alloc (.cells #[.pointer (some ⟨m, 0, none⟩), .slice none 0 0] 234)
 have k2 := kE.alloc (.cells #[.pointer (some ⟨m, 0, none⟩), .slice none 0 0] 234)
 go_upto_region 2 with (fail)
 generalize World.alloc _ _ = w2 at h2 k2 ⊢
 generalize w1.heap.size = e at h2 ⊢
 have h3 := editK_I h2
 clear hE kE h2
 have S0 := boxSK (k := k) (v := v) ((h3.pull 2).pull 3)
 have HS0 := Lib.hid S0
 obtain ⟨s0, s1, s2, s3, s4⟩ := S0
 have hRl := (h3.pull 1).lt
 go_region_held3 (fun w' => w'.cell? ⟨B, 0, none⟩ = some (.int .i64 t.root.s) ∧ w'.cell? ⟨B, 1, none⟩ = some (.int .i64 t.root.g) ∧ w'.cell? ⟨K, 0, none⟩ = some (.int .i64 k.up) ∧ w'.cell? ⟨K, 1, none⟩ = some (.string k.name) ∧ w'.cell? ⟨K, 2, none⟩ = some (.int .i64 k.node))
   (first | with_reducible exact HS0.out | with_reducible exact SA | with_reducible exact SB | with_reducible exact SC | with_reducible exact SD | go_keep)
   ((first | (go_at_call 140; (with_reducible refine (IT.out _ e _ h3.drew).mono ?_); rintro x w3 ⟨p, rfl, h4, k4⟩; obtain ⟨q, rfl⟩ := itemK_form h4; have SA := boxSK (k := k) (v := v) ((h4.pull 3).pull 4)) | (go_at_call 144; (with_reducible refine (PU.out _ e _ _ ((h4.pull 5).push 2)).mono ?_); rintro x w4 ⟨q2, rfl, h5, k5⟩; have SB := boxSK (k := k) (v := v) ((h5.pull 4).pull 5)) | (go_at_call 138; (with_reducible refine (FI.out _ e _ _ h5).mono ?_); rintro x w5 ⟨mv, gv, A', F', T', news, rfl, hL, h6, k6⟩; obtain ⟨mo, mc, rfl⟩ := h6.tLen; obtain ⟨go, gc, rfl⟩ := (h6.pull 1).tLen; have SC := boxSK (k := k) (v := v) ((h6.pull 4).pull 5); have r0 := (h6.pull 3).cell 0; have r1 := (h6.pull 3).cell 1; have r2 := (h6.pull 3).cell 2; have r3 := (h6.pull 3).cell 3; have rf0 := (h6.pull 3).free 0; have rf1 := (h6.pull 3).free 1; have rf2 := (h6.pull 3).free 2; have rf3 := (h6.pull 3).free 3; simp at r0 r1 r2 r3; have SD := boxSK (k := k) (v := v) ((((((h6.pull 3).set 0 (.int .i64 T'.root.s)).set 1 (.int .i64 T'.root.g)).set 2 (.slice mo news.length mc)).set 3 (.slice go (putT C k v t).2.length gc)).pull 4 |>.pull 5))))
 all_goals
   have h7 := ((((h6.pull 3).set 0 (.int .i64 T'.root.s)).set 1 (.int .i64 T'.root.g)).set 2 (.slice mo news.length mc)).set 3 (.slice go (putT C k v t).2.length gc)
   have k7 := (((((((k2.drew.trans k4).trans k5).trans k6).setCell ⟨R, 0, none⟩ (.int .i64 T'.root.s)).setCell ⟨R, 1, none⟩ (.int .i64 T'.root.g)).setCell ⟨R, 2, none⟩ (.slice mo news.length mc)).setCell ⟨R, 3, none⟩ (.slice go (putT C k v t).2.length gc))
   go_wp2_with fail
   exact bodyPost_ret (v := .tuple #[.agg #[.int .i64 T'.root.s, .int .i64 T'.root.g, .slice mo news.length mc, .slice go (putT C k v t).2.length gc], .bool true]) (by simp [results, Tryz.results117, go_sem, r0, r1, r2, r3, rf0, rf1, rf2, rf3]) rfl ⟨.slice mo news.length mc, .slice go (putT C k v t).2.length gc, A', F', T', news, rfl, hL, ((h7.tail.pull 3).tail.pull 3).tail, k7⟩
def ansVK : Option Bool → Value | some v => .bool v | none => .bool false
theorem RepO.noleafK {A : List SlotK} (s : SlotK) : ¬ InA A (HT.root (.leaf : HTK)) s := by
 rintro ⟨i, h, _⟩
 simp [HT.root, Hd.nil] at h
 omega
theorem getSK {w : World} {m a N K : Nat} {s : SlotK} {k : KidD} {X : HProp} {fr : List HProp} (hs : Sat w (own m (.cells #[.pointer (some ⟨a, 0, none⟩), cmpFK] 164 (0, 0)) :: X :: own N (.cells #[.int .i64 s.k.up, .string s.k.name, .int .i64 s.k.node, .bool s.v, .int .i64 s.lh.s, .int .i64 s.lh.g, .int .i64 s.rh.s, .int .i64 s.rh.g, .int .i64 s.hi] 75 (0, 0)) :: own K (.cells #[.int .i64 k.up, .string k.name, .int .i64 k.node] 73 (0, 0)) :: fr)) : w.cell? ⟨m, 1, none⟩ = some (.func (.func 61) #[] #[]) ∧ (w.cell? ⟨N, 0, none⟩ = some (.int .i64 s.k.up) ∧ w.cell? ⟨N, 1, none⟩ = some (.string s.k.name) ∧ w.cell? ⟨N, 2, none⟩ = some (.int .i64 s.k.node) ∧ w.cell? ⟨N, 3, none⟩ = some (.bool s.v) ∧ w.cell? ⟨N, 4, none⟩ = some (.int .i64 s.lh.s) ∧ w.cell? ⟨N, 5, none⟩ = some (.int .i64 s.lh.g) ∧ w.cell? ⟨N, 6, none⟩ = some (.int .i64 s.rh.s) ∧ w.cell? ⟨N, 7, none⟩ = some (.int .i64 s.rh.g) ∧ w.cell? ⟨N, 8, none⟩ = some (.int .i64 s.hi)) ∧ w.cell? ⟨K, 0, none⟩ = some (.int .i64 k.up) ∧ w.cell? ⟨K, 1, none⟩ = some (.string k.name) ∧ w.cell? ⟨K, 2, none⟩ = some (.int .i64 k.node) :=
 ⟨hs.cell 1, ⟨(hs.pull 2).cell 0, (hs.pull 2).cell 1, (hs.pull 2).cell 2, (hs.pull 2).cell 3, (hs.pull 2).cell 4, (hs.pull 2).cell 5, (hs.pull 2).cell 6, (hs.pull 2).cell 7, (hs.pull 2).cell 8⟩, (hs.pull 3).cell 0, (hs.pull 3).cell 1, (hs.pull 3).cell 2⟩
theorem mapK_get {C : KidD → KidD → Int} (hC : CmpOkK C) (k : KidD) {t : HTK} {w : World} {m : Nat} {fr : List HProp} {most : Int} {A : List SlotK} {F : List Int}
   (hs : Sat w (mapK m most A F :: fr)) (hR : RepO A t) :
   Calls Tryz.prog 137 #[.pointer (some ⟨m, 0, none⟩), .agg #[.int .i64 t.root.s, .int .i64 t.root.g], .agg #[.int .i64 k.up, .string k.name, .int .i64 k.node]] w fun x w' => x = .returned (.tuple #[ansVK (getT C k t), .bool (getT C k t).isSome]) ∧ Sat w' (mapK m most A F :: fr) ∧ Kp w w' := by
 have hB := hs.alloc (.cells #[.int .i64 t.root.s, .int .i64 t.root.g] 56)
 have kB := (Kp.refl w).alloc (.cells #[.int .i64 t.root.s, .int .i64 t.root.g] 56)
 have hK := hB.alloc (.cells #[.int .i64 k.up, .string k.name, .int .i64 k.node] 73)
 have kK := kB.alloc (.cells #[.int .i64 k.up, .string k.name, .int .i64 k.node] 73)
 simp only [World.size_alloc] at hK
 obtain ⟨ans, hans⟩ : ∃ ans, getT C k t = ans := ⟨_, rfl⟩
 rw [hans]
 have HR := Lib.hid hR
 have HAN := Lib.hid hans
 clear hs hB kB hR hans
 go_enter Tryz.func137, Tryz.ntmps137
 go_wp2_with fail
 generalize World.alloc _ _ = w1 at hK kK ⊢
 generalize w.heap.size + 1 = K at hK ⊢
 generalize w.heap.size = B at hK ⊢
 go_loopg [] (t.size + 1) (fun gk wr => ∃ (t' : HTK), t'.size < gk ∧ Hid (RepO A t') ∧ Hid (getT C k t' = ans) ∧ Sat wr (own K (.cells #[.int .i64 k.up, .string k.name, .int .i64 k.node] 73 (0, 0)) :: own B (.cells #[.int .i64 t'.root.s, .int .i64 t'.root.g] 56 (0, 0)) :: mapK m most A F :: fr) ∧ Kp w wr)
 case atStart => exact ⟨t, by omega, HR, HAN, hK, kK⟩
 case round =>
   obtain ⟨t', hsz, HR', HAN', h2, k2⟩ := hrel
   clear hK kK HR HAN
   have b0 := (h2.pull 1).cell 0
   have b1 := (h2.pull 1).cell 1
   simp at b0 b1
   cases t' with
   | leaf =>
     have hlo := mapK_load_no (h := HT.root (.leaf : HTK)) (h2.pull 2) RepO.noleafK
     go_wp2_with fail
     refine hlo.mono ?_
     rintro x w3 ⟨rfl, h3, k3⟩
     obtain rfl : none = ans := HAN'.out
     go_wp2_with fail
     exact bodyPost_ret (v := .tuple #[.bool false, .bool false]) (by simp [results, Tryz.results137, go_sem]) rfl ⟨rfl, ((h3.pull 1).tail.pull 1).tail.alloc' _, (k2.trans k3).alloc _⟩
   | node oh tk tv l r hi =>
     obtain ⟨⟨hd, rfl, s, hin, rfl, rfl, hlh, hrh, rfl⟩, hRl, hRr⟩ := HR'.out
     have hlo := mapK_load (h2.pull 2) hin
     have HL := Lib.hid hlh
     have HH := Lib.hid hrh
     have HRL := Lib.hid hRl
     have HRR := Lib.hid hRr
     clear hin hRl hRr hlh hrh HR'
     simp only [HT.size] at hsz
     have hgl : Hid (C k s.k < 0 → getT C k l = ans) := fun h => by rw [← HAN'.out]; simp only [getT]; rw [if_pos h]
     have hgr : Hid (0 < C k s.k → getT C k r = ans) := fun h => by rw [← HAN'.out]; simp only [getT]; rw [if_neg (by omega), if_pos h]
     have hge : Hid (C k s.k = 0 → some s.v = ans) := fun h => by rw [← HAN'.out]; simp only [getT]; rw [if_neg (by omega), if_neg (by omega)]
     clear HAN'
     go_wp2_with fail
     refine hlo.mono ?_
     rintro x w3 ⟨rfl, h3, k3⟩
     have h4 := h3.alloc (.cells #[.int .i64 s.k.up, .string s.k.name, .int .i64 s.k.node, .bool s.v, .int .i64 s.lh.s, .int .i64 s.lh.g, .int .i64 s.rh.s, .int .i64 s.rh.g, .int .i64 s.hi] 75)
     have k4 := (k2.trans k3).alloc (.cells #[.int .i64 s.k.up, .string s.k.name, .int .i64 s.k.node, .bool s.v, .int .i64 s.lh.s, .int .i64 s.lh.g, .int .i64 s.rh.s, .int .i64 s.rh.g, .int .i64 s.hi] 75)
     clear hlo h2 b0 b1 k2 k3
     go_upto_region 5 with (fail)
     generalize World.alloc _ _ = w4 at h4 k4 ⊢
     generalize w3.heap.size = N at h4 ⊢
     obtain ⟨a, h5⟩ := mapK_E (h4.pull 1)
     have hcp := hC k s.k w4.drew _ h5.drew
     have S0 := getSK h5
     have HS0 := Lib.hid S0
     clear h3 h4
     obtain ⟨m1, ⟨n0, n1, n2, n3, n4, n5, n6, n7, n8⟩, c0, c1, c2⟩ := S0
     go_region_held3 (fun w' => w'.cell? ⟨m, 1, none⟩ = some (.func (.func 61) #[] #[]) ∧ (w'.cell? ⟨N, 0, none⟩ = some (.int .i64 s.k.up) ∧ w'.cell? ⟨N, 1, none⟩ = some (.string s.k.name) ∧ w'.cell? ⟨N, 2, none⟩ = some (.int .i64 s.k.node) ∧ w'.cell? ⟨N, 3, none⟩ = some (.bool s.v) ∧ w'.cell? ⟨N, 4, none⟩ = some (.int .i64 s.lh.s) ∧ w'.cell? ⟨N, 5, none⟩ = some (.int .i64 s.lh.g) ∧ w'.cell? ⟨N, 6, none⟩ = some (.int .i64 s.rh.s) ∧ w'.cell? ⟨N, 7, none⟩ = some (.int .i64 s.rh.g) ∧ w'.cell? ⟨N, 8, none⟩ = some (.int .i64 s.hi)) ∧ w'.cell? ⟨K, 0, none⟩ = some (.int .i64 k.up) ∧ w'.cell? ⟨K, 1, none⟩ = some (.string k.name) ∧ w'.cell? ⟨K, 2, none⟩ = some (.int .i64 k.node)) (first | with_reducible exact HS0.out | with_reducible exact SB | go_keep) ((go_at_call 61; (with_reducible refine hcp.mono ?_); rintro x1 w5 ⟨rfl, h6, k6⟩; have SB := getSK h6))
     have k7 := (k4.drew.trans k6)
     clear SB hcp h5 k4
     clear c0 c1 c2
     clear m1 n0 n1 n2 n3 n4 n5 n6 n7 n8
     have n0 := (h6.pull 2).cell 0
     have n1 := (h6.pull 2).cell 1
     have n2 := (h6.pull 2).cell 2
     have n3 := (h6.pull 2).cell 3
     have n4 := (h6.pull 2).cell 4
     have n5 := (h6.pull 2).cell 5
     have n6 := (h6.pull 2).cell 6
     have n7 := (h6.pull 2).cell 7
     have n8 := (h6.pull 2).cell 8
     simp at n0 n1 n2 n3 n4 n5 n6 n7 n8
     by_cases hc1 : C k s.k < 0
     · have hbl := (h6.pull 4).lt
       have b0 := (h6.pull 4).cell 0
       have b1 := (h6.pull 4).cell 1
       have bf0 := (h6.pull 4).free 0
       have bf1 := (h6.pull 4).free 1
       simp at b0 b1
       have h7 := ((h6.pull 4).set 0 (.int .i64 l.root.s)).set 1 (.int .i64 l.root.g)
       have k8 := (k7.setCell ⟨B, 0, none⟩ (.int .i64 l.root.s)).setCell ⟨B, 1, none⟩ (.int .i64 l.root.g)
       rw [← HL.out] at h7 k8
       go_wp2_with fail
       go_roundg (l.size + 1)
       case measure => omega
       case rel =>
         refine ⟨l, by omega, HRL, hgl hc1, ?_, k8⟩
         rw [← HL.out]
         exact (((mapK_I ((h7.pull 1).pull 2).swap).pull 2).tail.pull 1).pull 2
     by_cases hc2 : 0 < C k s.k
     · have hbl := (h6.pull 4).lt
       have b0 := (h6.pull 4).cell 0
       have b1 := (h6.pull 4).cell 1
       have bf0 := (h6.pull 4).free 0
       have bf1 := (h6.pull 4).free 1
       simp at b0 b1
       have h7 := ((h6.pull 4).set 0 (.int .i64 r.root.s)).set 1 (.int .i64 r.root.g)
       have k8 := (k7.setCell ⟨B, 0, none⟩ (.int .i64 r.root.s)).setCell ⟨B, 1, none⟩ (.int .i64 r.root.g)
       rw [← HH.out] at h7 k8
       go_wp2_with fail
       go_roundg (r.size + 1)
       case measure => omega
       case rel =>
         refine ⟨r, by omega, HRR, hgr hc2, ?_, k8⟩
         rw [← HH.out]
         exact (((mapK_I ((h7.pull 1).pull 2).swap).pull 2).tail.pull 1).pull 2
     · have hc3 : C k s.k = 0 := by omega
       obtain rfl := hge hc3
       have h7 := mapK_I (h6.pull 1).swap
       clear hc1 hc2
       generalize C k s.k = cc at hc3 ⊢
       subst hc3
       go_wp2_with fail
       exact bodyPost_ret (v := .tuple #[.bool s.v, .bool true]) (by simp [results, Tryz.results137, go_sem]) rfl ⟨rfl, (((h7.pull 1).tail.pull 1).tail.pull 1).tail, k7⟩
theorem mapK_del {C : KidD → KidD → Int} (hC : CmpOkK C) (k : KidD) {t : HTK} {w : World} {m : Nat} {fr : List HProp} {most : Int} {A : List SlotK} {F : List Int} {G : Nat}
   (hs : Sat w (mapK m most A F :: fr)) (hR : RepO A t) (hH : HiOk t) (hW : WfA A F G) (hz : t.size < 100000) (hhas : (getT C k t).isSome = true)
   (hm0 : 0 ≤ most) (hm1 : most ≤ 1000000) (hA : (A.length : Int) ≤ most) (hG : G + 200000 < 1000000000000) (hroom : (t.size + 1 : Int) ≤ roomA most A F) :
   Calls Tryz.prog 113 #[.pointer (some ⟨m, 0, none⟩), .agg #[.int .i64 t.root.s, .int .i64 t.root.g], .agg #[.int .i64 k.up, .string k.name, .int .i64 k.node]] w (FinQK m (delT C k t).2 most A F G (delT C k t).1 fr w) := by
 have hgood : GoodK A t := ⟨hR.repF, hH, by omega⟩
 have hsz := delT_size C k t
 have hfs := freshT_size (delT C k t).1
 have hgp := hgood.del C k
 have hB := hs.alloc (.cells #[.int .i64 t.root.s, .int .i64 t.root.g] 56)
 have kB := (Kp.refl w).alloc (.cells #[.int .i64 t.root.s, .int .i64 t.root.g] 56)
 have hB := hB.alloc (.cells #[.int .i64 k.up, .string k.name, .int .i64 k.node] 73)
 have kB := kB.alloc (.cells #[.int .i64 k.up, .string k.name, .int .i64 k.node] 73)
 have hE := hB.alloc (.cells #[.int .i64 0, .int .i64 0, .slice none 0 0, .slice none 0 0] 200)
 have kE := kB.alloc (.cells #[.int .i64 0, .int .i64 0, .slice none 0 0, .slice none 0 0] 200)
 simp only [World.size_alloc] at hE
 clear hs hB kB
 have ge := fun (W : World) (l : List HProp) (hW' : Sat W (mapK m most A F :: l)) => mapK_get hC k hW' hR
 have it := fun (W : World) (e : Nat) (l : List HProp) (hW' : Sat W l) => itemK_item (e := e) hW' hR
 have pu := fun (W : World) (e : Nat) (p : Value) (l : List HProp) (hW' : Sat W (itemK t p :: editK e m [] :: mapK m most A F :: l)) => itemK_del hC k t hW' hgood (getT_has hhas) (by omega) (by simp; omega)
 have fi := fun (W : World) (e : Nat) (p : Value) (l : List HProp) (hW' : Sat W (itemK (delT C k t).1 p :: editK e m ([] ++ (delT C k t).2) :: mapK m most A F :: l)) => mapK_finish hW' hgp.rep hW (by omega) hm0 hm1 hA (by omega) (by omega)
 obtain ⟨v, hv⟩ := Option.isSome_iff_exists.1 hhas
 rw [hv] at ge
 have GE := Lib.hid ge
 have IT := Lib.hid it
 have PU := Lib.hid pu
 have FI := Lib.hid fi
 clear ge it pu fi hgood hgp hR hW hroom hG hhas hv
 go_enter Tryz.func113, Tryz.ntmps113
 go_upto_region 1 with (fail)
 generalize World.alloc _ _ = w1 at hE kE ⊢
 generalize w.heap.size + 1 + 1 = R at hE ⊢
 generalize w.heap.size + 1 = K at hE ⊢
 generalize w.heap.size = B at hE ⊢
 obtain ⟨s0, s1, s2, s3, s4⟩ := boxSK (k := k) (v := false) ((hE.pull 1).pull 2)
 have hge := GE.out _ _ (hE.pull 3)
 go_wp2_with fail
 refine hge.mono ?_
 rintro x w2 ⟨rfl, h2, k2⟩
 have k2 := kE.trans k2
 clear hge hE kE
 have h3 := (h2.tNil fH 56 2).alloc (.cells #[.pointer (some ⟨m, 0, none⟩), .slice none 0 0] 234)
 have k3 := k2.alloc (.cells #[.pointer (some ⟨m, 0, none⟩), .slice none 0 0] 234)
 unfold ansVK
 simp only [Option.isSome_some]
 go_upto_region 5 with (fail)
 generalize World.alloc _ _ = w3 at h3 k3 ⊢
 generalize w2.heap.size = e at h3 ⊢
 have h3 := editK_I h3
 have S0 := boxSK (k := k) (v := v) ((h3.pull 3).pull 4)
 have HS0 := Lib.hid S0
 clear s0 s1 s2 s3 s4
 obtain ⟨s0, s1, s2, s3, s4⟩ := S0
 have hRl := (h3.pull 2).lt
 clear h2 k2
 go_region_held3 (fun w' => w'.cell? ⟨B, 0, none⟩ = some (.int .i64 t.root.s) ∧ w'.cell? ⟨B, 1, none⟩ = some (.int .i64 t.root.g) ∧ w'.cell? ⟨K, 0, none⟩ = some (.int .i64 k.up) ∧ w'.cell? ⟨K, 1, none⟩ = some (.string k.name) ∧ w'.cell? ⟨K, 2, none⟩ = some (.int .i64 k.node)) (first | with_reducible exact HS0.out | with_reducible exact SA | with_reducible exact SB | with_reducible exact SC | with_reducible exact SD | go_keep) ((first | (go_at_call 140; (with_reducible refine (IT.out _ e _ h3.drew).mono ?_); rintro x w3 ⟨p, rfl, h4, k4⟩; obtain ⟨q, rfl⟩ := itemK_form h4; have SA := boxSK (k := k) (v := v) ((h4.pull 4).pull 5)) | (go_at_call 139; (with_reducible refine (PU.out _ e _ _ h4).mono ?_); rintro x w4 ⟨q2, rfl, h5, k5⟩; have SB := boxSK (k := k) (v := v) ((h5.pull 4).pull 5)) | (go_at_call 138; (with_reducible refine (FI.out _ e _ _ h5).mono ?_); rintro x w5 ⟨mv, gv, A', F', T', news, rfl, hL, h6, k6⟩; obtain ⟨mo, mc, rfl⟩ := h6.tLen; obtain ⟨go, gc, rfl⟩ := (h6.pull 1).tLen; have SC := boxSK (k := k) (v := v) ((h6.pull 4).pull 5); have r0 := (h6.pull 3).cell 0; have r1 := (h6.pull 3).cell 1; have r2 := (h6.pull 3).cell 2; have r3 := (h6.pull 3).cell 3; have rf0 := (h6.pull 3).free 0; have rf1 := (h6.pull 3).free 1; have rf2 := (h6.pull 3).free 2; have rf3 := (h6.pull 3).free 3; simp at r0 r1 r2 r3; have SD := boxSK (k := k) (v := v) ((((((h6.pull 3).set 0 (.int .i64 T'.root.s)).set 1 (.int .i64 T'.root.g)).set 2 (.slice mo news.length mc)).set 3 (.slice go (delT C k t).2.length gc)).pull 4 |>.pull 5))))
 all_goals
   have h7 := ((((h6.pull 3).set 0 (.int .i64 T'.root.s)).set 1 (.int .i64 T'.root.g)).set 2 (.slice mo news.length mc)).set 3 (.slice go (delT C k t).2.length gc)
   have k7 := (((((((k3.drew.trans k4).trans k5).trans k6).setCell ⟨R, 0, none⟩ (.int .i64 T'.root.s)).setCell ⟨R, 1, none⟩ (.int .i64 T'.root.g)).setCell ⟨R, 2, none⟩ (.slice mo news.length mc)).setCell ⟨R, 3, none⟩ (.slice go (delT C k t).2.length gc))
   go_wp2_with fail
   exact bodyPost_ret (v := .tuple #[.agg #[.int .i64 T'.root.s, .int .i64 T'.root.g, .slice mo news.length mc, .slice go (delT C k t).2.length gc], .bool true]) (by simp [results, Tryz.results113, go_sem, r0, r1, r2, r3, rf0, rf1, rf2, rf3]) rfl ⟨.slice mo news.length mc, .slice go (delT C k t).2.length gc, A', F', T', news, rfl, hL, ((h7.tail.pull 3).tail.pull 3).tail, k7⟩
end Go.Proofs.YtddglbjhhnipgaaGreatDoor

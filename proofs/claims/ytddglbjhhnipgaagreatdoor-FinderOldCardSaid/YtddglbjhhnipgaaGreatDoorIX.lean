import Derived.Test.YtddglbjhhnipgaaGreatDoorID
import Derived.Test.YtddglbjhhnipgaaGreatDoorIW
import Derived.Test.YtddglbjhhnipgaaGreatDoorIH
namespace Go.Proofs.YtddglbjhhnipgaaGreatDoor
open Go Go.RowKit
set_option linter.unusedVariables false
set_option linter.unusedSimpArgs false
set_option maxRecDepth 100000
set_option maxHeartbeats 8000000
theorem mapK_finish_no {t : HTK} {w : World} {e m : Nat} {fr : List HProp} {p : Value} {gone : List Hd} {most : Int} {A : List SlotK} {F : List Int} {G : Nat}
   (hs : Sat w (itemK t p :: editK e m gone :: mapK m most A F :: fr)) (hR : RepF A t) (hW : WfA A F G) (hz : t.size ≤ 500000)
   (hm0 : 0 ≤ most) (hm1 : most ≤ 1000000) (hA : (A.length : Int) ≤ most) (hroom : roomA most A F < (freshT t : Int)) :
   Calls Tryz.prog 138 #[.pointer (some ⟨m, 0, none⟩), .pointer (some ⟨e, 0, none⟩), p] w fun x w' => x = .returned (.tuple #[.agg #[.int .i64 0, .int .i64 0, .slice none 0 0, .slice none 0 0], .bool false]) ∧ Sat w' (mapK m most A F :: fr) ∧ Kp w w' := by
 obtain ⟨q, rfl⟩ := itemK_form hs
 have hB := hs.alloc (.cells #[.int .i64 0, .int .i64 0, .slice none 0 0, .slice none 0 0] 200)
 have kB := (Kp.refl w).alloc (.cells #[.int .i64 0, .int .i64 0, .slice none 0 0, .slice none 0 0] 200)
 have hfew := hW.few
 have hfs := freshT_size t
 have HR := Lib.hid hR
 have HW := Lib.hid hW
 clear hs hR hW
 go_enter Tryz.func138, Tryz.ntmps138
 go_upto_region 1 with (fail)
 generalize World.alloc _ _ = w1 at hB kB ⊢
 generalize w.heap.size = R at hB ⊢
 have hfr := itemK_fresh t (e := e) (hB.pull 1) HR.out (by omega)
 go_wp2_with fail
 refine hfr.mono ?_
 rintro x w2 ⟨rfl, h2, k2⟩
 have hro := mapK_room (h2.pull 3) hm0 (by omega) (by omega) (by omega)
 have k2 := kB.trans k2
 clear hfr hB kB
 go_wp2_with fail
 refine hro.mono ?_
 rintro x w3 ⟨rfl, h3, k3⟩
 have k3 := k2.trans k3
 clear hro h2 k2
 have r0 := (h3.pull 2).cell 0
 have r1 := (h3.pull 2).cell 1
 have r2 := (h3.pull 2).cell 2
 have r3 := (h3.pull 2).cell 3
 have rf0 := (h3.pull 2).free 0
 have rf1 := (h3.pull 2).free 1
 have rf2 := (h3.pull 2).free 2
 have rf3 := (h3.pull 2).free 3
 simp at r0 r1 r2 r3
 have hRl := (h3.pull 2).lt
 have h4 := ((((h3.pull 2).set 0 (.int .i64 0)).set 1 (.int .i64 0)).set 2 (.slice none 0 0)).set 3 (.slice none 0 0)
 have k4 := (((k3.setCell ⟨R, 0, none⟩ (.int .i64 0)).setCell ⟨R, 1, none⟩ (.int .i64 0)).setCell ⟨R, 2, none⟩ (.slice none 0 0)).setCell ⟨R, 3, none⟩ (.slice none 0 0)
 go_wp2_with fail
 refine bodyPost_ret (v := .tuple #[.agg #[.int .i64 0, .int .i64 0, .slice none 0 0, .slice none 0 0], .bool false]) (by simp [results, Tryz.results138, go_sem, r0, r1, r2, r3, rf0, rf1, rf2, rf3]) rfl ⟨rfl, ?_, k4⟩
 exact ((h4.tail.pull 2).tail.pull 1).tail.head fun _ h => h
/-- What a finished version comes to, with room or without. -/
def FinAK (m : Nat) (gone : List Hd) (most : Int) (A : List SlotK) (F : List Int) (G : Nat) (t : HTK) (fr : List HProp) (w : World) (x : Ending) (w' : World) : Prop :=
 ∃ (ok : Bool) (rt : Hd) (mv gv : Value) (A' : List SlotK) (F' : List Int) (T' : HTK) (made gone' : List Hd), x = .returned (.tuple #[.agg #[.int .i64 rt.s, .int .i64 rt.g, mv, gv], .bool ok]) ∧ EdR most A F G t gone ok rt A' F' T' made gone' ∧ Sat w' (rowT fH mv 56 2 made :: rowT fH gv 56 2 gone' :: mapK m most A' F' :: fr) ∧ Kp w w'
theorem mapK_finish_any {t : HTK} {w : World} {e m : Nat} {fr : List HProp} {p : Value} {gone : List Hd} {most : Int} {A : List SlotK} {F : List Int} {G : Nat}
   (hs : Sat w (itemK t p :: editK e m gone :: mapK m most A F :: fr)) (hR : RepF A t) (hW : WfA A F G) (hz : t.size ≤ 500000)
   (hm0 : 0 ≤ most) (hm1 : most ≤ 1000000) (hA : (A.length : Int) ≤ most) (hG : G + freshT t < 1000000000000) :
   Calls Tryz.prog 138 #[.pointer (some ⟨m, 0, none⟩), .pointer (some ⟨e, 0, none⟩), p] w (FinAK m gone most A F G t fr w) := by
 by_cases hr : (freshT t : Int) ≤ roomA most A F
 · refine (mapK_finish hs hR hW hz hm0 hm1 hA hG hr).mono ?_
   rintro x w1 ⟨mv, gv, A', F', T', news, rfl, hL, h1, k1⟩
   exact ⟨true, T'.root, mv, gv, A', F', T', news, gone, rfl, .inl ⟨rfl, hr, rfl, rfl, hL⟩, h1, k1⟩
 · have hr2 : roomA most A F < (freshT t : Int) := by omega
   refine (mapK_finish_no hs hR hW hz hm0 hm1 hA hr2).mono ?_
   rintro x w1 ⟨rfl, h1, k1⟩
   exact ⟨false, Hd.nil, _, _, A, F, .leaf, [], [], rfl, .inr ⟨rfl, hr2, rfl, rfl, rfl, rfl, rfl, rfl⟩, (h1.tNil fH 56 2).tNil fH 56 2, k1⟩
theorem mapK_put_any {C : KidD → KidD → Int} (hC : CmpOkK C) (k : KidD) (v : Bool) {t : HTK} {w : World} {m : Nat} {fr : List HProp} {most : Int} {A : List SlotK} {F : List Int} {G : Nat}
   (hs : Sat w (mapK m most A F :: fr)) (hR : RepO A t) (hH : HiOk t) (hW : WfA A F G) (hz : t.size < 100000)
   (hm0 : 0 ≤ most) (hm1 : most ≤ 1000000) (hA : (A.length : Int) ≤ most) (hG : G + 200000 < 1000000000000) :
   Calls Tryz.prog 117 #[.pointer (some ⟨m, 0, none⟩), .agg #[.int .i64 t.root.s, .int .i64 t.root.g], .agg #[.int .i64 k.up, .string k.name, .int .i64 k.node], .bool v] w (FinAK m (putT C k v t).2 most A F G (putT C k v t).1 fr w) := by
 have hgood : GoodK A t := ⟨hR.repF, hH, by omega⟩
 have hsz := putT_size C k v t
 have hfs := freshT_size (putT C k v t).1
 have hgp := hgood.put C k v (by omega)
 have hB := hs.alloc (.cells #[.int .i64 t.root.s, .int .i64 t.root.g] 56)
 have kB := (Kp.refl w).alloc (.cells #[.int .i64 t.root.s, .int .i64 t.root.g] 56)
 have hK := hB.alloc (.cells #[.int .i64 k.up, .string k.name, .int .i64 k.node] 73)
 have kK := kB.alloc (.cells #[.int .i64 k.up, .string k.name, .int .i64 k.node] 73)
 have hE := hK.alloc (.cells #[.int .i64 0, .int .i64 0, .slice none 0 0, .slice none 0 0] 200)
 have kE := kK.alloc (.cells #[.int .i64 0, .int .i64 0, .slice none 0 0, .slice none 0 0] 200)
 simp only [World.size_alloc] at hE
 clear hs hB kB hK kK
 have it := fun (W : World) (e : Nat) (l : List HProp) (hW : Sat W l) => itemK_item (e := e) hW hR
 have pu := fun (W : World) (e : Nat) (p : Value) (l : List HProp) (hW' : Sat W (itemK t p :: editK e m [] :: mapK m most A F :: l)) => itemK_put hC k v t hW' hgood (by omega) (by simp; omega)
 have fi := fun (W : World) (e : Nat) (p : Value) (l : List HProp) (hW' : Sat W (itemK (putT C k v t).1 p :: editK e m ([] ++ (putT C k v t).2) :: mapK m most A F :: l)) => mapK_finish_any hW' hgp.rep hW (by omega) hm0 hm1 hA (by omega)
 have IT := Lib.hid it
 have PU := Lib.hid pu
 have FI := Lib.hid fi
 clear it pu fi hgood hgp hR hW hG
 go_enter Tryz.func117, Tryz.ntmps117
 go_upto_region 1 with (fail)
 generalize World.alloc _ _ = w1 at hE kE ⊢
 generalize w.heap.size + 1 + 1 = R at hE ⊢
 generalize w.heap.size + 1 = K at hE ⊢
 generalize w.heap.size = B at hE ⊢
 have h2 := (hE.tNil fH 56 2).alloc (.cells #[.pointer (some ⟨m, 0, none⟩), .slice none 0 0] 234)
 have k2 := kE.alloc (.cells #[.pointer (some ⟨m, 0, none⟩), .slice none 0 0] 234)
 go_upto_region 2 with (fail)
 generalize World.alloc _ _ = w2 at h2 k2 ⊢
 generalize w1.heap.size = e at h2 ⊢
 have h3 := editK_I h2
 clear hE kE h2
 have S0 := boxSK (k := k) (v := v) ((h3.pull 2).pull 3)
 have HS0 := Lib.hid S0
 obtain ⟨s0, s1, s2, s3, s4⟩ := S0
 have hRl := (h3.pull 1).lt
 go_region_held3 (fun w' => w'.cell? ⟨B, 0, none⟩ = some (.int .i64 t.root.s) ∧ w'.cell? ⟨B, 1, none⟩ = some (.int .i64 t.root.g) ∧ w'.cell? ⟨K, 0, none⟩ = some (.int .i64 k.up) ∧ w'.cell? ⟨K, 1, none⟩ = some (.string k.name) ∧ w'.cell? ⟨K, 2, none⟩ = some (.int .i64 k.node))
   (first | with_reducible exact HS0.out | with_reducible exact SA | with_reducible exact SB | with_reducible exact SC | with_reducible exact SD | go_keep)
   ((first | (go_at_call 140; (with_reducible refine (IT.out _ e _ h3.drew).mono ?_); rintro x w3 ⟨p, rfl, h4, k4⟩; obtain ⟨q, rfl⟩ := itemK_form h4; have SA := boxSK (k := k) (v := v) ((h4.pull 3).pull 4)) | (go_at_call 144; (with_reducible refine (PU.out _ e _ _ ((h4.pull 5).push 2)).mono ?_); rintro x w4 ⟨q2, rfl, h5, k5⟩; have SB := boxSK (k := k) (v := v) ((h5.pull 4).pull 5)) | (go_at_call 138; (with_reducible refine (FI.out _ e _ _ h5).mono ?_); rintro x w5 ⟨ok, rt, mv, gv, A', F', T', made, gone', rfl, hL, h6, k6⟩; obtain ⟨mo, mc, rfl⟩ := h6.tLen; obtain ⟨go, gc, rfl⟩ := (h6.pull 1).tLen; have SC := boxSK (k := k) (v := v) ((h6.pull 4).pull 5); have r0 := (h6.pull 3).cell 0; have r1 := (h6.pull 3).cell 1; have r2 := (h6.pull 3).cell 2; have r3 := (h6.pull 3).cell 3; have rf0 := (h6.pull 3).free 0; have rf1 := (h6.pull 3).free 1; have rf2 := (h6.pull 3).free 2; have rf3 := (h6.pull 3).free 3; simp at r0 r1 r2 r3; have SD := boxSK (k := k) (v := v) ((((((h6.pull 3).set 0 (.int .i64 rt.s)).set 1 (.int .i64 rt.g)).set 2 (.slice mo made.length mc)).set 3 (.slice go gone'.length gc)).pull 4 |>.pull 5))))
 all_goals
   have h7 := ((((h6.pull 3).set 0 (.int .i64 rt.s)).set 1 (.int .i64 rt.g)).set 2 (.slice mo made.length mc)).set 3 (.slice go gone'.length gc)
   have k7 := (((((((k2.drew.trans k4).trans k5).trans k6).setCell ⟨R, 0, none⟩ (.int .i64 rt.s)).setCell ⟨R, 1, none⟩ (.int .i64 rt.g)).setCell ⟨R, 2, none⟩ (.slice mo made.length mc)).setCell ⟨R, 3, none⟩ (.slice go gone'.length gc))
   go_wp2_with fail
   exact bodyPost_ret (v := .tuple #[.agg #[.int .i64 rt.s, .int .i64 rt.g, .slice mo made.length mc, .slice go gone'.length gc], .bool ok]) (by simp [results, Tryz.results117, go_sem, r0, r1, r2, r3, rf0, rf1, rf2, rf3]) rfl ⟨ok, rt, .slice mo made.length mc, .slice go gone'.length gc, A', F', T', made, gone', rfl, hL, ((h7.tail.pull 3).tail.pull 3).tail, k7⟩
theorem mapS_finish_no {t : HTS} {w : World} {e m : Nat} {fr : List HProp} {p : Value} {gone : List Hd} {most : Int} {A : List SlotS} {F : List Int} {G : Nat}
   (hs : Sat w (itemS t p :: editS e m gone :: mapS m most A F :: fr)) (hR : RepF A t) (hW : WfA A F G) (hz : t.size ≤ 500000)
   (hm0 : 0 ≤ most) (hm1 : most ≤ 1000000) (hA : (A.length : Int) ≤ most) (hroom : roomA most A F < (freshT t : Int)) :
   Calls Tryz.prog 141 #[.pointer (some ⟨m, 0, none⟩), .pointer (some ⟨e, 0, none⟩), p] w fun x w' => x = .returned (.tuple #[.agg #[.int .i64 0, .int .i64 0, .slice none 0 0, .slice none 0 0], .bool false]) ∧ Sat w' (mapS m most A F :: fr) ∧ Kp w w' := by
 obtain ⟨q, rfl⟩ := itemS_form hs
 have hB := hs.alloc (.cells #[.int .i64 0, .int .i64 0, .slice none 0 0, .slice none 0 0] 200)
 have kB := (Kp.refl w).alloc (.cells #[.int .i64 0, .int .i64 0, .slice none 0 0, .slice none 0 0] 200)
 have hfew := hW.few
 have hfs := freshT_size t
 have HR := Lib.hid hR
 have HW := Lib.hid hW
 clear hs hR hW
 go_enter Tryz.func141, Tryz.ntmps141
 go_upto_region 1 with (fail)
 generalize World.alloc _ _ = w1 at hB kB ⊢
 generalize w.heap.size = R at hB ⊢
 have hfr := itemS_fresh t (e := e) (hB.pull 1) HR.out (by omega)
 go_wp2_with fail
 refine hfr.mono ?_
 rintro x w2 ⟨rfl, h2, k2⟩
 have hro := mapS_room (h2.pull 3) hm0 (by omega) (by omega) (by omega)
 have k2 := kB.trans k2
 clear hfr hB kB
 go_wp2_with fail
 refine hro.mono ?_
 rintro x w3 ⟨rfl, h3, k3⟩
 have k3 := k2.trans k3
 clear hro h2 k2
 have r0 := (h3.pull 2).cell 0
 have r1 := (h3.pull 2).cell 1
 have r2 := (h3.pull 2).cell 2
 have r3 := (h3.pull 2).cell 3
 have rf0 := (h3.pull 2).free 0
 have rf1 := (h3.pull 2).free 1
 have rf2 := (h3.pull 2).free 2
 have rf3 := (h3.pull 2).free 3
 simp at r0 r1 r2 r3
 have hRl := (h3.pull 2).lt
 have h4 := ((((h3.pull 2).set 0 (.int .i64 0)).set 1 (.int .i64 0)).set 2 (.slice none 0 0)).set 3 (.slice none 0 0)
 have k4 := (((k3.setCell ⟨R, 0, none⟩ (.int .i64 0)).setCell ⟨R, 1, none⟩ (.int .i64 0)).setCell ⟨R, 2, none⟩ (.slice none 0 0)).setCell ⟨R, 3, none⟩ (.slice none 0 0)
 go_wp2_with fail
 refine bodyPost_ret (v := .tuple #[.agg #[.int .i64 0, .int .i64 0, .slice none 0 0, .slice none 0 0], .bool false]) (by simp [results, Tryz.results141, go_sem, r0, r1, r2, r3, rf0, rf1, rf2, rf3]) rfl ⟨rfl, ?_, k4⟩
 exact ((h4.tail.pull 2).tail.pull 1).tail.head fun _ h => h
/-- What a finished version comes to, with room or without. -/
def FinAS (m : Nat) (gone : List Hd) (most : Int) (A : List SlotS) (F : List Int) (G : Nat) (t : HTS) (fr : List HProp) (w : World) (x : Ending) (w' : World) : Prop :=
 ∃ (ok : Bool) (rt : Hd) (mv gv : Value) (A' : List SlotS) (F' : List Int) (T' : HTS) (made gone' : List Hd), x = .returned (.tuple #[.agg #[.int .i64 rt.s, .int .i64 rt.g, mv, gv], .bool ok]) ∧ EdR most A F G t gone ok rt A' F' T' made gone' ∧ Sat w' (rowT fH mv 56 2 made :: rowT fH gv 56 2 gone' :: mapS m most A' F' :: fr) ∧ Kp w w'
theorem mapS_finish_any {t : HTS} {w : World} {e m : Nat} {fr : List HProp} {p : Value} {gone : List Hd} {most : Int} {A : List SlotS} {F : List Int} {G : Nat}
   (hs : Sat w (itemS t p :: editS e m gone :: mapS m most A F :: fr)) (hR : RepF A t) (hW : WfA A F G) (hz : t.size ≤ 500000)
   (hm0 : 0 ≤ most) (hm1 : most ≤ 1000000) (hA : (A.length : Int) ≤ most) (hG : G + freshT t < 1000000000000) :
   Calls Tryz.prog 141 #[.pointer (some ⟨m, 0, none⟩), .pointer (some ⟨e, 0, none⟩), p] w (FinAS m gone most A F G t fr w) := by
 by_cases hr : (freshT t : Int) ≤ roomA most A F
 · refine (mapS_finish hs hR hW hz hm0 hm1 hA hG hr).mono ?_
   rintro x w1 ⟨mv, gv, A', F', T', news, rfl, hL, h1, k1⟩
   exact ⟨true, T'.root, mv, gv, A', F', T', news, gone, rfl, .inl ⟨rfl, hr, rfl, rfl, hL⟩, h1, k1⟩
 · have hr2 : roomA most A F < (freshT t : Int) := by omega
   refine (mapS_finish_no hs hR hW hz hm0 hm1 hA hr2).mono ?_
   rintro x w1 ⟨rfl, h1, k1⟩
   exact ⟨false, Hd.nil, _, _, A, F, .leaf, [], [], rfl, .inr ⟨rfl, hr2, rfl, rfl, rfl, rfl, rfl, rfl⟩, (h1.tNil fH 56 2).tNil fH 56 2, k1⟩
theorem mapS_put_any {C : Int → Int → Int} (hC : CmpOkS C) (k : Int) (v : SpD) {t : HTS} {w : World} {m : Nat} {fr : List HProp} {most : Int} {A : List SlotS} {F : List Int} {G : Nat}
   (hs : Sat w (mapS m most A F :: fr)) (hR : RepO A t) (hH : HiOk t) (hW : WfA A F G) (hz : t.size < 100000)
   (hm0 : 0 ≤ most) (hm1 : most ≤ 1000000) (hA : (A.length : Int) ≤ most) (hG : G + 200000 < 1000000000000) :
   Calls Tryz.prog 118 #[.pointer (some ⟨m, 0, none⟩), .agg #[.int .i64 t.root.s, .int .i64 t.root.g], .int .i64 k, .agg #[.bool v.inn, .int .i64 v.up, .string v.nm]] w (FinAS m (putT C k v t).2 most A F G (putT C k v t).1 fr w) := by
 have hgood : GoodS A t := ⟨hR.repF, hH, by omega⟩
 have hsz := putT_size C k v t
 have hfs := freshT_size (putT C k v t).1
 have hgp := hgood.put C k v (by omega)
 have hB := hs.alloc (.cells #[.int .i64 t.root.s, .int .i64 t.root.g] 56)
 have kB := (Kp.refl w).alloc (.cells #[.int .i64 t.root.s, .int .i64 t.root.g] 56)
 have hK := hB.alloc (.cells #[.bool v.inn, .int .i64 v.up, .string v.nm] 98)
 have kK := kB.alloc (.cells #[.bool v.inn, .int .i64 v.up, .string v.nm] 98)
 have hE := hK.alloc (.cells #[.int .i64 0, .int .i64 0, .slice none 0 0, .slice none 0 0] 200)
 have kE := kK.alloc (.cells #[.int .i64 0, .int .i64 0, .slice none 0 0, .slice none 0 0] 200)
 simp only [World.size_alloc] at hE
 clear hs hB kB hK kK
 have it := fun (W : World) (e : Nat) (l : List HProp) (hW : Sat W l) => itemS_item (e := e) hW hR
 have pu := fun (W : World) (e : Nat) (p : Value) (l : List HProp) (hW' : Sat W (itemS t p :: editS e m [] :: mapS m most A F :: l)) => itemS_put hC k v t hW' hgood (by omega) (by simp; omega)
 have fi := fun (W : World) (e : Nat) (p : Value) (l : List HProp) (hW' : Sat W (itemS (putT C k v t).1 p :: editS e m ([] ++ (putT C k v t).2) :: mapS m most A F :: l)) => mapS_finish_any hW' hgp.rep hW (by omega) hm0 hm1 hA (by omega)
 have IT := Lib.hid it
 have PU := Lib.hid pu
 have FI := Lib.hid fi
 clear it pu fi hgood hgp hR hW hG
 go_enter Tryz.func118, Tryz.ntmps118
 go_upto_region 1 with (fail)
 generalize World.alloc _ _ = w1 at hE kE ⊢
 generalize w.heap.size + 1 + 1 = R at hE ⊢
 generalize w.heap.size + 1 = K at hE ⊢
 generalize w.heap.size = B at hE ⊢
 have h2 := (hE.tNil fH 56 2).alloc (.cells #[.pointer (some ⟨m, 0, none⟩), .slice none 0 0] 241)
 have k2 := kE.alloc (.cells #[.pointer (some ⟨m, 0, none⟩), .slice none 0 0] 241)
 go_upto_region 2 with (fail)
 generalize World.alloc _ _ = w2 at h2 k2 ⊢
 generalize w1.heap.size = e at h2 ⊢
 have h3 := editS_I h2
 clear hE kE h2
 have S0 := boxSS (k := k) (v := v) ((h3.pull 2).pull 3)
 have HS0 := Lib.hid S0
 obtain ⟨s0, s1, s2, s3, s4⟩ := S0
 have hRl := (h3.pull 1).lt
 go_region_held3 (fun w' => w'.cell? ⟨B, 0, none⟩ = some (.int .i64 t.root.s) ∧ w'.cell? ⟨B, 1, none⟩ = some (.int .i64 t.root.g) ∧ w'.cell? ⟨K, 0, none⟩ = some (.bool v.inn) ∧ w'.cell? ⟨K, 1, none⟩ = some (.int .i64 v.up) ∧ w'.cell? ⟨K, 2, none⟩ = some (.string v.nm))
   (first | with_reducible exact HS0.out | with_reducible exact SA | with_reducible exact SB | with_reducible exact SC | with_reducible exact SD | go_keep)
   ((first | (go_at_call 143; (with_reducible refine (IT.out _ e _ h3.drew).mono ?_); rintro x w3 ⟨p, rfl, h4, k4⟩; obtain ⟨q, rfl⟩ := itemS_form h4; have SA := boxSS (k := k) (v := v) ((h4.pull 3).pull 4)) | (go_at_call 145; (with_reducible refine (PU.out _ e _ _ ((h4.pull 5).push 2)).mono ?_); rintro x w4 ⟨q2, rfl, h5, k5⟩; have SB := boxSS (k := k) (v := v) ((h5.pull 4).pull 5)) | (go_at_call 141; (with_reducible refine (FI.out _ e _ _ h5).mono ?_); rintro x w5 ⟨ok, rt, mv, gv, A', F', T', made, gone', rfl, hL, h6, k6⟩; obtain ⟨mo, mc, rfl⟩ := h6.tLen; obtain ⟨go, gc, rfl⟩ := (h6.pull 1).tLen; have SC := boxSS (k := k) (v := v) ((h6.pull 4).pull 5); have r0 := (h6.pull 3).cell 0; have r1 := (h6.pull 3).cell 1; have r2 := (h6.pull 3).cell 2; have r3 := (h6.pull 3).cell 3; have rf0 := (h6.pull 3).free 0; have rf1 := (h6.pull 3).free 1; have rf2 := (h6.pull 3).free 2; have rf3 := (h6.pull 3).free 3; simp at r0 r1 r2 r3; have SD := boxSS (k := k) (v := v) ((((((h6.pull 3).set 0 (.int .i64 rt.s)).set 1 (.int .i64 rt.g)).set 2 (.slice mo made.length mc)).set 3 (.slice go gone'.length gc)).pull 4 |>.pull 5))))
 all_goals
   have h7 := ((((h6.pull 3).set 0 (.int .i64 rt.s)).set 1 (.int .i64 rt.g)).set 2 (.slice mo made.length mc)).set 3 (.slice go gone'.length gc)
   have k7 := (((((((k2.drew.trans k4).trans k5).trans k6).setCell ⟨R, 0, none⟩ (.int .i64 rt.s)).setCell ⟨R, 1, none⟩ (.int .i64 rt.g)).setCell ⟨R, 2, none⟩ (.slice mo made.length mc)).setCell ⟨R, 3, none⟩ (.slice go gone'.length gc))
   go_wp2_with fail
   exact bodyPost_ret (v := .tuple #[.agg #[.int .i64 rt.s, .int .i64 rt.g, .slice mo made.length mc, .slice go gone'.length gc], .bool ok]) (by simp [results, Tryz.results118, go_sem, r0, r1, r2, r3, rf0, rf1, rf2, rf3]) rfl ⟨ok, rt, .slice mo made.length mc, .slice go gone'.length gc, A', F', T', made, gone', rfl, hL, ((h7.tail.pull 3).tail.pull 3).tail, k7⟩
theorem mapK_del_any {C : KidD → KidD → Int} (hC : CmpOkK C) (k : KidD) {t : HTK} {w : World} {m : Nat} {fr : List HProp} {most : Int} {A : List SlotK} {F : List Int} {G : Nat}
   (hs : Sat w (mapK m most A F :: fr)) (hR : RepO A t) (hH : HiOk t) (hW : WfA A F G) (hz : t.size < 100000) (hhas : (getT C k t).isSome = true)
   (hm0 : 0 ≤ most) (hm1 : most ≤ 1000000) (hA : (A.length : Int) ≤ most) (hG : G + 200000 < 1000000000000) :
   Calls Tryz.prog 113 #[.pointer (some ⟨m, 0, none⟩), .agg #[.int .i64 t.root.s, .int .i64 t.root.g], .agg #[.int .i64 k.up, .string k.name, .int .i64 k.node]] w (FinAK m (delT C k t).2 most A F G (delT C k t).1 fr w) := by
 have hgood : GoodK A t := ⟨hR.repF, hH, by omega⟩
 have hsz := delT_size C k t
 have hfs := freshT_size (delT C k t).1
 have hgp := hgood.del C k
 have hB := hs.alloc (.cells #[.int .i64 t.root.s, .int .i64 t.root.g] 56)
 have kB := (Kp.refl w).alloc (.cells #[.int .i64 t.root.s, .int .i64 t.root.g] 56)
 have hB := hB.alloc (.cells #[.int .i64 k.up, .string k.name, .int .i64 k.node] 73)
 have kB := kB.alloc (.cells #[.int .i64 k.up, .string k.name, .int .i64 k.node] 73)
 have hE := hB.alloc (.cells #[.int .i64 0, .int .i64 0, .slice none 0 0, .slice none 0 0] 200)
 have kE := kB.alloc (.cells #[.int .i64 0, .int .i64 0, .slice none 0 0, .slice none 0 0] 200)
 simp only [World.size_alloc] at hE
 clear hs hB kB
 have ge := fun (W : World) (l : List HProp) (hW' : Sat W (mapK m most A F :: l)) => mapK_get hC k hW' hR
 have it := fun (W : World) (e : Nat) (l : List HProp) (hW' : Sat W l) => itemK_item (e := e) hW' hR
 have pu := fun (W : World) (e : Nat) (p : Value) (l : List HProp) (hW' : Sat W (itemK t p :: editK e m [] :: mapK m most A F :: l)) => itemK_del hC k t hW' hgood (getT_has hhas) (by omega) (by simp; omega)
 have fi := fun (W : World) (e : Nat) (p : Value) (l : List HProp) (hW' : Sat W (itemK (delT C k t).1 p :: editK e m ([] ++ (delT C k t).2) :: mapK m most A F :: l)) => mapK_finish_any hW' hgp.rep hW (by omega) hm0 hm1 hA (by omega)
 obtain ⟨v, hv⟩ := Option.isSome_iff_exists.1 hhas
 rw [hv] at ge
 have GE := Lib.hid ge
 have IT := Lib.hid it
 have PU := Lib.hid pu
 have FI := Lib.hid fi
 clear ge it pu fi hgood hgp hR hW hG hhas hv
 go_enter Tryz.func113, Tryz.ntmps113
 go_upto_region 1 with (fail)
 generalize World.alloc _ _ = w1 at hE kE ⊢
 generalize w.heap.size + 1 + 1 = R at hE ⊢
 generalize w.heap.size + 1 = K at hE ⊢
 generalize w.heap.size = B at hE ⊢
 obtain ⟨s0, s1, s2, s3, s4⟩ := boxSK (k := k) (v := false) ((hE.pull 1).pull 2)
 have hge := GE.out _ _ (hE.pull 3)
 go_wp2_with fail
 refine hge.mono ?_
 rintro x w2 ⟨rfl, h2, k2⟩
 have k2 := kE.trans k2
 clear hge hE kE
 have h3 := (h2.tNil fH 56 2).alloc (.cells #[.pointer (some ⟨m, 0, none⟩), .slice none 0 0] 234)
 have k3 := k2.alloc (.cells #[.pointer (some ⟨m, 0, none⟩), .slice none 0 0] 234)
 unfold ansVK
 simp only [Option.isSome_some]
 go_upto_region 5 with (fail)
 generalize World.alloc _ _ = w3 at h3 k3 ⊢
 generalize w2.heap.size = e at h3 ⊢
 have h3 := editK_I h3
 have S0 := boxSK (k := k) (v := v) ((h3.pull 3).pull 4)
 have HS0 := Lib.hid S0
 clear s0 s1 s2 s3 s4
 obtain ⟨s0, s1, s2, s3, s4⟩ := S0
 have hRl := (h3.pull 2).lt
 clear h2 k2
 go_region_held3 (fun w' => w'.cell? ⟨B, 0, none⟩ = some (.int .i64 t.root.s) ∧ w'.cell? ⟨B, 1, none⟩ = some (.int .i64 t.root.g) ∧ w'.cell? ⟨K, 0, none⟩ = some (.int .i64 k.up) ∧ w'.cell? ⟨K, 1, none⟩ = some (.string k.name) ∧ w'.cell? ⟨K, 2, none⟩ = some (.int .i64 k.node)) (first | with_reducible exact HS0.out | with_reducible exact SA | with_reducible exact SB | with_reducible exact SC | with_reducible exact SD | go_keep) ((first | (go_at_call 140; (with_reducible refine (IT.out _ e _ h3.drew).mono ?_); rintro x w3 ⟨p, rfl, h4, k4⟩; obtain ⟨q, rfl⟩ := itemK_form h4; have SA := boxSK (k := k) (v := v) ((h4.pull 4).pull 5)) | (go_at_call 139; (with_reducible refine (PU.out _ e _ _ h4).mono ?_); rintro x w4 ⟨q2, rfl, h5, k5⟩; have SB := boxSK (k := k) (v := v) ((h5.pull 4).pull 5)) | (go_at_call 138; (with_reducible refine (FI.out _ e _ _ h5).mono ?_); rintro x w5 ⟨ok, rt, mv, gv, A', F', T', made, gone', rfl, hL, h6, k6⟩; obtain ⟨mo, mc, rfl⟩ := h6.tLen; obtain ⟨go, gc, rfl⟩ := (h6.pull 1).tLen; have SC := boxSK (k := k) (v := v) ((h6.pull 4).pull 5); have r0 := (h6.pull 3).cell 0; have r1 := (h6.pull 3).cell 1; have r2 := (h6.pull 3).cell 2; have r3 := (h6.pull 3).cell 3; have rf0 := (h6.pull 3).free 0; have rf1 := (h6.pull 3).free 1; have rf2 := (h6.pull 3).free 2; have rf3 := (h6.pull 3).free 3; simp at r0 r1 r2 r3; have SD := boxSK (k := k) (v := v) ((((((h6.pull 3).set 0 (.int .i64 rt.s)).set 1 (.int .i64 rt.g)).set 2 (.slice mo made.length mc)).set 3 (.slice go gone'.length gc)).pull 4 |>.pull 5))))
 all_goals
   have h7 := ((((h6.pull 3).set 0 (.int .i64 rt.s)).set 1 (.int .i64 rt.g)).set 2 (.slice mo made.length mc)).set 3 (.slice go gone'.length gc)
   have k7 := (((((((k3.drew.trans k4).trans k5).trans k6).setCell ⟨R, 0, none⟩ (.int .i64 rt.s)).setCell ⟨R, 1, none⟩ (.int .i64 rt.g)).setCell ⟨R, 2, none⟩ (.slice mo made.length mc)).setCell ⟨R, 3, none⟩ (.slice go gone'.length gc))
   go_wp2_with fail
   exact bodyPost_ret (v := .tuple #[.agg #[.int .i64 rt.s, .int .i64 rt.g, .slice mo made.length mc, .slice go gone'.length gc], .bool ok]) (by simp [results, Tryz.results113, go_sem, r0, r1, r2, r3, rf0, rf1, rf2, rf3]) rfl ⟨ok, rt, .slice mo made.length mc, .slice go gone'.length gc, A', F', T', made, gone', rfl, hL, ((h7.tail.pull 3).tail.pull 3).tail, k7⟩
theorem mapS_del_any {C : Int → Int → Int} (hC : CmpOkS C) (k : Int) {t : HTS} {w : World} {m : Nat} {fr : List HProp} {most : Int} {A : List SlotS} {F : List Int} {G : Nat}
   (hs : Sat w (mapS m most A F :: fr)) (hR : RepO A t) (hH : HiOk t) (hW : WfA A F G) (hz : t.size < 100000) (hhas : (getT C k t).isSome = true)
   (hm0 : 0 ≤ most) (hm1 : most ≤ 1000000) (hA : (A.length : Int) ≤ most) (hG : G + 200000 < 1000000000000) :
   Calls Tryz.prog 116 #[.pointer (some ⟨m, 0, none⟩), .agg #[.int .i64 t.root.s, .int .i64 t.root.g], .int .i64 k] w (FinAS m (delT C k t).2 most A F G (delT C k t).1 fr w) := by
 have hgood : GoodS A t := ⟨hR.repF, hH, by omega⟩
 have hsz := delT_size C k t
 have hfs := freshT_size (delT C k t).1
 have hgp := hgood.del C k
 have hB := hs.alloc (.cells #[.int .i64 t.root.s, .int .i64 t.root.g] 56)
 have kB := (Kp.refl w).alloc (.cells #[.int .i64 t.root.s, .int .i64 t.root.g] 56)
 have hE := hB.alloc (.cells #[.int .i64 0, .int .i64 0, .slice none 0 0, .slice none 0 0] 200)
 have kE := kB.alloc (.cells #[.int .i64 0, .int .i64 0, .slice none 0 0, .slice none 0 0] 200)
 simp only [World.size_alloc] at hE
 clear hs hB kB
 have ge := fun (W : World) (l : List HProp) (hW' : Sat W (mapS m most A F :: l)) => mapS_get hC k hW' hR
 have it := fun (W : World) (e : Nat) (l : List HProp) (hW' : Sat W l) => itemS_item (e := e) hW' hR
 have pu := fun (W : World) (e : Nat) (p : Value) (l : List HProp) (hW' : Sat W (itemS t p :: editS e m [] :: mapS m most A F :: l)) => itemS_del hC k t hW' hgood (getT_has hhas) (by omega) (by simp; omega)
 have fi := fun (W : World) (e : Nat) (p : Value) (l : List HProp) (hW' : Sat W (itemS (delT C k t).1 p :: editS e m ([] ++ (delT C k t).2) :: mapS m most A F :: l)) => mapS_finish_any hW' hgp.rep hW (by omega) hm0 hm1 hA (by omega)
 obtain ⟨v, hv⟩ := Option.isSome_iff_exists.1 hhas
 rw [hv] at ge
 have GE := Lib.hid ge
 have IT := Lib.hid it
 have PU := Lib.hid pu
 have FI := Lib.hid fi
 clear ge it pu fi hgood hgp hR hW hG hhas hv
 go_enter Tryz.func116, Tryz.ntmps116
 go_upto_region 1 with (fail)
 generalize World.alloc _ _ = w1 at hE kE ⊢
 generalize w.heap.size + 1 = R at hE ⊢
 generalize w.heap.size = B at hE ⊢
 have s0 := (hE.pull 1).cell 0
 have s1 := (hE.pull 1).cell 1
 simp at s0 s1
 have hge := GE.out _ _ (hE.pull 2)
 go_wp2_with fail
 refine hge.mono ?_
 rintro x w2 ⟨rfl, h2, k2⟩
 have k2 := kE.trans k2
 clear hge hE kE
 have h2 := h2.alloc (.cells #[.bool v.inn, .int .i64 v.up, .string v.nm] 98)
 have k2 := k2.alloc (.cells #[.bool v.inn, .int .i64 v.up, .string v.nm] 98)
 have h3 := (h2.tNil fH 56 2).alloc (.cells #[.pointer (some ⟨m, 0, none⟩), .slice none 0 0] 241)
 have k3 := k2.alloc (.cells #[.pointer (some ⟨m, 0, none⟩), .slice none 0 0] 241)
 unfold ansVS
 simp only [Option.isSome_some]
 go_upto_region 5 with (fail)
 generalize World.alloc _ _ = w3 at h3 k3 ⊢
 simp only [World.size_alloc] at h3
 generalize w2.heap.size + 1 = e at h3 ⊢
 have h3 := editS_I h3
 have h3 := (h3.pull 1).push 2
 have s0 := (h3.pull 4).cell 0
 have s1 := (h3.pull 4).cell 1
 simp at s0 s1
 clear h2 k2
 go_wp2_with fail
 refine (IT.out _ e _ h3).mono ?_
 rintro x w4 ⟨p, rfl, h4, k4⟩
 obtain ⟨q, rfl⟩ := itemS_form h4
 go_wp2_with fail
 refine (PU.out _ e _ _ h4).mono ?_
 rintro x w5 ⟨q2, rfl, h5, k5⟩
 go_wp2_with fail
 refine (FI.out _ e _ _ h5).mono ?_
 rintro x w6 ⟨ok, rt, mv, gv, A', F', T', made, gone', rfl, hL, h6, k6⟩
 obtain ⟨mo, mc, rfl⟩ := h6.tLen
 obtain ⟨go, gc, rfl⟩ := (h6.pull 1).tLen
 have h6 := (h6.pull 3).push 4
 have r0 := (h6.pull 3).cell 0
 have r1 := (h6.pull 3).cell 1
 have r2 := (h6.pull 3).cell 2
 have r3 := (h6.pull 3).cell 3
 have rf0 := (h6.pull 3).free 0
 have rf1 := (h6.pull 3).free 1
 have rf2 := (h6.pull 3).free 2
 have rf3 := (h6.pull 3).free 3
 simp at r0 r1 r2 r3
 have hRl := (h6.pull 3).lt
 all_goals
   have h7 := ((((h6.pull 3).set 0 (.int .i64 rt.s)).set 1 (.int .i64 rt.g)).set 2 (.slice mo made.length mc)).set 3 (.slice go gone'.length gc)
   have k7 := (((((((k3.trans k4).trans k5).trans k6).setCell ⟨R, 0, none⟩ (.int .i64 rt.s)).setCell ⟨R, 1, none⟩ (.int .i64 rt.g)).setCell ⟨R, 2, none⟩ (.slice mo made.length mc)).setCell ⟨R, 3, none⟩ (.slice go gone'.length gc))
   go_wp2_with fail
   exact bodyPost_ret (v := .tuple #[.agg #[.int .i64 rt.s, .int .i64 rt.g, .slice mo made.length mc, .slice go gone'.length gc], .bool ok]) (by simp [results, Tryz.results116, go_sem, r0, r1, r2, r3, rf0, rf1, rf2, rf3]) rfl ⟨ok, rt, .slice mo made.length mc, .slice go gone'.length gc, A', F', T', made, gone', rfl, hL, ((h7.tail.pull 3).tail.pull 3).tail, k7⟩
end Go.Proofs.YtddglbjhhnipgaaGreatDoor
